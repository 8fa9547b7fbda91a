/- The logic of contracts; no conditions. -/
import Derived.Test.YtbebdmlomjpamaaGreatDoorAccA1
import Derived.Laws.Tables
set_option linter.all false
namespace Go.Lg
section
variable{P:Program}{C:Ctx}{E:Env}{σ:St}{a:Act}{w:World}{gl:Nat->Option (List PV)}{o:Oper}{T:Nat->Option TI}{note:xC}
def iU{n b len g h:Nat}{c:List (List V)}(d:ObOK E w n (.arr b g h c)){v:Value}(i:RepV E (.arr n b len) v):
  ∃e cap,E.g n=.slice e c.length cap/\v=.slice e len cap/\len<=c.length/\c.length<=cap/\c.length<=maxLen:=by
 have⟨f,_⟩:=id d
 grind[eU,RepV]
def aaS:=@Array.toArray_toList
theorem Ar(h:Ga C E σ a w)(W:GOK gl C.E0.H)(G:∀d,o.dst=some d->d<C.nt)(H:KB P T){args:Array Operand}{argTypes:Array Nat}(I:o.op=.call {callee:=.builtin .len,args,argTypes}){r:R}(J:r.cond)
  (f:gA T note (σ.val gl) (jA σ.objs) o.dst (.call {callee:=.builtin .len,args,argTypes})=some r):Sound P C E σ a w o r:=by
 simp only[gA]at f;split at f
 ·rename_i t x s j;have K:argTypes= #[t]:=by rw[<-aaS (xs:=argTypes),s]
  have L:args= #[x]:=by rw[<-aaS (xs:=args),j]
  subst K L;have i:=UA h W x;split at f
  ·rename_i e Q S U V s;have⟨d,g,m⟩:=(H t _ s).desc;simp only[yD]at m;subst m;have z:∀M n c,a.eval x=.slice M n c->OpRes P o a w (.int .i64 n) w:=by
    intro M n c F;refine .inl ?_;simp[execOp,I,resolve,invoke,builtin,Builtin.len_,F,fx g,goInt]
   unfold sN at f;split at f
   ·grind[RepV,RepP,kP]
   ·rename_i j;rw[j]at i;simp only[RepV,RepP]at i;cases f;exact kP h G (z _ _ _ i) trivial
   ·grind[RepV,RepP,kP]
   ·rename_i n N len j;rw[j]at i;split at f
    ·rename_i A sz ty X O;cases f;have J:N=A:=J;subst J;have⟨M,cap,B,F,Y,_,hm⟩:=iU (h.objs n _ O) i
     grind[kP]
    cases f
   cases f
  ·rename_i k v sk Q S U V s;have⟨d,g,m⟩:=(H t _ s).desc;simp only[yD]at m;obtain⟨rfl,_⟩:=m;unfold nR at f;split at f
   ·rename_i n j;rw[j]at i;simp only[RepV]at i;have⟨b,B,F⟩:=i;split at f
    ·rename_i s' X O;cases f;have⟨b',Z,ck,p,u,_,y,_⟩:=h.objs n _ O;rw[B]at p;cases p;refine kP h G (.inl ?_) trivial;have hl:=y.length;have D:(getObj b).run P w=.ok (.map Z ck) w:=by simp[getObj,Sem.run,u]
     simp[execOp,I,resolve,invoke,builtin,Builtin.len_,F,fx g,goInt,D,hl]
    cases f
   cases f
  ·rename_i Q S U V s;have⟨d,g,m⟩:=(H t _ s).desc;simp only[yD]at m;subst m;unfold FY at f;split at f
   ·rename_i l j;rw[j]at i;cases f;refine kP h G (.inl ?_) trivial;simp[execOp,I,resolve,invoke,builtin,i.1,run_len_string,g,ByteArray.size,goInt]
   cases f
  cases f
 cases f
def Br{t e:Nat}{f:TI}(b:TIOK P e f)(c:P.underlying t=some (.slice e)){d:Option Addr}{len cap l:Nat}(g:l<=len):
  (Instr.sliceAt t (.slice d len cap) (some (.int .i64 l)) none none).run P w=.ok (.slice (if cap=l then d else d.map (·.add (l*f.size))) (len-l) (cap-l)) w:=by
 simp[Instr.sliceAt,fx c,Instr.slice,Instr.sliceBounds,Instr.sliceBound,asIntOf,g,b.run_size]
def vg{t e:Nat}{f:TI}(c:TIOK P e f)(d:P.underlying t=some (.slice e)){b:Option Addr}{len cap k:Nat}(g:k<=cap):
  (Instr.sliceAt t (.slice b len cap) none (some (.int .i64 k)) none).run P w=.ok (.slice b k cap) w:=by
 have h:b.map (λx=>x.add 0)=b:=by cases b<;>simp[Addr.add]
 simp[Instr.sliceAt,fx d,Instr.slice,Instr.sliceBounds,Instr.sliceBound,asIntOf,g,c.run_size,h]
def Cr{t e:Nat}{f:TI}(c:TIOK P e f)(d:P.underlying t=some (.slice e)){b:Option Addr}{len cap:Nat}(g:len<=cap):
  (Instr.sliceAt t (.slice b len cap) none (some (.int .i64 len)) (some (.int .i64 len))).run P w=.ok (.slice b len len) w:=by
 have h:b.map (λx=>x.add 0)=b:=by cases b<;>simp[Addr.add]
 simp[Instr.sliceAt,fx d,Instr.slice,Instr.sliceBounds,Instr.sliceBound,asIntOf,g,c.run_size,h]
def Dr{t:Nat}(k:P.underlying t=some .string){l:List Nat}{e f:Option Value}{a b:Int}(m:e=none/\a=0\/e=some (.int .i64 a))(n:f=none/\b=l.length\/f=some (.int .i64 b))(p:0<=a)(s:a<=b)(u:b<=l.length):
  (Instr.sliceAt t (.string ⟨(l.map UInt8.ofNat).toArray⟩) e f none).run P w=.ok (.string ⟨(((l.drop a.toNat).take (b-a).toNat).map UInt8.ofNat).toArray⟩) w:=by
 obtain⟨i,rfl⟩:=aam p;obtain⟨j,rfl⟩:=aam (show 0<=b by omega);have r:(⟨(l.map UInt8.ofNat).toArray⟩:ByteArray).size=l.length:=by simp[ByteArray.size]
 have c:i<=j:=a6
 have d:j<=l.length:=a6
 have:(Instr.sliceBounds false l.length l.length e f none).run P w=.ok (i,j,l.length) w:=by
  rcases m with ⟨rfl,g⟩|rfl<;>rcases n with ⟨rfl,h⟩|rfl
  ·have g:i=0:=a6
   have h:j=l.length:=a6
   subst g h;rfl
  ·have g:i=0:=a6
   subst g;simp[Instr.sliceBounds,Instr.sliceBound,asIntOf,d]
  ·have h:j=l.length:=a6
   subst h;simp[Instr.sliceBounds,Instr.sliceBound,asIntOf,c]
  simp[Instr.sliceBounds,Instr.sliceBound,asIntOf,d,c]
 have:=ByteArray.extract_mk (l.map UInt8.ofNat) i j;simp only[Instr.sliceAt,hU,fx k,gW,Instr.slice,r];simp_all
def aaK:=@List.length_drop
def abb:=@Option.map_none
theorem Er(h:Ga C E σ a w)(O:GOK gl C.E0.H)(U:∀d,o.dst=some d->d<C.nt)(hT:KB P T){t:Nat}{x:Operand}{B u y:Option Operand}(W:o.op=.slice t x B u y){r:R}(Y:r.cond)
  (g:gA T note (σ.val gl) (jA σ.objs) o.dst (.slice t x B u y)=some r):Sound P C E σ a w o r:=by
 have j:=UA h O x;have nx:=TC (gl:=gl) h x;simp only[gA]at g;split at g
 ·rename_i e s1 s2 s3 s4 et;have⟨d,v,Z⟩:=(hT t _ et).desc;simp only[yD]at Z;subst Z;split at g
  ·rename_i te ee;have D:=hT e te ee;unfold tN at g;split at g
   ·rename_i H l F K z G;rw[F]at j;simp only[RepV,RepP]at j;have⟨I,cap,Q,L,J,i⟩:=j;cases g;have⟨M,X,h2⟩:=Y
    cases B with
    |none=>cases K
    |some B=>
     simp only[gw,e5]at K;have N:=UA h O B;rw[K]at N;have N:=CG N
     cases u with
     |some _=>cases z
     |none=>
      cases y with
      |some _=>cases G
      |none=>
       obtain⟨l,rfl⟩:=aam M;have hll:l<=H.length:=a6
       refine Sound.pure h (v:=.slice (if cap=l then I else I.map (·.add (l*te.size))) (H.length-l) (cap-l)) (.inl ?_) ?_ b0 U trivial
       ·simp only[execOp,W,gw,abb,Q,N];simp[Br D v hll]
       simp only[RepV,RepP,aaA,aaK];refine⟨_,_,rfl,a6,a6,?_⟩;rcases i with rfl|⟨b,off,rfl,i⟩
       ·simp
       by_cases he:l=H.length
       ·simp_all
       right;have hne:¬cap=l:=a6
       refine⟨b,off+l*te.size,?_,?_⟩
       ·grind[aN]
       rw[<-lo];exact i.dropE h2 l
   ·rename_i H k F K z G;rw[F]at j;simp only[RepV,RepP]at j;have⟨I,cap,Q,L,J,i⟩:=j;cases g;have⟨M,X⟩:=Y
    cases u with
    |none=>cases z
    |some u=>
     simp only[gw,e5]at z;have f:=UA h O u;rw[z]at f;have f:=CG f
     cases B with
     |some _=>cases K
     |none=>
      cases y with
      |some _=>cases G
      |none=>
       obtain⟨k,rfl⟩:=aam M;have hkk:k<=H.length:=a6
       refine Sound.pure h (v:=.slice I k cap) (.inl ?_) ?_ b0 U trivial
       ·simp only[execOp,W,gw,abb,Q,f];simp[vg D v (show k<=cap by omega)]
       simp only[RepV,RepP,aaA];have hkl:(H.take k).length=k:=a9
       refine⟨_,_,by rw[hkl],a6,a6,?_⟩;rcases i with rfl|⟨b,off,rfl,i⟩
       ·simp
       exact .inr ⟨b,off,rfl,i.takeE k⟩
   ·rename_i n ver len k F K z G;rw[F]at j nx;split at g
    ·rename_i ver' sz ty H eo;cases g;obtain⟨rfl,M,X⟩:=Y;have hob:=h.objs n _ eo;have⟨hver,_⟩:=id hob;have⟨I,cap,hgn,Q,hle,L,J⟩:=iU hob j
     cases u with
     |none=>cases z
     |some u=>
      simp only[gw,e5]at z;have f:=UA h O u;rw[z]at f;have f:=CG f
      cases B with
      |some _=>cases K
      |none=>
       cases y with
       |some _=>cases G
       |none=>
        obtain⟨k,rfl⟩:=aam M;refine Sound.pure h (v:=.slice I k cap) (.inl ?_) ?_ ?_ U trivial
        ·simp only[execOp,W,gw,abb,Q,f];simp[vg D v (show k<=cap by omega)]
        ·simp only[RepV,aaA];exact⟨a6,⟨_,_,_,rfl⟩,λ_=>⟨I,_,cap,hgn,rfl,a6⟩⟩
        intro m J;simp only[V.names]at J nx;exact nx m J
    cases g
   ·rename_i H k k2 F K z G;rw[F]at j;simp only[RepV,RepP]at j;have⟨I,cap,Q,L,J,i⟩:=j;cases g;have⟨M,X⟩:=Y;subst M X
    cases u with
    |none=>cases z
    |some u=>
     simp only[gw,e5]at z;have f:=UA h O u;rw[z]at f;have f:=CG f
     cases B with
     |some _=>cases K
     |none=>
      cases y with
      |none=>cases G
      |some y=>
       simp only[gw,e5]at G;have A:=UA h O y;rw[G]at A;have A:=CG A;refine Sound.pure h (v:=.slice I H.length H.length) (.inl ?_) ?_ b0 U trivial
       ·simp only[execOp,W,gw,abb,Q,f,A];simp[Cr D v L]
       simp only[RepV];exact⟨I,rfl,J,i⟩
   ·rename_i F;rw[F]at j;simp only[RepV,RepP]at j;have⟨S,g⟩:=Sq g;cases g;simp only[hP]at S;have hz:∀q:Option Operand,QJ (q.map (σ.val gl))=true->q=none\/∃q',q=some q'/\a.eval q'=.int .i64 0:=by
     intro q s
     cases q with
     |none=>exact .inl rfl|some q=>
      right;refine⟨q,rfl,?_⟩;have i:=UA h O q;simp only[gw]at s;unfold QJ at s;split at s
      ·rename_i e;cases e
      ·rename_i e;simp only[e5]at e;rw[e]at i;exact CG i
      cases s
    have run0:∀l h m:Option Value,(l=none\/l=some (.int .i64 0))->(h=none\/h=some (.int .i64 0))->(m=none\/m=some (.int .i64 0))->(m.isSome=true->h.isSome=true)->
      (Instr.sliceAt t (.slice none 0 0) l h m).run P w=.ok (.slice none 0 0) w:=by
     intro l h m hl hh J hmh;rcases hl with rfl|rfl<;>rcases hh with rfl|rfl<;>rcases J with rfl|rfl<;>
      first|(simp at hmh;done)|simp[Instr.sliceAt,fx v,Instr.slice,Instr.sliceBounds,Instr.sliceBound,asIntOf,D.run_size]
    have s:∀q:Option Operand,QJ (q.map (σ.val gl))=true->q.map a.eval=none\/q.map a.eval=some (.int .i64 0):=by
     intro q h;rcases hz q h with rfl|⟨q',rfl,e⟩
     ·exact .inl rfl
     exact .inr (by rw[gw,e])
    refine Sound.pure h (v:=.slice none 0 0) (.inl ?_) (by simp[RepV,RepP]) b0 U trivial;have i:=run0 (B.map a.eval) (u.map a.eval) (y.map a.eval) (s B S.1.1.1) (s u S.1.1.2) (s y S.1.2) (by
     intro J;have:=S.2;cases y<;>cases u<;>simp_all)
    simp only[execOp,W,j];simp[i]
   cases g
  cases g
 ·rename_i s1 s2 s3 s4 et;have⟨d,v,Z⟩:=(hT t _ et).desc;simp only[yD]at Z;subst Z;unfold sU at g;split at g
  ·rename_i l F G;rw[F]at j;simp only[RepV,RepP]at j;split at g
   ·rename_i a' b' ea eb;cases g;have⟨M,X,h2⟩:=Y;have hbd:∀(q:Option Operand)(d0 c:Int),UJ d0 (q.map (σ.val gl))=some c->(q.map a.eval=none/\c=d0)\/q.map a.eval=some (.int .i64 c):=by
     intro q d0 c s
     cases q with
     |none=>simp only[abb,UJ,e5]at s;exact .inl ⟨rfl,s.symm⟩|some q=>
      right;have i:=UA h O q;simp only[gw]at s⊢
      cases e:σ.val gl q with
      |pv p=>
       rw[e]at s i;cases p<;>simp only[UJ,e5,reduceCtorEq]at s;subst s;rw[CG i]
      |_=>rw[e]at s;simp[UJ]at s
    have A:y=none:=by cases y<;>simp at G;rfl
    subst A;have i:=Dr (P:=P) (w:=w) v (l:=l) (hbd B 0 a' ea) (hbd u l.length b' eb) M X h2;refine Sound.pure h (v:=.string ⟨(((l.drop a'.toNat).take (b'-a').toNat).map UInt8.ofNat).toArray⟩) (.inl ?_) ?_ b0 U trivial
    ·simp only[execOp,W,abb,j.1];simp[i]
    exact⟨by first|rfl|trivial,λb S=>j.2 b (abf (aay S))⟩
   cases g
  cases g
 cases g
theorem Fr(h:Ga C E σ a w)(n:GOK gl C.E0.H)(p:∀d,o.dst=some d->d<C.nt)(s:KB P T){t:Nat}{x i:Operand}(u:o.op=.index t x i){r:R}(v:r.cond)
  (b:gA T note (σ.val gl) (jA σ.objs) o.dst (.index t x i)=some r):Sound P C E σ a w o r:=by
 have e:=UA h n x;have c:=UA h n i;simp only[gA]at b;split at b
 ·rename_i F G H I y;have⟨d,f,g⟩:=(s t _ y).desc;subst g;unfold GY at b;split at b
  ·rename_i l k z A;rw[z]at e;rw[A]at c;simp only[RepV,RepP]at e;have c:=CG c;cases b;have⟨B,J⟩:=v;obtain⟨k,rfl⟩:=aam B;have g:k<l.length:=a6
   have j:(⟨(l.map UInt8.ofNat).toArray⟩:ByteArray).size=l.length:=by simp[ByteArray.size]
   have m:(⟨(l.map UInt8.ofNat).toArray⟩:ByteArray)[k]? =some (UInt8.ofNat l[k]):=by
    rw[ByteArray.getElem?_lt' _ _ (by rw[j];exact g)];simp[ByteArray.getElem_eq_getElem_data]
   have D:(UInt8.ofNat l[k]).toNat=l[k]:=bS
   refine Sound.pure h (v:=.int .u8 l[k]) (.inl ?_) ?_ b0 p trivial
   ·simp[execOp,u,e.1,c,Instr.index,asIntOf,hU,fx f,m,D]
   grind[RepV,RepP,Int.toNat_natCast]
  cases b
 cases b
end
section
variable{P:Program}{C:Ctx}{E:Env}{σ:St}{a:Act}{w:World}{gl:Nat->Option (List PV)}{o:Oper}{T:Nat->Option TI}{note:xC}
def Hle.zero(H:Hp):Hle (λ_=>[]) H:=λ_=>List.nil_prefix
def aR(h:HeapOK E w)(d:Obj)(e:Env)(i:e.H=E.H):HeapOK e (w.alloc d):=by
 intro b f;rw[i]at f⊢;have⟨c,T,j,g,k⟩:=h b f;exact⟨c,T,j,by rw[heap_alloc_old w d b (aal.1 g).1];exact g,k⟩
def Sound.newBox(h:Ga C E σ a w)(p:∀d,o.dst=some d->d<C.nt){n t:Nat}{f:List V}{c:Array Value}{r:Prop}(l:n∉σ.used)
  (s:c.size=f.length) (u:RepVL E f c.toList) (v:∀m∈GA f,m∈σ.used)
  (g:OpRes P o a w (.pointer (some ⟨w.heap.size,0,none⟩)) (w.alloc (.cells c t))):
  Sound P C E σ a w o ⟨r,True,.loc n 0,some (n,.box f),true⟩:=by
 let E':Env:={E with g:=λm=>if m=n then .pointer (some ⟨w.heap.size,0,none⟩)else E.g m};have i:E'.g n=.pointer (some ⟨w.heap.size,0,none⟩):=by simp[E']
 have x:∀m,m≠n->E'.g m=E.g m/\E'.ver m=E.ver m/\E'.sz m=E.sz m:=λm j=>⟨c5,rfl,rfl⟩
 refine⟨_,_,E',g,?_,trivial⟩;refine h.change (E':=E') n (some (.box f)) (HB σ.objs n (.box f)) (n::σ.used) o.dst (.loc n 0) _ (λm=>QD _ _ _ _) (Hle.refl _) x (λk=>absurd k l) (λk=>absurd k l)
  a8 ⟨rfl,rfl,rfl⟩ (λb y _=>⟨heap_alloc_old w _ b y,rfl⟩) (aR h.heap _ E' rfl) ?_ ?_ (λm j=>by simp[j]) ?_ ?_ p
 ·intro z e;cases e;refine⟨⟨w.heap.size,c,t,i,heap_alloc_new w _,s,?_,h.heap.lt (e6 _)⟩,a8,λm j=>by grind[Ob.names]⟩;refine RepVL.mono (E:=E) (E':=E') (Hle.refl E.H) f _ _ ie (λm j=>?_) u
  grind[EExt.of_eq]
 ·grind[HA]
 ·exact⟨_,i,rfl⟩
 simp[V.names]
def Ga.newRow(h:Ga C E σ a w){dst:Option Nat}(p:∀d,dst=some d->d<C.nt)(t:Nat)(c:Array Value){x:V}{v:Value}(r:∀f,Hle E.H f->f w.heap.size=c.toList.map sn->RepV {E with H:=f} x v)
  (i:∀n∈x.names,n∈σ.used):∃s,Ga C s ⟨cD dst x σ.slots,σ.objs,σ.used⟩ (a.put dst v) (w.alloc (.cells c t)):=by
 let f:Hp:=λb=>if b=w.heap.size then c.toList.map sn else E.H b
 have:E.H w.heap.size=[]:=h.heap.lt (e6 _);have k:Hle E.H f:=by
  intro b
  grind
 have g:f w.heap.size=c.toList.map sn:=by simp[f]
 refine⟨{E with H:=f},?_⟩;refine h.pure f dst x v k a8 ⟨rfl,rfl,rfl⟩ (λb l=>⟨heap_alloc_old w _ b l,?_⟩) ?_ (r f k g) i p
 ·grind
 intro b l;by_cases e:b=w.heap.size
 ·subst e;refine⟨c,t,(0,0),heap_alloc_new w _,?_,.inl rfl⟩
  grind[Msk,Msk.sn]
 have j:E.H b≠[]:=c5
 have⟨u,y,z,m,B⟩:=h.heap b j;refine⟨u,y,z,?_,c5,c5⟩;rw[heap_alloc_old w _ b (aal.1 m).1];exact m
def Ga.drew(h:Ga C E σ a w):Ga C E σ a w.drew:=
 ⟨h.slots,h.size,h.defers,h.heap,h.objs,h.apart,h.usedS,h.usedO,h.usedG,h.grown,h.rest,h.same,h.hle,h.own,h.ext,h.keep⟩
def Sound.newRow(h:Ga C E σ a w)(g:∀d,o.dst=some d->d<C.nt){t:Nat}{c:Array Value}{i:Prop}{x:V}{v:Value}(j:∀e,Hle E.H e->e w.heap.size=c.toList.map sn->RepV {E with H:=e} x v)
  (f:∀n∈x.names,n∈σ.used) (b:OpRes P o a w v (w.alloc (.cells c t))):Sound P C E σ a w o ⟨i,True,x,none,false⟩:=by
 have⟨k,l⟩:=h.newRow g t c j f;exact⟨v,_,k,b,l,trivial⟩
def oU{x:V}{d:List V}{v:Value}(h:AG x=some d)(s:RepV E x v):v.cells.size=d.length/\RepVL E d v.cells.toList/\∀m∈GA d,m∈x.names:=by
 have one:∀g:Value,(∀c,g≠.agg c)->g.cells= #[g]:=by intro g z;cases g<;>first|rfl|simp_all
 unfold AG at h;split at h
 ·cases h;obtain⟨A,rfl,u,y⟩:=s;refine⟨by simpa[Value.cells]using u,by have:=RepVL.ofPv y;simp only[CA]at this;simpa[Value.cells]using this,?_⟩;intro m r;have:=pR;simp only[CA]at this;rw[this]at r;simp at r
 ·cases h
 ·cases h;obtain⟨A,rfl,u,y⟩:=s;exact⟨by simpa[Value.cells]using u,by simpa[Value.cells]using y,λm r=>by grind[V.names]⟩
 ·cases h
 ·cases h
 cases h;have B:∀c,v≠.agg c:=by
  intro c e;subst e
  cases x with
  |undef=>simp_all|pv p=>
   cases p with|agg d=>simp_all|tuple d=>simp_all|slice j=>grind[RepV,RepP]|ptr j=>grind[RepV,RepP]|iface t p=>grind[RepV,RepP]|nptr j=>grind[RepV,RepP]|num k n=>grind[RepV,RepP]|flg b=>grind[RepV,RepP]|_=>simp[RepV,RepP]at s
  |agg d=>simp_all|tuple d=>simp_all|fn f d=>grind[RepV]|bfn f d=>grind[RepV]|loc n off=>grind[RepV]|eloc n l i off=>grind[RepV]|arr n l len=>grind[RepV]|vsl j=>grind[RepV]|fsl j=>grind[RepV]|gsl n l j=>grind[RepV,RepP]|map n=>grind[RepV]
 rw[one v B];exact⟨rfl,by grind[RepVL],λm r=>by grind[GA]⟩
def Gr{H:Hp}{p:PV}{d:List PV}{v:Value}(h:CY p=some d)(c:RepP H p v):v.cells.size=d.length/\RepL H d v.cells.toList:=by
 unfold CY at h;split at h
 ·cases h;obtain⟨i,rfl,f,g⟩:=c;exact⟨by simpa[Value.cells]using f,by simpa[Value.cells]using g⟩
 ·cases h
 cases h;have:v.cells= #[v]:=by
  cases p with|agg d=>simp_all|tuple d=>simp_all|slice e=>obtain⟨_,_,rfl,_⟩:=c;rfl|ptr e=>obtain⟨_,_,rfl,_⟩:=c;rfl|iface t p=>obtain⟨_,rfl,_⟩:=c;rfl|nptr e=>obtain⟨_,_,rfl,_⟩:=c;rfl|num k n=>rw[c.1];rfl|str l=>rw[c.1];rfl|flg b=>obtain⟨_,rfl,_⟩:=c;rfl|_=>subst c;rfl
 rw[this];exact⟨rfl,by grind[RepL]⟩
def gB:=@List.length_map
theorem Hr(h:Ga C E σ a w)(f:∀d,o.dst=some d->d<C.nt)(g:KB P T){t:Nat}(i:o.op=.alloc t){r:R}{val:Operand->V}{b:Nat->Option Ob}
  (j:gA T note val b o.dst (.alloc t)=some r) (e:∀n x,r.wr=some (n,x)->r.new=true->n∉σ.used):Sound P C E σ a w o r:=by
 have key:∀(c:TI)(n:Nat),T t=some c->n∉σ.used->Sound P C E σ a w o ⟨True,True,.loc n 0,some (n,.box (CA c.zc)),true⟩:=by
  intro c n k e;have b:=g t c k;refine Sound.newBox h f (t:=t) (c:=c.zero.cells) e (by rw[b.zlen,CA,gB,b.zc]) ?_ (by simp[pR]) (.inl ?_)
  ·exact RepVL.ofPv (RepL.mono (Hle.zero _) _ _ _ ie b.zcells)
  simp[execOp,i,Instr.alloc,b.run_zero,newVar,newRow]
 simp only[gA]at j
 grind
theorem Ir(h:Ga C E σ a w)(s:GOK gl C.E0.H)(j:∀d,o.dst=some d->d<C.nt){t:Nat}{x:Operand}(u:o.op=.box t x){r:R}{v:Nat->Option Ob}
  (b:gA T note (σ.val gl) v o.dst (.box t x)=some r) (y:∀n x,r.wr=some (n,x)->r.new=true->n∉σ.used):Sound P C E σ a w o r:=by
 have f:=UA h s x;have z:=TC (gl:=gl) h x;have c:OpRes P o a w (.pointer (some ⟨w.heap.size,0,none⟩)) (w.alloc (.cells (a.eval x).cells t)):=.inl (by simp[execOp,u,Instr.box,newVar,newRow]);simp only[gA]at b;split at b
 ·split at b
  ·rename_i k g;split at b
   ·cases b;have⟨l,i,A⟩:=oU g f;exact Sound.newBox h j (y _ _ rfl rfl) l i (λm B=>z m (A m B)) c
   cases b
  cases b
 split at b
 ·rename_i p D;split at b
  ·rename_i k g;cases b;rw[D]at f;have⟨l,i⟩:=Gr g f;refine Sound.newRow h j (λG F e=>?_) b0 c;simp only[RepV,RepP];refine⟨_,0,rfl,?_⟩;rw[e];exact RepL.mono F k _ _ ie i.sn
  cases b
 cases b
def aaD:=@Nat.add_assoc
def hW:=@List.length_cons
def LY(off:Nat):∀(b:List Value)(k:Nat)(cells:Array Value),off+k+b.length<=cells.size->
  ((b.zipIdx k).foldl (λc(p:Value×Nat)=>c.setIfInBounds (off+p.2) p.1) cells).toList=cells.toList.take (off+k)++b++cells.toList.drop (off+k+b.length)
 |[],k,cells,_=>by simp|y::b,k,cells,h=>by
  simp only[List.zipIdx_cons,List.foldl_cons];rw[LY off b (k+1) _ (by simp at h⊢;omega)];simp only[hW]at h⊢;have e:=list_seg_step cells.toList (off+k) y b a9;simpa[Array.toList_setIfInBounds,aaD,abd 1]using e
theorem wg{b c:List V}{off:Nat}{vs us:List Value}(d:vs.length=b.length)(e:us.length=c.length)(d:off+c.length<=b.length)(d:RepVL E b vs)(f:RepVL E c us):
  RepVL E (oE b off c) (vs.take off++us++vs.drop (off+us.length)):=by
 refine RepVL.append ?_ (RepVL.append ?_ (d.take off) f) ?_
 ·simp;omega
 ·simp;omega
 rw[e];exact d.drop _
def xU(b c:List V)(off:Nat)(d:off+c.length<=b.length:=by omega):(oE b off c).length=b.length:=by
 grind[oE]
def eh:=@List.mem_append
theorem MY(e f:List V)(off:Nat):∀m∈GA (oE e off f),m∈GA e\/m∈GA f:=by
 intro m d;have⟨c,b,d⟩:=mem_namesL.1 d;simp only[oE,eh]at b;rcases b with (b|b)|b
 ·exact .inl (mem_namesL.2 ⟨c,aay b,d⟩)
 ·exact .inr (mem_namesL.2 ⟨c,b,d⟩)
 exact .inl (mem_namesL.2 ⟨c,abf b,d⟩)
def abu:=@Array.toList_zipIdx
def aby:=@Array.foldl_toList
def e9:=@if_neg
def i2:=@List.map_nil
def ky:=@Array.length_toList
def NY{fs:List (Nat×Nat)}{place:Nat->Option (Nat×Nat)}(l:∀i p,fs[i]? =some p->place i=some p):
  ∀(parts:List (Nat×Operand))(d c:List V)(cells:Array Value),cells.size=d.length->RepVL E d cells.toList->(∀m∈GA d,m∈σ.used)->
   Ga C E σ a w->GOK gl C.E0.H->aH fs d (parts.map λp=>(p.1,σ.val gl p.2))=some c->
   ∃b,Instr.fill place cells (parts.map λp=>(p.1,a.eval p.2))=some b/\b.size=c.length/\RepVL E c b.toList/\∀m∈GA c,m∈σ.used
 |[],d,c,cells,n,r,s,_,_,f=>by
  simp only[i2,aH,e5]at f;subst f;exact⟨cells,rfl,n,r,s⟩
 |(i,x)::parts,d,c,cells,n,r,s,h,t,f=>by
  simp only[gF,aH]at f;split at f
  ·rename_i off size u v y;split at f
   ·have⟨B,D,F⟩:=oU y (UA h t x);have z:off+(a.eval x).cells.size<=cells.size:=a6
    have e:=LY off (a.eval x).cells.toList 0 cells a6;have A:=NY l parts (oE d off u) c ((a.eval x).cells.zipIdx.foldl (λd(p:Value×Nat)=>d.setIfInBounds (off+p.2) p.1) cells)
     (by
      rw[<-ky,<-aby,abu,e,xU d u off];simp;omega)
     (by
      rw[<-aby,abu,e]
      grind[wg])
     (by
      grind[MY,TC]) h t f
    have⟨b,j,g⟩:=A;refine⟨b,?_,g⟩;have k:¬((a.eval x).cells.size≠size\/off+(a.eval x).cells.size>cells.size):=a6
    simp only[gF,Instr.fill,l i _ v];rw[e9 bS];exact j
   cases f
  cases f
def abh:=@List.cons.injEq
def kg{P:Program}:∀{c:List Field}{b:List (Nat×Nat)},c.map (λx=>(x.offset,(P.info? x.type).map (·.size)))=b.map (λp=>(p.1,some p.2))->
  c.mapM (λf=>(P.info? f.type).map λi=>(f.offset,i.size))=some b
 |[],b,h=>by
  simp_all
 |f::c,b,h=>by
  cases b with
  |nil=>simp at h|cons p b=>
   simp only[gF,abh,aaQ]at h;have⟨⟨j,d⟩,e⟩:=h;have:=kg (P:=P) e
   cases g:P.info? f.type with
   |none=>rw[g]at d;cases d
   |some i=>
    simp_all
theorem Jr(h:Ga C E σ a w)(K:GOK gl C.E0.H)(L:∀d,o.dst=some d->d<C.nt)(y:KB P T){t:Nat}{parts:Array (Nat×Operand)}(M:o.op=.build t parts){r:R}{N:Nat->Option Ob}
  (f:gA T note (σ.val gl) N o.dst (.build t parts)=some r):Sound P C E σ a w o r:=by
 simp only[gA]at f;split at f
 ·rename_i fs pl O Q z u A;have c:=y t _ A;have⟨d,j,x⟩:=c.desc;simp only[yD]at x;obtain⟨Y,rfl,v,_⟩:=x
  cases k:aH fs (CA u) (parts.toList.map λp=>(p.1,σ.val gl p.2))with
  |none=>rw[k]at f;cases f
  |some B=>
   rw[k]at f;simp only[gw,e5]at f;subst f;have⟨b,g,S,l,D⟩:=NY (gl:=gl) (fs:=fs) (place:=λi=>fs.toArray[i]?) a8 parts.toList (CA u) B z.cells
    (by rw[c.zlen];simp[CA];exact c.zc.symm) (RepVL.ofPv (RepL.mono (Hle.zero _) _ _ _ ie c.zcells)) (by simp[pR]) h K k
   refine Sound.pure h (v:=.agg b) (.inl ?_) ?_ (λm F=>D m (cU _ m F)) L trivial
   ·have⟨U,n,_,_,G⟩:=c.info;have V:P.built t (parts.toList.map λp=>(p.1,a.eval p.2))=some b:=by
     simp only[Program.built,n,j,G,kg v];exact g
    have l:=run_build (P:=P) w t (parts.map λp=>(p.1,a.eval p.2)) b bS;simp only[execOp,M,hU];rw[l];rfl
   have:=aU (vs:=b.toList) a6 l;omega
 ·rename_i m e O Q z u A;have c:=y t _ A;have⟨d,j,x⟩:=c.desc;subst x;split at f
  ·rename_i s W;have H:=y e s W
   cases k:aH (kL s.size m 0) (CA u) (parts.toList.map λp=>(p.1,σ.val gl p.2))with
   |none=>rw[k]at f;cases f
   |some B=>
    rw[k]at f;simp only[gw,e5]at f;subst f;have⟨b,g,S,l,D⟩:=NY (gl:=gl) (fs:=kL s.size m 0) (place:=λi=>some (i*s.size,s.size)) (by
      intro i p X;have:=Rq s.size m 0 i p X;rw[this];simp) parts.toList (CA u) B z.cells
     (by rw[c.zlen];simp[CA];exact c.zc.symm) (RepVL.ofPv (RepL.mono (Hle.zero _) _ _ _ ie c.zcells)) (by simp[pR]) h K k
    refine Sound.pure h (v:=.agg b) (.inl ?_) ?_ (λm F=>D m (cU _ m F)) L trivial
    ·have⟨U,n,_,_,G⟩:=c.info;have⟨Z,I,J,_⟩:=H.info;have V:P.built t (parts.toList.map λp=>(p.1,a.eval p.2))=some b:=by
      simp only[Program.built,n,j,G,I,J];exact g
     have l:=run_build (P:=P) w t (parts.map λp=>(p.1,a.eval p.2)) b bS;simp only[execOp,M,hU];rw[l];rfl
    have:=aU (vs:=b.toList) a6 l;omega
  cases f
 cases f
end
theorem Kr{E:Env}{x:V}{v:Value}(h:x.one=true)(a:RepV E x v):v.oneCell'=true:=by
 cases x with
 |undef=>grind[V.one]|pv p=>
  cases p with|agg c=>grind[V.one]|tuple c=>grind[V.one]|slice d=>obtain⟨_,_,rfl,_⟩:=a;rfl|ptr d=>obtain⟨_,_,rfl,_⟩:=a;rfl|iface t p=>obtain⟨_,rfl,_⟩:=a;rfl|nptr d=>obtain⟨_,_,rfl,_⟩:=a;rfl|num k n=>rw[a.1];rfl|str l=>rw[a.1];rfl|flg b=>obtain⟨_,rfl,_⟩:=a;rfl|_=>subst a;rfl
 |agg c=>grind[V.one]|tuple c=>grind[V.one]|fn f c=>obtain⟨_,rfl,_⟩:=a;rfl|bfn f c=>obtain⟨_,rfl,_⟩:=a;rfl|loc n off=>obtain⟨_,_,rfl⟩:=a;rfl|eloc n e i off=>obtain⟨_,⟨_,rfl⟩,_⟩:=a;rfl|arr n e len=>obtain⟨_,⟨_,_,_,rfl⟩,_⟩:=a;rfl|vsl d=>obtain⟨_,_,rfl,_⟩:=a;rfl|fsl d=>obtain⟨_,rfl,_⟩:=a;rfl|gsl n e d=>obtain⟨⟨_,_,rfl,_⟩,_⟩:=a;rfl|map n=>obtain⟨_,_,rfl⟩:=a;rfl
def e8:=@List.mem_cons
def OY{E:Env}:∀{b:List V}{d:List Value},b.all V.one=true->d.length=b.length->RepVL E b d->∀v∈d,v.oneCell'=true
 |[],[],_,_,_,v,a=>by simp at a|[],_::_,_,e,_,_,_=>by simp at e|c::b,[],_,_,_,v,a=>by simp at a|c::b,u::d,h,e,r,v,a=>by
  simp only[List.all_cons,hP]at h;simp only[RepVL]at r;rcases e8.1 a with rfl|a
  ·grind[Kr]
  exact OY h.2 (by simpa using e) r.2 v a
section
variable{P:Program}{C:Ctx}{E:Env}{σ:St}{a:Act}{w:World}{gl:Nat->Option (List PV)}{o:Oper}{T:Nat->Option TI}{note:xC}
def Lr(f:HeapOK E w){g:Nat}(h:E.H g=[])(c:Array Value):HeapOK E (w.setRow g c):=by
 intro b d;have:b≠g:=λe=>d (e▸h)
 have⟨i,T,j,k,l⟩:=f b d;exact⟨i,T,j,by rw[setRow_other w g b c this];exact k,l⟩
def cR{α:Type}(l b:List α)(off j:Nat)(h:off+b.length<=l.length:=by omega):
  (l.take off++b++l.drop (off+b.length))[j]? =if j<off then l[j]? else if j<off+b.length then b[j-off]? else l[j]?:=by
 grind
def aaB:=@Option.some.inj
def Ga.setMark(h:Ga C E σ a w){g off z:Nat}{p c:Bool}{f:Array Value}(y:(E.H g)[off]? =some (mark p))(k:w.heap[g]? =some (.cells f z (0,0)))(K:c=true->p=true)
  {dst:Option Nat} {x:V} {v:Value} (L:RepV E x v) (A:∀m∈x.names,m∈σ.used) (M:∀d,dst=some d->d<C.nt):
  Ga C E ⟨cD dst x σ.slots,σ.objs,σ.used⟩ (a.put dst v) (w.setRow g (f.toList.take off++[Value.bool c]++f.toList.drop (off+1)).toArray):=by
 have B:E.H g≠[]:=c5
 refine h.pureF E.H dst x v (Hle.refl _) a8 ⟨rfl,rfl,rfl⟩ (λb n=>⟨λD=>?_,rfl⟩) ?_ L A M
 ·by_cases e:b=g
  ·subst e;exact absurd rfl (D _ (gg y) p)
  exact setRow_other w g b _ e
 intro b N;by_cases e:b=g
 ·subst e;have⟨G,R,H,j,s,O⟩:=h.heap b B;rw[k]at j;cases j;refine⟨_,z,(0,0),setRow_heap w b f _ z _ k,?_,.inl rfl⟩;have⟨S,F,_⟩:=s.2.2 off p y;have n:off<f.toList.length:=(gf.1 F).1;have l:∀i,(f.toList.take off++[Value.bool c]++f.toList.drop (off+1))[i]? =if i=off then some (.bool c)else f.toList[i]?:=by
   intro i;rw[show off+1=off+[Value.bool c].length from rfl,cR _ _ _ _ (by simp at n⊢;omega)];by_cases I:i<off
   ·rw[gm I,e9 a6]
   rw[e9 I];by_cases J:i=off
   ·subst J;simp
   rw[e9 a9,e9 J]
  refine⟨?_,λi u r Q t=>?_,λi q r=>?_⟩
  ·have:=s.1;simp at this n⊢;omega
  ·rw[l];have:i≠off:=by
    intro e;subst e;rw[y]at r;cases r;exact t p rfl
   rw[e9 this];exact s.2.1 i u r Q t
  rw[l];by_cases e:i=off
  ·subst e;rw[y]at r;have:=Qf (aaB r);subst this;exact⟨c,a8,K⟩
  rw[e9 e];exact s.2.2 i q r
 have⟨G,T,H,j,s⟩:=h.heap b N;exact⟨G,T,H,by rw[setRow_other w g b _ e];exact j,s⟩
def Ga.setRow(h:Ga C E σ a w){n g A:Nat}{j ob':Ob}{l c:Array Value}(k:jA σ.objs n=some j)(p:j.gr=false)(y:HA (E.g n)=some g)(z:w.heap[g]? =some (.cells l A (0,0)))
  (r:ObOK E (w.setRow g c) n ob') (s:∀m∈ob'.names,m∈σ.used) {f:Option Nat} {x:V} {v:Value} (B:RepV E x v) (t:∀m∈x.names,m∈σ.used) (D:∀d,f=some d->d<C.nt):
  Ga C E ⟨cD f x σ.slots,HB σ.objs n ob',σ.used⟩ (a.put f v) (w.setRow g c):=by
 have i:=(h.objs n j k).free p y;refine h.change (E':=E) n (some ob') (HB σ.objs n ob') σ.used f x v (λm=>QD _ _ _ _) (Hle.refl _) (λ_ _=>⟨rfl,rfl,rfl⟩) (λ_=>EExt.refl _ _) (λ_=>⟨j,k⟩) a8 ⟨rfl,rfl,rfl⟩
  (λb F u=>⟨setRow_other w g b c (λe=>u j k (e▸y)),rfl⟩) (Lr h.heap i c) ?_ ?_ (λ_ h=>h) B t D
 ·intro G e;cases e;exact⟨r,(h.usedO n j k).1,s⟩
 simp_all
def RepVL.iff:∀{cs:List V}{vs:List Value},RepVL E cs vs↔∀(j:Nat)(c:V),cs[j]? =some c->∃v,vs[j]? =some v/\RepV E c v
 |[],vs=>by simp[RepVL]|c::cs,[]=>by
  simp only[RepVL,false_iff];intro h;have⟨v,b,_⟩:=h 0 c rfl;simp at b
 |c::cs,v::vs=>by
  simp only[RepVL,RepVL.iff (cs:=cs) (vs:=vs)];constructor
  ·grind
  intro h;refine⟨?_,λj d f=>by simpa using h (j+1) d bS⟩;have⟨g,e,i⟩:=h 0 c rfl;simp_all
def RepVE.iff{s:Nat}:∀{es:List (List V)}{vs:List Value},(∀e∈es,e.length=s)->(RepVE E es vs↔∀(i:Nat)(e:List V),es[i]? =some e->RepVL E e (vs.drop (i*s)))
 |[],vs,_=>by simp[RepVE]|e::es,vs,b=>by
  have d:e.length=s:=b e a8;simp only[RepVE,d,RepVE.iff (es:=es) (vs:=vs.drop s) (λx f=>b x (by simp[f])),lo];constructor
  ·rintro⟨j,k⟩ i c g
   cases i with|zero=>simp_all|succ i=>grind
  intro h;refine⟨by simpa using h 0 e rfl,λi c g=>by simpa[lr,abd]using h (i+1) c bS⟩
def aap:=@Nat.mul_le_mul_right
def aaw:=@List.getD_eq_getElem?_getD
def abi:=@List.mem_or_eq_of_mem_set
def e7:=@List.getElem?_eq_getElem
theorem RepVE.put{s:Nat}{f:List (List V)}{h ys':List Value}{i off:Nat}{ys:List V}(t:RepVE E f h)(r:∀e∈f,e.length=s)(B:i<f.length)(L:off+ys.length<=s)(M:ys'.length=ys.length)
  (G:RepVL E ys ys') (H:(i+1)*s<=h.length):RepVE E (f.set i (oE (f.getD i []) off ys)) (h.take (i*s+off)++ys'++h.drop (i*s+off+ys'.length)):=by
 have m:f[i]? =some (f.getD i []):=by rw[aaw,e7 B];simp
 have u:(f.getD i []).length=s:=r _ (gg m);have n:(oE (f.getD i []) off ys).length=s:=by rw[xU _ _ _,u]
 have x:(i+1)*s=i*s+s:=lr i s;rw[RepVE.iff r]at t;rw[RepVE.iff (s:=s)]
 ·intro k e l;rw[RepVL.iff];intro j c d;rw[aba,cR h ys' (i*s+off) _];rw[List.getElem?_set]at l;by_cases g:i=k
  ·subst g;simp only[if_true,B]at l;cases l;have y:j<s:=by rw[<-n];exact(gf.1 d).1
   unfold oE at d;rw[cR _ _ _ _]at d;have b:∀c,(f.getD i [])[j]? =some c->∃v,h[i*s+j]? =some v/\RepV E c v:=by
    intro c I;have:=RepVL.iff.1 (t i _ m) j c I;simpa using this
   by_cases D:j<off
   ·rw[gm D]at d;rw[gm a6];exact b c d
   rw[e9 D]at d;rw[e9 a6];by_cases F:j<off+ys.length
   ·rw[gm F]at d;rw[gm a6];have:=RepVL.iff.1 G (j-off) c d;rwa[show i*s+j-(i*s+off)=j-off by omega]
   rw[e9 F]at d;rw[e9 a6];exact b c d
  simp only[g,if_false]at l;have y:j<s:=by rw[<-r e (gg l)];exact(gf.1 d).1
  have b:=RepVL.iff.1 (t k e l) j c d;rw[aba]at b;rcases Nat.lt_or_gt_of_ne g with z|A
  ·have J:(i+1)*s<=k*s:=aap _ z;rw[e9 a6,e9 a6];exact b
  have J:(k+1)*s<=i*s:=aap _ A;have K:(k+1)*s=k*s+s:=lr k s;rw[gm a6];exact b
 intro e p;rcases abi p with p|p
 ·exact r e p
 rw[p];exact n
def aaa{p:Prop}(h:p:=by simp[RepV]):=h
def gz:=@List.length_append
def ir:=@Nat.add_zero
theorem Mr(h:Ga C E σ a w)(hg:GOK gl C.E0.H)(hT:KB P T){t:Nat}{x y:Operand}(ho:o.op=.store t x y){r:R}(hc:r.cond)
  (A:gA T note (σ.val gl) (jA σ.objs) o.dst (.store t x y)=some r):Sound P C E σ a w o r:=by
 have J:=UA h hg x;have hy:=UA h hg y;have ny:=TC (gl:=gl) h y;simp only[gA]at A;split at A
 ·rename_i ti hdn et;have hd:∀d,o.dst=some d->d<C.nt:=bS
  have hti:=hT t ti et;unfold pN at A;split at A
  ·cases A
  rename_i ys ey;have⟨z,Y,hy3⟩:=oU ey hy;have K:∀(g off Z:Nat)(s:Array Value),a.eval x=.pointer (some ⟨g,off,none⟩)->w.heap[g]? =some (.cells s Z (0,0))->off+ys.length<=s.size->ys.length=ti.size->ys.all V.one=true->
    OpRes P o a w undef (w.setRow g (s.toList.take off++(a.eval y).cells.toList++s.toList.drop (off+ys.length)).toArray):=by
   intro g off Z s S hcur hle G hone;refine .inr ⟨?_,rfl⟩;have hst:=run_storeCells_at P g off Z (a.eval y).cells.toList 0 s w hcur bS (OY hone a6 Y);simp only[ir,ky,z]at hst;simp[execOp,ho,Instr.storeAt,Instr.sureAddr,S,storeVar,hti.run_size,z,G,hst]
  split at A
  ·rename_i n off ex;rw[ex]at J;split at A
   ·rename_i cs U;cases A;have⟨O,H,hc3⟩:=hc;have⟨b,c,T',B,f,G,hr,F⟩:=id (h.objs n _ U);simp only[RepV]at J;have⟨b',D,S⟩:=J;rw[B]at D;cases D;refine⟨undef,_,E,K b off T' c S f a6 O hc3,?_,trivial⟩;refine h.setRow (ob':=.box (oE cs off ys)) U rfl (by rw[B];rfl) f ⟨b,_,T',B,setRow_heap w b c _ T' _ f,?_,?_,F⟩ ?_ aaa b0 hd
    ·rw[xU cs ys off H];simp[z];omega
    ·have:=wg (E:=E) (vs:=c.toList) (us:=(a.eval y).cells.toList) (by simpa using G) (by simpa using z) H hr Y;simpa[z]using this
    intro m u;rcases MY cs ys off m u with u|u
    ·exact(h.usedO n _ U).2 m u
    exact ny m (hy3 m u)
   cases A
  ·rename_i p cs ex;rw[ex]at J;simp only[RepV,RepP]at J;have⟨b,off,S,hr⟩:=J;split at A
   ·rename_i c ec;cases A;have⟨O,H⟩:=hc;rw[ec]at hy ey;have hyv:=cH hy
    cases hdr:(E.H b).drop off with
    |nil=>rw[hdr]at hr;simp[RepK]at hr|cons m ms=>
     rw[hdr]at hr;simp only[RepK]at hr;have u:(E.H b)[off]? =some (mark p):=by
      have:=k0 (λl=>l[0]?) hdr;simpa[hr.1]using this
     have hne:E.H b≠[]:=by intro e;rw[e]at u;cases u
     have⟨cc,T',fr,f,hpre,hfr⟩:=h.heap b hne;have hfr0:fr=(0,0):=by
      rcases hfr with e|e
      ·exact e
      have⟨k,n,e1,e2⟩:=e _ (gg u);simp only[mark,Value.int.injEq]at e1;exact absurd e1.1.symm e2
     subst hfr0;have⟨c0,hc0,_⟩:=hpre.2.2 off p u;have hlt:off<cc.size:=by
      have:=(gf.1 hc0).1;simpa using this
     have hys:ys.length=1:=by
      simp[AG]at ey;subst ey;rfl
     refine⟨undef,_,E,K b off T' cc S f a6 a6 (by simp[AG]at ey;subst ey;rfl),?_,trivial⟩;have:=h.setMark (c:=c) (dst:=o.dst) (x:=.undef) (v:=undef) u f H aaa b0 hd;have Q:(a.eval y).cells.toList=[.bool c]:=by rw[hyv];rfl
     rw[Q,hys];exact this
   cases A
  ·rename_i n ver i off ex;rw[ex]at J;split at A
   ·rename_i ver' v Z I U;cases A;obtain⟨rfl,hi,O,H,hc3⟩:=hc;have hob:=h.objs n _ U;have⟨W,G,M,xs,X,hrx,F⟩:=id hob;simp only[RepV]at J;have⟨_,_,J⟩:=J;have⟨b,L,cap,B,S,hlt⟩:=J W.symm;rcases X.2 with ⟨e0,_⟩|⟨g,cap',s,D,hb0,f,hle,u,hcs,htake⟩
    ·rw[B]at e0;cases e0
    rw[B]at D;cases D;rw[G]at S;have hxl:xs.length=I.length*v:=X.1;have hmul:(i+1)*v<=I.length*v:=aap _ hi;have hmul2:I.length*v<=cap*v:=aap _ hle;have hsucc:(i+1)*v=i*v+v:=lr i v;have hfit:i*v+off+ys.length<=s.size:=by rw[hcs];omega
    refine⟨undef,_,E,K b (i*v+off) Z s S f hfit O hc3,?_,trivial⟩;have hput:=RepVE.put (ys:=ys) (ys':=(a.eval y).cells.toList) hrx M hi H (by simpa using z) Y (by rw[hxl];exact hmul);have hge:I[i]? =some (I.getD i []):=by rw[aaw,e7 hi];simp
    have hel:(I.getD i []).length=v:=M _ (gg hge);have hpl:(oE (I.getD i []) off ys).length=v:=by rw[xU _ _ _,hel]
    refine h.setRow (ob':=.arr ver v Z (I.set i (oE (I.getD i []) off ys))) U rfl (by rw[B];rfl) f ⟨W,G,?_,_,⟨?_,.inr ⟨b,cap,_,?_,hb0,setRow_heap w b s _ Z _ f,?_,u,?_,rfl⟩⟩,?_,F⟩ ?_ aaa b0 hd
    ·intro e N;rcases abi N with N|N
     ·exact M e N
     rw[N];exact hpl
    ·simp only[List.length_set,List.length_take,gz,aaK,ky,z];omega
    ·simp[B]
    ·simpa using hle
    ·simp[z];omega
    ·have hcx:s.toList.take (I.length*v)=xs:=htake;simp only[List.length_set];have:(s.toList.take (i*v+off)++(a.eval y).cells.toList++s.toList.drop (i*v+off+ys.length)).take (I.length*v)=
       xs.take (i*v+off)++(a.eval y).cells.toList++xs.drop (i*v+off+(a.eval y).cells.toList.length):=by
      have hyl:(a.eval y).cells.toList.length=ys.length:=by simpa using z
      apply List.ext_getElem?;intro j;rw[aaF,<-hyl,cR _ _ _ _ a9,cR _ _ _ _];rw[<-hcx];simp only[aaF];by_cases hj:j<I.length*v
      ·simp[hj]
      rw[e9 hj,e9 a6,e9 a6,e9 hj]
     rw[this];exact hput
    intro m u;have⟨e,N,u⟩:=mem_namesE.1 u;rcases abi N with N|N
    ·exact(h.usedO n _ U).2 m (mem_namesE.2 ⟨e,N,u⟩)
    subst N;rcases MY _ _ _ m u with u|u
    ·exact(h.usedO n _ U).2 m (mem_namesE.2 ⟨_,gg hge,u⟩)
    exact ny m (hy3 m u)
   cases A
  cases A
 cases A
end
section
variable{P:Program}{C:Ctx}{E:Env}{σ:St}{a:Act}{w:World}{gl:Nat->Option (List PV)}{o:Oper}{T:Nat->Option TI}{note:xC}
def RepVE.cons{b:List V}{d:List (List V)}{c f:List Value}(g:c.length=b.length)(h:RepVL E b c)(j:RepVE E d f):RepVE E (b::d) (c++f):=by
 refine⟨RepVL.mono (Hle.refl _) b c _ (aas _ _) (λn _=>EExt.refl E n) h,?_⟩;rw[<-g,List.drop_left];exact j
def aaI:=@Nat.add_mul
def aaO:=@List.nil_append
def abx:=@Nat.one_mul
def yg{size:Nat}(h:Ga C E σ a w)(I:GOK gl C.E0.H):∀(parts:List (Nat×Operand))(k:Nat)(g:List (List V))(cells:Array Value),
  mN k (parts.map λp=>(p.1,σ.val gl p.2))=some g->(∀e∈g,e.length=size)->(k+g.length)*size<=cells.size->
  ∃b A,Instr.fill (λi=>some (i*size,size)) cells (parts.map λp=>(p.1,a.eval p.2))=some b/\A.length=g.length*size/\RepVE E g A/\
   b.toList=cells.toList.take (k*size)++A++cells.toList.drop ((k+g.length)*size)/\∀n∈fB g,n∈σ.used
 |[],k,g,cells,j,_,s=>by
  simp only[i2,mN,e5]at j;subst j;exact⟨cells,[],rfl,a8,by simp[RepVE],a8,by simp[fB]⟩
 |(i,x)::parts,k,g,cells,j,l,s=>by
  simp only[gF,mN]at j;split at j
  ·rename_i F;subst F;split at j
   ·rename_i m c J K;cases j;have L:=UA h I x;obtain⟨y,M,N⟩:=oU J L;have d:m.length=size:=l m a8;have r:(i+(m::c).length)*size=i*size+size+c.length*size:=by
     simp only[hW,aaI,abx];omega
    have f:(i+1+c.length)*size=i*size+size+c.length*size:=by
     simp only[aaI,abx]
    have t:(i+1)*size=i*size+size:=lr i size;rw[r]at s;have G:i*size+(a.eval x).cells.size<=cells.size:=by rw[y,d];omega
    have e:=LY (i*size) (a.eval x).cells.toList 0 cells (by simpa using G);simp only[ir]at e;have B:((a.eval x).cells.zipIdx.foldl (λm(p:Value×Nat)=>m.setIfInBounds (i*size+p.2) p.1) cells).toList=
      cells.toList.take (i*size)++(a.eval x).cells.toList++cells.toList.drop (i*size+(a.eval x).cells.toList.length):=by
     rw[<-aby,abu,e]
    have u:((a.eval x).cells.zipIdx.foldl (λm(p:Value×Nat)=>m.setIfInBounds (i*size+p.2) p.1) cells).size=cells.size:=by
     rw[<-ky,B];simp;omega
    obtain⟨b,A,O,Q,R,S,H⟩:=yg (size:=size) h I parts (i+1) c _ K (λe U=>l e (by simp[U])) (by rw[u,f];exact s);refine⟨b,(a.eval x).cells.toList++A,?_,?_,RepVE.cons (by simpa using y) M R,?_,?_⟩
    ·have v:¬((a.eval x).cells.size≠size\/i*size+(a.eval x).cells.size>cells.size):=by rw[y,d];omega
     simp only[gF,Instr.fill];rw[e9 (by simpa using v)];exact O
    ·simp only[gz,ky,y,d,Q,hW,aaI,abx];omega
    ·rw[S,B];have D:(cells.toList.take (i*size)++(a.eval x).cells.toList).length=(i+1)*size:=by simp[y,d];omega
     have W:(cells.toList.take (i*size)++(a.eval x).cells.toList++cells.toList.drop (i*size+(a.eval x).cells.toList.length)).take ((i+1)*size)=cells.toList.take (i*size)++(a.eval x).cells.toList:=by
      rw[<-D];exact List.take_left
     have X:(cells.toList.take (i*size)++(a.eval x).cells.toList++cells.toList.drop (i*size+(a.eval x).cells.toList.length)).drop ((i+1+c.length)*size)=cells.toList.drop ((i+(m::c).length)*size):=by
      rw[r,f,<-t,<-D,List.drop_append,List.drop_of_length_le a6,aaO,lo];congr 1;simp only[ky,y,d];omega
     rw[W,X];simp
    intro n z;simp only[fB,eh]at z;rcases z with z|z
    ·exact TC h x n (N n z)
    exact H n z
   cases j
  cases j
def abe:=@Sem.run_pure
def Nr{t e len:Nat}{b:TI}(c:TIOK P e b)(f:P.underlying t=some (.slice e)){parts:Array (Nat×Value)}{cells:Array Value}(d:len*b.size<=16777216)
  (d:Instr.fill (λi=>some (i*b.size,b.size)) ((Array.range (len*b.size)).map (λj=>(if len*b.size=0 then #[]else b.zero.cells)[j%(if len*b.size=0 then #[]else b.zero.cells).size]!)) parts.toList=some cells):
  (Instr.buildSlice t len parts).run P w=.ok (.slice (some ⟨w.heap.size,0,none⟩) len len) (w.alloc (.cells cells e)):=by
 have g:¬(len*b.size>2^24):=a6
 unfold Instr.buildSlice;simp only[hU,fx f,gW,c.run_size,e9 g];by_cases f:len*b.size=0
 ·simp only[f,if_true]at d⊢;simp only[hU,abe,gW,d];rfl
 simp only[f,if_false]at d⊢;simp only[hU,abe,gW,c.run_zero,d];rfl
def aaW:=@List.take_length
theorem Pr(h:Ga C E σ a w)(hg:GOK gl C.E0.H)(hd:∀d,o.dst=some d->d<C.nt)(hT:KB P T){t len:Nat}{parts:Array (Nat×Operand)}(ho:o.op=.buildSlice t len parts){r:R}(W:r.cond){ob:Nat->Option Ob}
  (s:gA T note (σ.val gl) ob o.dst (.buildSlice t len parts)=some r) (Q:∀n x,r.wr=some (n,x)->r.new=true->n∉σ.used):Sound P C E σ a w o r:=by
 simp only[gA]at s;split at s
 ·rename_i e s1 s2 s3 s4 et;have⟨d,X,H⟩:=(hT t _ et).desc;simp only[yD]at H;subst H;split at s
  ·rename_i g ee;have Y:=hT e g ee;split at s
   ·rename_i c ep;have key:(c.length=len/\len<=16777216/\len*g.size<=16777216/\∀e∈c,e.length=g.size)->∃cells,cells.size=c.length*g.size/\RepVE E c cells.toList/\(∀n∈fB c,n∈σ.used)/\OpRes P o a w (.slice (some ⟨w.heap.size,0,none⟩) c.length c.length) (w.alloc (.cells cells e)):=by
     rintro⟨K,u,z,l⟩
     subst K;have A:∀zero:Array Value,∃cells L,Instr.fill (λi=>some (i*g.size,g.size)) ((Array.range (c.length*g.size)).map (λj=>zero[j%zero.size]!)) (parts.toList.map λp=>(p.1,a.eval p.2))=some cells/\L.length=c.length*g.size/\RepVE E c L/\cells.toList=L/\∀n∈fB c,n∈σ.used:=by
      intro zero;have⟨S,L,hf,hu,I,B,k⟩:=yg (size:=g.size) h hg parts.toList 0 c ((Array.range (c.length*g.size)).map (λj=>zero[j%zero.size]!)) ep l a8
      grind
     have⟨cells,L,hf,hu,I,B,k⟩:=A (if c.length*g.size=0 then #[]else g.zero.cells);refine⟨cells,by rw[<-ky,B,hu],by rw[B];exact I,k,.inl ?_⟩;have f:=Nr (P:=P) (w:=w) Y X (parts:=parts.map λp=>(p.1,a.eval p.2)) z a9;simp only[execOp,ho,hU];rw[f];rfl
    unfold DY at s;split at s
    ·rename_i n sz ty;cases s;have D:=Q n _ rfl rfl;clear Q;obtain⟨M,rfl,rfl⟩:=W;have⟨cells,v,I,k,f⟩:=key M;have⟨K,u,z,l⟩:=M;subst K;have F:c.length<=maxLen:=hV u (by simp[maxLen]);let E':Env:={H:=E.H,g:=λm=>if m=n then .slice (some ⟨w.heap.size,0,none⟩) c.length c.length else E.g m,ver:=λm=>if m=n then 0 else E.ver m,sz:=λm=>if m=n then g.size else E.sz m};have y:E'.g n=.slice (some ⟨w.heap.size,0,none⟩) c.length c.length:=by simp[E']
     have N:E'.ver n=0:=by simp[E']
     have Z:E'.sz n=g.size:=by simp[E']
     have U:∀m,m≠n->E'.g m=E.g m/\E'.ver m=E.ver m/\E'.sz m=E.sz m:=λm J=>⟨c5,c5,c5⟩
     refine⟨_,_,E',f,?_,trivial⟩;refine h.change (E':=E') n (some (.arr 0 g.size ty c)) (HB σ.objs n (.arr 0 g.size ty c)) (n::σ.used) o.dst (.arr n 0 c.length) _ (λm=>QD _ _ _ _) (Hle.refl _) U (λH=>absurd H D) (λH=>absurd H D)
      a8 ⟨rfl,rfl,rfl⟩ (λb G _=>⟨heap_alloc_old w _ b G,rfl⟩) (aR h.heap _ E' rfl) ?_ ?_ (λm J=>by simp[J]) ?_ ?_ hd
     ·intro o' e;cases e;refine⟨⟨N,Z,l,cells.toList,?_,?_,?_⟩,a8,λm J=>by simp[k m (by simpa[Ob.names]using J)]⟩
      ·rw[y];refine⟨by simpa using v,.inr ⟨w.heap.size,c.length,cells,rfl,c6 _,heap_alloc_new w _,e6 _,F,v,?_⟩⟩;rw[<-v,<-ky,aaW]
      ·refine RepVE.mono (E:=E) (E':=E') (Hle.refl E.H) c _ _ ie (λm J=>?_) I;have:m≠n:=λe=>D (e▸k m J)
       exact EExt.of_eq (U m this).1 (U m this).2.1 (U m this).2.2
      rw[y];intro b G;simp[Value.ownBlock]at G;subst G;exact h.heap.lt (e6 _)
     ·intro o' b e G;rw[y]at G;simp[HA]at G;omega
     ·simp only[RepV,N,y];exact⟨e6 _,⟨_,_,_,rfl⟩,λ_=>⟨_,_,_,rfl,rfl,e6 _⟩⟩
     simp[V.names]
    cases s;have⟨cells,v,I,k,f⟩:=key W;have⟨K,u,z,l⟩:=W;subst K;have F:c.length<=maxLen:=hV u (by simp[maxLen]);refine Sound.newRow h hd (λH' hH O=>?_) (λn Q=>k n (Xq c n Q)) f;refine Wq (E:={E with H:=H'}) (e6 _) F ?_;show RepVE _ c (H' w.heap.size);rw[O];exact RepVE.mono (E:=E) (E':={E with H:=H'}) hH c _ _ ie (λn _=>EExt.of_eq rfl rfl rfl) I.sn
   cases s
  cases s
 cases s
end
section
variable{P:Program}{C:Ctx}{E:Env}{σ:St}{a:Act}{w:World}{gl:Nat->Option (List PV)}{o:Oper}{T:Nat->Option TI}{note:xC}
def abA:=@World.ownsRow_nil
def Qr(h:Ga C E σ a w)(s:∀d,o.dst=some d->d<C.nt){n sz g:Nat}{t:Prop}(p:n∉σ.used)(f:o.op=.move (.const (.slice none 0 0))\/o.op=.assign (.const (.slice none 0 0))):
  Sound P C E σ a w o ⟨t,True,.arr n 0 0,some (n,.arr 0 sz g []),true⟩:=by
 let E':Env:={H:=E.H,g:=λm=>if m=n then .slice none 0 0 else E.g m,ver:=λm=>if m=n then 0 else E.ver m,sz:=λm=>if m=n then sz else E.sz m};have c:E'.g n=.slice none 0 0:=by simp[E']
 have i:E'.ver n=0:=by simp[E']
 have j:E'.sz n=sz:=by simp[E']
 have u:∀m,m≠n->E'.g m=E.g m/\E'.ver m=E.ver m/\E'.sz m=E.sz m:=λm k=>⟨c5,c5,c5⟩
 refine⟨.slice none 0 0,w,E',.inl ?_,?_,trivial⟩
 ·rcases f with f|f<;>simp[execOp,f,Act.eval]
 refine h.change (E':=E') n (some (.arr 0 sz g [])) (HB σ.objs n (.arr 0 sz g [])) (n::σ.used) o.dst (.arr n 0 0) _ (λm=>QD _ _ _ _) (Hle.refl _) u (λl=>absurd l p) (λl=>absurd l p)
  (e6 _) ⟨rfl,rfl,rfl⟩ (λb r _=>⟨rfl,rfl⟩) h.heap ?_ ?_ (λm k=>by simp[k]) ?_ ?_ s
 ·intro v e;cases e;refine⟨⟨i,j,a8,[],?_,by simp[RepVE],?_⟩,a8,λm k=>by grind[Ob.names,fB]⟩
  ·rw[c];exact abA _ _ _ _
  rw[c];intro b r;simp[Value.ownBlock]at r
 ·grind[HA]
 ·grind[RepV]
 simp[V.names]
theorem RepVE.of{E:Env}:∀{b:List (List PV)}{c:List Value},RepE E.H b c->RepVE E (vA b) c
 :=by intro x;induction x<;>grind[vA,RepVE,RepE,RepVL.ofPv,CA]
def RepVE.append{E:Env}{s:Nat}:∀{c d:List (List V)}{b f:List Value},(∀e∈c,e.length=s)->b.length=c.length*s->RepVE E c b->RepVE E d f->RepVE E (c++d) (b++f)
 |[],d,b,f,_,g,_,r=>by
  have:b=[]:=aah (by simpa using g);subst this;simpa using r
 |e::c,d,b,f,i,g,r,k=>by
  simp only[RepVE]at r;have j:e.length=s:=i e a8;have h:s<=b.length:=by rw[g];simp only[hW,lr];omega
  simp only[aau,RepVE];refine⟨RepVL.mono (Hle.refl _) e b _ (aas _ _) (λn _=>EExt.refl E n) r.1,?_⟩;rw[j,List.drop_append_of_le_length h];rw[j]at r;refine RepVE.append (λx l=>i x (by simp[l])) ?_ r.2 k;simp only[aaK,g,hW,lr];omega
def gu:=@List.take_of_length_le
def RepVE.takeE{E:Env}{s:Nat}:∀{b:List (List V)}{c:List Value},(∀e∈b,e.length=s)->RepVE E b c->∀i,RepVE E (b.take i) (c.take (i*s))
 |b,c,_,r,0=>by simp[RepVE]|[],c,_,r,i+1=>by simp[RepVE]|e::b,c,d,r,i+1=>by
  simp only[RepVE]at r;have c:e.length=s:=d e a8;have b:(i+1)*s=s+i*s:=by rw[lr,abd]
  refine⟨?_,?_⟩
  ·have:=r.1.take s;rw[gu a6]at this;refine RepVL.mono (Hle.refl _) e _ _ ?_ (λn _=>EExt.refl E n) this;rw[b,List.take_add];exact aas _ _
  rw[c]at r⊢;have:=RepVE.takeE (λx c=>d x (by simp[c])) r.2 i;rwa[b,List.drop_take,Nat.add_sub_cancel_left]
def abg:=@List.length_pos_iff
def eR(h:Ga C E σ a w){es:List (List V)}{s:Nat}{b off:Nat}(v:RepVE E es ((E.H b).drop off))(n:∀e∈es,e.length=s)(i:es≠[])(k:0<s):
  ∃d,d.length=es.length*s/\RepVE E es d/\∀j u,d[j]? =some u->w.cell? ((⟨b,off,none⟩:Addr).add j)=some u:=by
 have p:∀(es:List (List V))(l:List Value),(∀e∈es,e.length=s)->RepVE E es l->es.length*s<=l.length:=by
  intro es
  induction es with
  |nil=>simp|cons e es y=>
   intro l n r;simp only[RepVE]at r;have z:=r.1.len
   grind[List.length_drop,List.length_cons,Nat.succ_mul]
 have t:0<es.length*s:=Nat.mul_pos (abg.2 i) k;have g:E.H b≠[]:=by
  grind
 have⟨c,A,B,m,f,_⟩:=h.heap b g;have x:=f.1;refine⟨(c.toList.drop off).take (es.length*s),c5,?_,?_⟩
 ·have:=RepVE.takeE n v es.length;rw[aaW]at this;exact this.msk ((f.drop off).take _)
 grind[HY]
def PY(E:Env)(d:List (List V))(v:Value):Prop:=
 (d=[]/\∃e c,v=.slice e 0 c)\/∃b off c,v=.slice (some ⟨b,off,none⟩) d.length c/\RepVE E d ((E.H b).drop off)
def iR{y:V}{ys:List (List V)}{v:Value}(h:uI y=some ys)(e:RepV E y v):PY E ys v:=by
 unfold uI at h;split at h
 ·cases h;obtain⟨f,c,rfl,_,_,d⟩:=e;rcases d with rfl|⟨b,off,rfl,d⟩
  ·exact .inl ⟨rfl,_,_,rfl⟩
  exact .inr ⟨b,off,c,by simp[vA],RepVE.of d⟩
 ·cases h;exact .inl ⟨rfl,_,_,e⟩
 ·cases h;obtain⟨f,c,rfl,_,_,d⟩:=e;rcases d with rfl|⟨b,off,rfl,d⟩
  ·exact .inl ⟨rfl,_,_,rfl⟩
  exact .inr ⟨b,off,c,rfl,d⟩
 cases h
def Rr{y:V}{b:List (List V)}(h:uI y=some b):∀n∈fB b,n∈y.names:=by
 unfold uI at h
 grind[Vq,fB,V.names]
def ug{t e:Nat}{g:TI}(b:TIOK P e g)(d:P.underlying t=some (.slice e)){ad ad':Option Addr}{len cap c ty:Nat}(f:len<=cap:=by omega):
  (Builtin.append_ #[t,t] ty #[.slice ad len cap,.slice ad' 0 c]).run P w=.ok (.slice ad len cap) w:=by
 cases ad<;>cases ad'<;>simp[Builtin.append_,fx d,b.run_size,Builtin.lenOf,Builtin.firstCells,loadCells,loadCellsFrom,storeCells,f]
def abB:=@List.size_toArray
def abo:=@List.take_append_drop
def ia:=@Nat.zero_add
def bg(h:Ga C E σ a w){t e:Nat}{m:TI}(Y:TIOK P e m)(M:P.underlying t=some (.slice e)){len i Z ty' cap:Nat}{A:List (List V)}{ad:Option Addr}{F:List Value}(I:w.ownsRow 0 Z i (.slice ad A.length cap) A.length F)
  (hrx:RepVE E A F) (R:∀e∈A,e.length=i) (hle:len<=A.length) (hlc:A.length<=cap) (hm:A.length<=maxLen) {v:Value}
  {f:List (List V)} (hv:PY E f v) (hty:Z=e) (hsz:i=m.size) (hs0:0<i) (hys:∀y∈f,y.length=i) (hone:∀y∈f,y.all V.one=true)
  (S:len+f.length<=maxLen) (hby:(len+f.length)*m.bytes<=140737488355328):
  ∃u' w' xs',(Builtin.append_ #[t,t] ty' #[.slice ad len cap,v]).run P w=.ok u' w'/\w'.ownsRow 0 Z i u' (len+f.length) xs'/\RepVE E (A.take len++f) xs'/\(∃d,xs'=F.take (len*i)++d)/\
   w.heap.size<=w'.heap.size/\(w'.os=w.os/\w'.tape=w.tape/\w'.output=w.output)/\(∀b,b<w.heap.size->HA u'≠some b->w'.heap[b]? =w.heap[b]?)/\(∀b,HA u'=some b->w.heap.size<=b\/HA (.slice ad len cap)=some b):=by
 have hlen':∀e∈A.take len,e.length=i:=λe he=>R e (aay he)
 have hxs:RepVE E (A.take len) (F.take (len*i)):=hrx.takeE R len;have J:(F.take (len*i)).length=len*i:=by
  have:=I.1;have hm2:len*i<=A.length*i:=aap _ hle;simp;omega
 have htl:(A.take len).length=len:=a9
 have⟨N,n,k,U,hiz⟩:=Y.info;by_cases O:f=[]
 ·subst O;have hvv:∃ad' c,v=.slice ad' 0 c:=by
   rcases hv with ⟨_,h⟩|⟨b,off,c,rfl,_⟩
   ·exact h
   exact⟨_,c,rfl⟩
  obtain⟨ad',c,rfl⟩:=hvv;refine⟨_,w,F.take (len*i),ug Y M,?_,by simpa using hxs,⟨[],a8⟩,e6 _,⟨rfl,rfl,rfl⟩,λ_ _ _=>rfl,λb H=>.inr H⟩;simp only[iq,ir];refine⟨J,?_⟩;rcases I.2 with ⟨K,h0⟩|⟨g,cap',G,K,hb0,hc,h1,h2,h3,h4⟩
  ·simp only[Value.slice.injEq]at K;obtain⟨rfl,e1,rfl⟩:=K;left;have:len=0:=a6
   exact⟨by rw[this],this⟩
  cases K;right;refine⟨g,cap,G,rfl,hb0,hc,a6,h2,h3,?_⟩;rw[<-h4,List.take_take,Nat.min_eq_left];exact aap _ hle
 have hv:∃b off c,v=.slice (some ⟨b,off,none⟩) f.length c/\RepVE E f ((E.H b).drop off):=by
  rcases hv with ⟨K,_⟩|hv
  ·exact absurd K O
  exact hv
 obtain⟨b',L,c',rfl,hsrc⟩:=hv;have⟨d,p,hnr,l⟩:=eR h hsrc hys O hs0;have hnone:∀u∈d,u.oneCell'=true:=by
  have key:∀(f:List (List V))(d:List Value),(∀y∈f,y.length=i)->(∀y∈f,y.all V.one=true)->d.length=f.length*i->RepVE E f d->∀u∈d,u.oneCell'=true:=by
   intro f
   induction f with
   |nil=>
    intro d _ _ hl _ u W;have:d=[]:=aah (by simpa using hl);subst this;simp at W
   |cons y f ih=>
    intro d h1 h2 hl r u W;simp only[RepVE]at r;have hy:y.length=i:=h1 y a8;have hl':d.length=i+f.length*i:=by rw[hl];simp only[hW,lr];omega
    rw[<-abo i d]at W;rcases eh.1 W with W|W
    ·have X:=r.1.take i;rw[gu a6]at X;exact OY (E:=E) (h2 y a8) a9 X u W
    rw[hy]at r;exact ih (d.drop i) (λx hx=>h1 x (by simp[hx])) (λx hx=>h2 x (by simp[hx])) a9 r.2 u W
  exact key f d hys hone p hnr
 have B:RepVE E (A.take len++f) (F.take (len*i)++d):=RepVE.append (s:=i) hlen' (by rw[J,htl]) hxs hnr;have Q:(F.take (len*i)++d).length=(len+f.length)*i:=by rw[gz,J,p,aaI]
 have hpos:0<f.length:=abg.2 O;have hsmall:len+f.length<=9223372036854775807:=by simp only[maxLen]at S;omega
 have hzc:m.zero.cells.size=i:=by rw[Y.zlen,hsz]
 have D:∀s,s<len+f.length->
   (w.drew.alloc (.cells ((F.take (len*i)).toArray++d.toArray++Builtin.zeroCells m.zero.cells (grownCap w (len+f.length) s e-(len+f.length))) e)).ownsRow 0 e i
    (.slice (some ⟨w.heap.size,0,none⟩) (len+f.length) (grownCap w (len+f.length) s e)) (len+f.length) (F.take (len*i)++d):=by
  intro s ho;have hge:=grownCap_ge w (len+f.length) s e;have hcm:grownCap w (len+f.length) s e<=maxLen:=grownCap_le_maxLen w (len+f.length) s e S;refine⟨Q,.inr ⟨w.heap.size,_,_,rfl,c6 _,heap_alloc_new w.drew _,hge,hcm,?_,?_⟩⟩
  ·simp only[Array.size_append,abB,size_zeroCells,hzc,J,p,<-aaI];congr 1;omega
  simp only[Array.toList_append];rw[<-Q];exact List.take_left
 subst hty hsz;rcases I.2 with ⟨K,h0⟩|⟨g,cap',G,K,hb0,hc,h1,h2,h3,h4⟩
 ·simp only[Value.slice.injEq]at K;obtain⟨rfl,e1,rfl⟩:=K;have hl0:len=0:=a6
  subst hl0;have X:=run_append_nil (P:=P) w t ty' Z N m.zero M n hiz ⟨b',L,none⟩ f.length c' d (by rw[k];exact p) l hpos a6 (by rw[U];simp at hby;omega);have hgr:=D 0 a6;simp only[ia,Nat.zero_mul,List.take_zero,aaO,Array.empty_append]at hgr B⊢;refine⟨_,_,_,by rw[X],hgr,B,⟨_,rfl⟩,a8,⟨rfl,rfl,rfl⟩,λb H _=>heap_alloc_old w.drew _ b H,λb H=>?_⟩;simp[HA]at H;omega
 cases K;by_cases z:len+f.length<=cap
 ·have hml:len*m.size<=A.length*m.size:=aap _ hle;have hmr:(len+f.length)*m.size<=cap*m.size:=aap _ z;rw[aaI]at hmr;have hfit:len*N.size+d.length<=G.size:=by rw[p,h3,k];exact hmr
  have X:=run_append_room (P:=P) w t ty' Z N M n g len cap G hc ⟨b',L,none⟩ f.length c' d (by rw[k];exact p) l hnone z hfit;refine⟨_,_,_,X,⟨Q,.inr ⟨g,cap,_,rfl,hb0,setRow_heap w g G _ Z _ hc,z,h2,?_,?_⟩⟩,B,⟨_,rfl⟩,a8,⟨rfl,rfl,rfl⟩,λb H hne=>setRow_other w g b _ (λe=>hne (by simp[HA,e])),λb H=>.inr H⟩
  ·simp only[abB,gz,List.length_take,aaK,ky];omega
  have:F.take (len*m.size)=G.toList.take (len*m.size):=by
   rw[<-h4,List.take_take,Nat.min_eq_left hml]
  rw[k,<-this,<-Q];exact List.take_left
 have holds:∀j u,(F.take (len*m.size))[j]? =some u->w.cell? ((⟨g,0,none⟩:Addr).add j)=some u:=by
  intro j u hj;rw[HY hc,ia];rw[aaF]at hj;split at hj
  ·rw[<-h4,aaF]at hj;split at hj
   ·simpa using hj
   cases hj
  cases hj
 have X:=run_append_grow (P:=P) w t ty' Z N m.zero M n hiz ⟨g,0,none⟩ len cap (F.take (len*m.size)) (by rw[k];exact J) holds ⟨b',L,none⟩ f.length c' d (by rw[k];exact p) l a6 a6 (growslice_fits a6 (by rw[U];exact hby));refine⟨_,_,_,X,D cap a6,B,⟨_,rfl⟩,a8,⟨rfl,rfl,rfl⟩,λb H _=>heap_alloc_old w.drew _ b H,λb H=>?_⟩;simp[HA]at H;omega
def Sr(h:Ga C E σ a w){t e:Nat}{r:TI}(s:TIOK P e r)(x:P.underlying t=some (.slice e)){n g len i z ty':Nat}{N:List (List V)}(j:ObOK E w n (.arr g i z N)){u v:Value}
  (R:RepV E (.arr n g len) u) {f:List (List V)} (S:PY E f v) (A:z=e) (B:i=r.size) (D:0<i) (F:∀y∈f,y.length=i) (k:∀y∈f,y.all V.one=true)
  (l:len+f.length<=maxLen) (G:(len+f.length)*r.bytes<=140737488355328):
  ∃p c H,(Builtin.append_ #[t,t] ty' #[u,v]).run P w=.ok p c/\c.ownsRow 0 z i p (len+f.length) H/\RepVE E (N.take len++f) H/\
   w.heap.size<=c.heap.size/\(c.os=w.os/\c.tape=w.tape/\c.output=w.output)/\(∀b,b<w.heap.size->HA u≠some b->c.heap[b]? =w.heap[b]?)/\(∀b,HA p=some b->w.heap.size<=b\/HA u=some b):=by
 have⟨O,Q,m,H,d,I,J⟩:=id j;have⟨Y,cap,K,U,L,M,W⟩:=iU j R;rw[K]at d;have⟨p,c,X,Z,h2,h3,_,h4⟩:=bg (ty':=ty') h s x d I m L M W S A B D F k l G
 grind
def oR{t:Nat}{x y:Operand}(c:o.op=.call {callee:=.builtin .append,args:=#[x,y],argTypes:=#[t,t]}){v:Value}{b:World}
  (h:(Builtin.append_ #[t,t] o.type #[a.eval x,a.eval y]).run P w=.ok v b):OpRes P o a w v b:=by
 refine .inl ?_;simp only[execOp,c,resolve,invoke,builtin,hU,abe,gW,List.map_toArray,gF,i2,h]
def dg(l:List (Nat×Ob))(n:Nat)(x y:Ob):HB (HB l n x) n y=HB l n y:=by
 induction l with
 |nil=>simp[HB]|cons p r b=>
  grind[HB]
def Ur(h:Ga C E σ a w){n sz ty:Nat}(k:n∉σ.used):∃E',Ga C E' ⟨σ.slots,HB σ.objs n (.arr 0 sz ty []),n::σ.used⟩ a w/\RepV E' (.arr n 0 0) (.slice none 0 0):=by
 let E':Env:={H:=E.H,g:=λm=>if m=n then .slice none 0 0 else E.g m,ver:=λm=>if m=n then 0 else E.ver m,sz:=λm=>if m=n then sz else E.sz m};have c:E'.g n=.slice none 0 0:=by simp[E']
 have f:E'.ver n=0:=by simp[E']
 have g:E'.sz n=sz:=by simp[E']
 have p:∀m,m≠n->E'.g m=E.g m/\E'.ver m=E.ver m/\E'.sz m=E.sz m:=λm i=>⟨c5,c5,c5⟩
 refine⟨E',?_,?_⟩
 ·refine h.change (E':=E') n (some (.arr 0 sz ty [])) (HB σ.objs n (.arr 0 sz ty [])) (n::σ.used) none .undef (.slice none 0 0) (λm=>QD _ _ _ _) (Hle.refl _) p (λj=>absurd j k) (λj=>absurd j k)
   (e6 _) ⟨rfl,rfl,rfl⟩ (λb l _=>⟨rfl,rfl⟩) h.heap ?_ ?_ (λm i=>by simp[i]) ?_ ?_ (λd r=>by cases r)
  ·intro s e;cases e;refine⟨⟨f,g,a8,[],?_,by simp[RepVE],?_⟩,a8,λm i=>by grind[Ob.names,fB]⟩
   ·rw[c];exact abA _ _ _ _
   rw[c];intro b l;simp[Value.ownBlock]at l
  ·grind[HA]
  ·simp[RepV]
  simp[V.names]
 grind[RepV]
def fg(h:Ga C E σ a w)(hd:∀d,o.dst=some d->d<C.nt){t e:Nat}{te:TI}(hte:TIOK P e te)(hde:P.underlying t=some (.slice e)){x y:Operand}
  (ho:o.op=.call {callee:=.builtin .append,args:=#[x,y],argTypes:=#[t,t]}) {n ver len sz ty:Nat} {es ys:List (List V)} {yv:V} (J:jA σ.objs n=some (.arr ver sz ty es)) (hx:RepV E (.arr n ver len) (a.eval x))
  (nx:∀m∈(V.arr n ver len).names,m∈σ.used) (K:uI yv=some ys) (hy:RepV E yv (a.eval y)) (ny:∀m∈yv.names,m∈σ.used) (hle:len<=es.length) (hty:ty=e) (hsz:sz=te.size) (hs0:0<sz) (L:∀y∈ys,y.length=sz)
  (M:∀y∈ys,y.all V.one=true) (N:len+ys.length<=maxLen) (hby:(len+ys.length)*te.bytes<=140737488355328) {cd:Prop}:
  Sound P C E σ a w o ⟨cd,True,.arr n (ver+1) (len+ys.length),some (n,.arr (ver+1) sz ty (es.take len++ys)),false⟩:=by
 have k:=h.objs n _ J;have hyv:=iR K hy;have hyn:=Rr K;have⟨v,w',xs,O,B,hrx,D,F,p,r⟩:=Sr (ty':=o.type) h hte hde k hx hyv hty hsz hs0 L M N hby;have⟨hver,Q,R,_,_,_,_⟩:=id k;have⟨ad,cap,S,hu,hle',hlc,s⟩:=iU k hx;have hbu:HA (a.eval x)=HA (E.g n):=by rw[hu,S];cases ad<;>rfl
 rw[hbu]at p r;let E':Env:={H:=E.H,g:=λm=>if m=n then v else E.g m,ver:=λm=>if m=n then ver+1 else E.ver m,sz:=E.sz};have z:E'.g n=v:=by simp[E']
 have G:E'.ver n=ver+1:=by simp[E']
 have X:∀m,m≠n->E'.g m=E.g m/\E'.ver m=E.ver m/\E'.sz m=E.sz m:=λm s=>⟨by simp[E',s],by simp[E',s],rfl⟩
 have U:∀m,EExt E E' m:=by
  intro m;by_cases Y:m=n
  ·subst Y;exact⟨rfl,.inr ⟨by rw[G];omega,_,_,_,S⟩⟩
  exact EExt.of_eq (X m Y).1 (X m Y).2.1 (X m Y).2.2
 have A:∀b,HA v=some b->E.H b=[]:=by
  intro b i;rcases r b i with H|I
  ·exact h.heap.lt H
  exact k.free rfl I
 have W:∀b,v.ownBlock=some b->HA v=some b:=by
  intro b i;revert i;cases v<;>simp[Value.ownBlock,HA];rename_i Z _ _;cases Z<;>simp
 have htl:(es.take len).length=len:=a9
 refine⟨v,w',E',oR ho O,?_,trivial⟩;refine h.change (E':=E') n (some (.arr (ver+1) sz ty (es.take len++ys))) _ σ.used o.dst _ v (λm=>QD _ _ _ _) (Hle.refl _) X (λ_=>U n) (λ_=>⟨_,J⟩) D F
  (λb i hne=>⟨p b i (hne _ J),rfl⟩) ?_ ?_ ?_ (λ_ h=>h) ?_ ?_ hd
 ·intro b i;have⟨c,T',fr,u,hp⟩:=h.heap b i;refine⟨c,T',fr,?_,hp⟩;rw[p b (aal.1 u).1 (λe=>i (k.free rfl e))];exact u
 ·intro o' e0;cases e0;refine⟨⟨G,Q,?_,xs,?_,?_,?_⟩,(h.usedO n _ J).1,?_⟩
  ·intro j f;rcases eh.1 f with f|f
   ·exact R j (aay f)
   exact L j f
  ·rw[z];have:(es.take len++ys).length=len+ys.length:=by rw[gz,htl]
   rw[this];exact B
  ·exact RepVE.mono (E:=E) (E':=E') (Hle.refl E.H) _ _ _ ie (λm _=>U m) hrx
  ·intro b i;rw[z]at i;exact A b (W b i)
  intro m s;simp only[Ob.names]at s;have⟨j,f,s⟩:=mem_namesE.1 s;rcases eh.1 f with f|f
  ·exact(h.usedO n _ J).2 m (mem_namesE.2 ⟨j,aay f,s⟩)
  exact ny m (hyn m (mem_namesE.2 ⟨j,f,s⟩))
 ·intro o' b e0 i;rw[z]at i;rcases r b i with H|I
  ·exact .inl H
  exact .inr ⟨I,_,J⟩
 ·simp only[RepV,G,z];have hsl:∃a l c,v=.slice a l c/\l=len+ys.length:=by
   rcases B.2 with ⟨j,e2⟩|⟨g,cap',cur,j,_⟩
   ·exact⟨none,0,0,j,e2.symm⟩
   exact⟨_,_,_,j,rfl⟩
  have⟨Z,l',c',j,e2⟩:=hsl;refine⟨e6 _,⟨Z,l',c',j⟩,λ_=>⟨Z,l',c',j,?_,?_⟩⟩
  ·rw[j,e2]
  omega
 intro m s;exact nx m s
def Vr(h:Ga C E σ a w){n sz ty:Nat}(l:n∉σ.used):∃E',Ga C E' ⟨σ.slots,HB σ.objs n (.grow 0 sz ty []),n::σ.used⟩ a w/\RepV E' (.gsl n 0 []) (.slice none 0 0):=by
 let E':Env:={H:=E.H,g:=λm=>if m=n then .slice none 0 0 else E.g m,ver:=λm=>if m=n then 0 else E.ver m,sz:=λm=>if m=n then sz else E.sz m};have c:E'.g n=.slice none 0 0:=by simp[E']
 have f:E'.ver n=0:=by simp[E']
 have i:E'.sz n=sz:=by simp[E']
 have p:∀m,m≠n->E'.g m=E.g m/\E'.ver m=E.ver m/\E'.sz m=E.sz m:=λm j=>⟨c5,c5,c5⟩
 refine⟨E',?_,?_⟩
 ·refine h.change (E':=E') n (some (.grow 0 sz ty [])) (HB σ.objs n (.grow 0 sz ty [])) (n::σ.used) none .undef (.slice none 0 0) (λm=>QD _ _ _ _) (Hle.refl _) p (λk=>absurd k l) (λk=>absurd k l)
   (e6 _) ⟨rfl,rfl,rfl⟩ (λb g _=>⟨rfl,rfl⟩) h.heap ?_ ?_ (λm j=>by simp[j]) ?_ ?_ (λd r=>by cases r)
  ·intro s e;cases e;refine⟨⟨f,i,a8,[],?_,by simp[RepE],?_⟩,a8,λm j=>by grind[Ob.names]⟩
   ·rw[c];exact abA _ _ _ _
   rw[c];intro b g;simp[Value.ownBlock]at g
  ·intro s b e g;rw[c]at g;simp[HA]at g
  ·simp[RepV]
  simp[V.names]
 simp only[RepV,RepP,f,c];exact⟨⟨none,0,rfl,e6 _,c6 _,.inl trivial⟩,e6 _,λ_=>trivial⟩
def aag:=@List.getElem?_append_left
def Msk.pre{l m r:List Value}(h:Msk l m):Msk l (m++r):=by
 have⟨g,d,j⟩:=h;refine⟨a9,λi v c e f=>?_,λi b c=>?_⟩
 ·have:=d i v c e f;rw[aag (gf.1 this).1];exact this
 grind
def Wr{u:Value}{b:Nat}(h:u.ownBlock=some b):HA u=some b:=by
 revert h;cases u<;>simp[Value.ownBlock,HA]
 grind
def gn:=@List.map_append
def lg(h:Ga C E σ a w)(hd:∀d,o.dst=some d->d<C.nt){t e:Nat}{te:TI}(hte:TIOK P e te)(hde:P.underlying t=some (.slice e)){x y:Operand}
  (ho:o.op=.call {callee:=.builtin .append,args:=#[x,y],argTypes:=#[t,t]}) {n ver sz ty:Nat} {es0 es ys:List (List PV)} (eo:jA σ.objs n=some (.grow ver sz ty es)) (hx:RepV E (.gsl n ver es0) (a.eval x))
  (hy:RepV E (.pv (.slice ys)) (a.eval y)) (hty:ty=e) (hsz:sz=te.size) (hs0:0<sz) (hys:∀y∈ys,y.length=sz)
  (hone:∀y∈vA ys,y.all V.one=true) (r:es.length+ys.length<=maxLen) (hby:(es.length+ys.length)*te.bytes<=140737488355328) {cd:Prop}:
  Sound P C E σ a w o ⟨cd,True,.gsl n (ver+1) (es++ys),some (n,.grow (ver+1) sz ty (es++ys)),false⟩:=by
 have hob:=h.objs n _ eo;have hyv:=iR (y:=.pv (.slice ys)) (ys:=vA ys) rfl hy;have⟨hver,hsz',L,xs,s,hrx,hf⟩:=id hob;have hx':E.g n=a.eval x:=by grind[RepV]
 have pl:∀l:List (List PV),(∀e∈l,e.length=sz)->∀e∈vA l,e.length=sz:=λl hl e he=>by
  obtain⟨y,hy,rfl⟩:=iy.1 he
  grind[CA]
 have M:∀l:List (List PV),(vA l).length=l.length:=λl=>by simp[vA]
 have j:∃ad cap,E.g n=.slice ad es.length cap/\es.length<=cap/\es.length<=maxLen:=by
  rcases s.2 with ⟨i,R⟩|⟨g,cap,H,i,_,_,h1,h2,_⟩
  ·grind
  grind
 have⟨ad,cap,j,hlc,S⟩:=j;have U:w.ownsRow 0 ty sz (.slice ad (vA es).length cap) (vA es).length xs:=by rw[M,<-j];exact s
 have⟨F,w',u,hrun,f,N,⟨news,z⟩,W,X,O,k⟩:=bg (ty':=o.type) (len:=es.length) h hte hde U (RepVE.of hrx) (pl es L) (by rw[M];omega) (by rw[M];exact hlc) (by rw[M];exact S) hyv hty hsz hs0 (pl ys hys) hone (by rw[M];exact r) (by rw[M];exact hby);rw[M]at f;rw[gu (by rw[M];omega),show vA es++vA ys=vA (es++ys) by simp[vA]]at N;have hre:RepE E.H (es++ys) u:=RepVE.toPv (wL _) N;rw[gu (by rw[s.1];omega)]at z;have hbu:HA (.slice ad es.length cap)=HA (E.g n):=by rw[j]
 rw[hbu]at k;let G:Hp:=λb=>if HA F=some b then u.map sn else E.H b
 let E':Env:={H:=G,g:=λm=>if m=n then F else E.g m,ver:=λm=>if m=n then ver+1 else E.ver m,sz:=E.sz};have I:E'.g n=F:=by simp[E']
 have Y:E'.ver n=ver+1:=by simp[E']
 have J:∀b,HA F=some b->G b=u.map sn:=λb p=>by grind
 have Z:∀b,HA F≠some b->G b=E.H b:=λb p=>by grind
 have hE:∀m,m≠n->E'.g m=E.g m/\E'.ver m=E.ver m/\E'.sz m=E.sz m:=λm S=>⟨c5,c5,rfl⟩
 have hee:EExt E E' n:=⟨rfl,.inr ⟨by rw[Y];omega,_,_,_,j⟩⟩;have hH:Hle E.H E'.H:=by
  intro b;show E.H b<+:G b;by_cases p:HA F=some b
  ·rw[J b p];rcases k b p with hge|A
   ·rw[h.heap.lt hge];exact List.nil_prefix
   rw[hf b (by rw[j]at A⊢;cases ad<;>simp[HA,Value.ownBlock]at A⊢<;>exact A),z,gn];exact aas _ _
  simp_all
 refine⟨F,w',E',oR ho (by rw[<-hx',j];exact hrun),?_,trivial⟩;refine h.change (E':=E') n (some (.grow (ver+1) sz ty (es++ys))) _ σ.used o.dst _ F (λm=>QD _ _ _ _) hH hE (λ_=>hee) (λ_=>⟨_,eo⟩) W X ?_ ?_ ?_ ?_ (λ_ h=>h) ?_ ?_ hd
 ·intro b p K;have K:HA F≠some b:=λe=>by
   rcases k b e with h1|h1
   ·omega
   exact K _ eo h1
  exact⟨O b p K,Z b K⟩
 ·intro b p;by_cases i:HA F=some b
  ·show∃c T fr,_/\Msk (G b) _/\_;rw[J b i];rcases f.2 with ⟨R,_⟩|⟨g,Q,H,R,_,hc,_,_,_,h4⟩
   ·rw[R]at i;simp[HA]at i
   have:g=b:=by rw[R]at i;simpa[HA]using i
   subst this;refine⟨H,ty,(0,0),hc,?_,.inl rfl⟩;rw[<-abo ((es.length+ys.length)*sz) H.toList,h4];exact(Msk.sn u).pre
  have hb2:E.H b≠[]:=by
   have:G b≠[]:=p;rwa[Z b i]at this
  have⟨c,T',fr,B,hp⟩:=h.heap b hb2;refine⟨c,T',fr,?_,by show Msk (G b) _/\(_\/∀v∈G b,_);rw[Z b i];exact hp⟩;rw[O b (aal.1 B).1 i];exact B
 ·intro o' e0;cases e0;refine⟨⟨Y,hsz',?_,u,?_,?_,?_⟩,(h.usedO n _ eo).1,λm S=>by simp[Ob.names]at S⟩
  ·intro i D;rcases eh.1 D with D|D
   ·exact L i D
   exact hys i D
  ·rw[I,gz];exact f
  ·exact RepE.mono hH _ _ _ ie hre
  intro b p;rw[I]at p;exact J b (Wr p)
 ·intro o' b e0 p;rw[I]at p;rcases k b p with hge|A
  ·exact .inl hge
  exact .inr ⟨A,_,eo⟩
 ·simp only[RepV,RepP,Y,I];refine⟨?_,e6 _,λ_=>trivial⟩;rw[gz];rcases f.2 with ⟨i,R⟩|⟨g,Q,H,i,_,_,h1,h2,_⟩
  ·exact⟨none,0,by rw[i,R],a6,r,.inl (aah (by rw[gz];exact R))⟩
  refine⟨_,Q,i,h1,r,.inr ⟨g,0,rfl,?_⟩⟩;show RepE G _ ((G g).drop 0);rw[List.drop_zero,J g (by rw[i];rfl)];exact RepE.mono hH _ _ _ ie hre.sn
 intro m S;simp only[V.names,List.mem_singleton]at S;subst S;exact(h.usedO m _ eo).1
def Xr(h:Ga C E σ a w)(hd:∀d,o.dst=some d->d<C.nt){t e:Nat}{g:TI}(hte:TIOK P e g)(K:P.underlying t=some (.slice e)){x y:Operand}(ho:o.op=.call {callee:=.builtin .append,args:=#[x,y],argTypes:=#[t,t]})
  {es ys:List (List PV)} (hx:RepV E (.fsl es) (a.eval x)) (hy:RepV E (.pv (.slice ys)) (a.eval y)) (G:∀e∈es,e.length=g.size) (L:∀y∈ys,y.length=g.size) (Y:0<g.size) (hne:ys≠[]) (H:es.length+ys.length<=maxLen)
  (M:(es.length+ys.length)*g.bytes<=140737488355328) {cd:Prop}:Sound P C E σ a w o ⟨cd,True,.pv (.slice (es++ys)),none,false⟩:=by
 have⟨N,k,m,p,O⟩:=hte.info;have pl:∀(l:List (List PV)),(∀e∈l,e.length=g.size)->∀e∈vA l,e.length=g.size:=by
  intro l hl e I;obtain⟨e',he',rfl⟩:=iy.1 I
  grind[CA]
 have Z:∀l:List (List PV),(vA l).length=l.length:=by simp[vA]
 --what is X
 rcases iR (y:=.pv (.slice ys)) (ys:=vA ys) rfl hy with ⟨e0,_⟩|⟨b',s,c',A,hsr⟩
 ·grind
 have⟨c,B,Q,f⟩:=eR h hsr (pl ys L) c5 Y;rw[Z]at B A;have Q:=RepVE.toPv (wL ys) Q;have v:0<ys.length:=abg.2 hne;have D:es.length+ys.length<=9223372036854775807:=by simp only[maxLen]at H;omega
 --what is there
 have hold:∃J n,a.eval x=.slice J es.length es.length/\n.length=es.length*g.size/\RepE E.H es n/\(es=[]\/∃b off,J=some ⟨b,off,none⟩/\∀j u,n[j]? =some u->w.cell? ((⟨b,off,none⟩:Addr).add j)=some u):=by
  simp only[RepV]at hx;have⟨J,hv,_,z⟩:=hx;rcases z with rfl|⟨b,off,rfl,z⟩
  ·exact⟨J,[],hv,a8,by simp[RepE],.inl rfl⟩
  by_cases I:es=[]
  ·subst I;exact⟨_,[],hv,a8,by simp only[RepE],.inl rfl⟩
  have⟨n,h1,h2,h3⟩:=eR h (es:=vA es) (RepVE.of z) (pl es G) (by simpa[vA]using I) Y;rw[Z]at h1;exact⟨_,n,hv,h1,RepVE.toPv (wL es) h2,.inr ⟨b,off,rfl,h3⟩⟩
 have⟨J,n,F,R,hxr,hxc⟩:=hold;have hall:RepE E.H (es++ys) (n++c):=by
  have:∀(l:List (List PV))(S:List Value),(∀e∈l,e.length=g.size)->S.length=l.length*g.size->RepE E.H l S->RepE E.H (l++ys) (S++c):=by
   intro l
   induction l with
   |nil=>
    intro S _ hu _;have:S=[]:=aah (by simpa using hu);subst this;simpa using Q
   |cons e l ih=>
    intro S hl hu r;simp only[RepE,aau]at r⊢;have I:=hl e a8;have hu':S.length=g.size+l.length*g.size:=by rw[hu];simp only[hW,lr];omega
    refine⟨RepL.mono (Hle.refl _) e _ _ (aas _ _) r.1,?_⟩;rw[List.drop_append_of_le_length a6];exact ih _ (λx hx=>hl x (by simp[hx])) (by rw[aaK];omega) r.2
  exact this es n G R hxr
 --the new row
 have qC:∀(i:Nat),i<es.length+ys.length->(Builtin.append_ #[t,t] o.type #[a.eval x,a.eval y]).run P w=.ok (.slice (some ⟨w.heap.size,0,none⟩) (es.length+ys.length) (grownCap w (es.length+ys.length) i e)) (w.drew.alloc (.cells (n.toArray++c.toArray++Builtin.zeroCells g.zero.cells (grownCap w (es.length+ys.length) i e-(es.length+ys.length))) e))->Sound P C E σ a w o ⟨cd,True,.pv (.slice (es++ys)),none,false⟩:=by
  intro i ho' z;have⟨E',hE'⟩:=h.drew.newRow (dst:=o.dst) hd e (n.toArray++c.toArray++Builtin.zeroCells g.zero.cells (grownCap w (es.length+ys.length) i e-(es.length+ys.length))) (x:=.pv (.slice (es++ys))) (v:=.slice (some ⟨w.heap.size,0,none⟩) (es.length+ys.length) (grownCap w (es.length+ys.length) i e)) (by
   intro H' hH hnew;simp only[RepV,RepP];refine⟨_,_,by rw[gz],by rw[gz];exact grownCap_ge w (es.length+ys.length) i e,by rw[gz];exact H,.inr ⟨w.heap.size,0,rfl,?_⟩⟩;have U:H' w.heap.size=(n.toArray++c.toArray++Builtin.zeroCells g.zero.cells (grownCap w (es.length+ys.length) i e-(es.length+ys.length))).toList.map sn:=hnew;rw[U];refine RepE.mono hH (es++ys) ((n++c).map sn) _ ?_ hall.sn;simp) b0
  exact⟨_,_,E',oR ho z,hE',trivial⟩
 by_cases I:es=[]
 ·subst I;have hx0:n=[]:=aah (by simpa using R);subst hx0;simp only[iq,ia]at F qC D M
  cases J with
  |none=>
   have z:=run_append_nil (P:=P) w t o.type e N g.zero K k O ⟨b',s,none⟩ ys.length c' c (by rw[m];exact B) f v a6 (by rw[p];omega);refine qC 0 v ?_;rw[F,A,z];simp
  |some J=>
   have z:=run_append_grow (P:=P) w t o.type e N g.zero K k O J 0 0 [] a8 (by intro j u hj;simp at hj) ⟨b',s,none⟩ ys.length c' c (by rw[m];exact B) f a6 a6 (growslice_fits a6 (by rw[p];simpa using M));refine qC 0 v ?_;rw[F,A,z];simp
 rcases hxc with h0|⟨b,off,rfl,W⟩
 ·exact absurd h0 I
 have z:=run_append_grow (P:=P) w t o.type e N g.zero K k O ⟨b,off,none⟩ es.length es.length n (by rw[m];exact R) W ⟨b',s,none⟩ ys.length c' c (by rw[m];exact B) f a6 a6 (growslice_fits a6 (by rw[p];exact M));refine qC es.length a6 ?_;rw[F,A,z]
theorem Yr(h:Ga C E σ a w)(hg:GOK gl C.E0.H)(K:∀d,o.dst=some d->d<C.nt)(hT:KB P T){args:Array Operand}{argTypes:Array Nat}(L:o.op=.call {callee:=.builtin .append,args,argTypes}){r:R}(Z:r.cond)
  (b:gA T note (σ.val gl) (jA σ.objs) o.dst (.call {callee:=.builtin .append,args,argTypes})=some r) (hn:∀n x,r.wr=some (n,x)->r.new=true->n∉σ.used):Sound P C E σ a w o r:=by
 simp only[gA]at b;split at b
 ·rename_i t t' x y et ex;have hat:argTypes= #[t,t']:=by rw[<-aaS (xs:=argTypes),et]
  have hax:args= #[x,y]:=by rw[<-aaS (xs:=args),ex]
  subst hat hax;split at b
  ·rename_i htt;subst htt;have J:=UA h hg x;have B:=UA h hg y;have nx:=TC (gl:=gl) h x;split at b
   ·rename_i e s1 s2 s3 s4 et;have⟨d,k,hk⟩:=(hT t _ et).desc;simp only[yD]at hk;subst hk;split at b
    ·rename_i te ee;have l:=hT e te ee;unfold OI at b;split at b
     ·rename_i n ver len p;rw[p]at J nx;split at b
      ·rename_i ver' sz ty es ys eo M;cases b;obtain⟨rfl,hle,s,u,g,z,i,f,j⟩:=Z;exact fg h K l k L eo J nx M B (TC (gl:=gl) h y) hle s u g z i f j
      cases b
     ·rename_i n ver es0 p;rw[p]at J;split at b
      ·rename_i ver' sz ty es eo;split at b
       ·rename_i ys N;rw[N]at B;cases b;obtain⟨⟨rfl,s,u,g⟩,z,i,f,j⟩:=Z;exact lg h K l k L eo J B s u g z i f j
       cases b
      cases b
     ·rename_i es p;rw[p]at J;split at b
      ·rename_i ys N;rw[N]at B;cases b;have⟨D,O,g,hne,f,j⟩:=Z;exact Xr h K l k L J B D O g hne f j
      cases b
     ·rename_i p;rw[p]at J;have F:a.eval x=.slice none 0 0:=by simpa[RepV,RepP]using J
      split at b
      ·rename_i es N;cases b;have⟨D,g,j⟩:=Z;rw[N]at B;have⟨hii,Q,hisz,hiby,hiz⟩:=l.info;by_cases S:es=[]
       ·subst S;have G:∃ad' c,a.eval y=.slice ad' 0 c:=by
         simp only[RepV,RepP]at B;have⟨ad',c,hv,_⟩:=B;exact⟨ad',c,hv⟩
        have⟨ad',c,hv⟩:=G;have hr:=ug (P:=P) (w:=w) (ty:=o.type) (ad:=none) (ad':=ad') (c:=c) (len:=0) (cap:=0) l k (e6 _);refine Sound.pure h (v:=.slice none 0 0) (oR L ?_) ?_ b0 K trivial
        ·rw[F,hv];exact hr
        simp[RepV,RepP,maxLen]
       have hsrc:=iR (y:=.pv (.slice es)) (ys:=vA es) rfl B;have hpe:vA es≠[]:=by simpa[vA]using S
       have U:∀e∈vA es,e.length=te.size:=by
        intro e he;obtain⟨e',he',rfl⟩:=iy.1 he;simpa[CA]using D e' he'
       rcases hsrc with ⟨e0,_⟩|⟨b',off',c',G,hsr⟩
       ·exact absurd e0 hpe
       have⟨A,hnl,W,H⟩:=eR h hsr U hpe g;have hpl:(vA es).length=es.length:=by simp[vA]
       rw[hpl]at hnl G;have W:=RepVE.toPv (wL es) W;have hpos:0<es.length:=abg.2 S;have hlm:es.length<=maxLen:=by
        simp only[RepV,RepP]at B;have⟨_,_,_,_,hm,_⟩:=B;exact hm
       have hr:=run_append_nil (P:=P) w t o.type e hii te.zero k Q hiz ⟨b',off',none⟩ es.length c' A (by rw[hisz];exact hnl) H hpos (by simp only[maxLen]at hlm;omega) (by rw[hiby];omega);have⟨E',hE'⟩:=h.drew.newRow (dst:=o.dst) K e (A.toArray++Builtin.zeroCells te.zero.cells (grownCap w es.length 0 e-es.length)) (x:=.pv (.slice es)) (v:=.slice (some ⟨w.heap.size,0,none⟩) es.length (grownCap w es.length 0 e)) (by
        intro H' hH hnew;simp only[RepV,RepP];refine⟨_,_,rfl,grownCap_ge w es.length 0 e,hlm,.inr ⟨w.heap.size,0,rfl,?_⟩⟩;have X:H' w.heap.size=(A.toArray++Builtin.zeroCells te.zero.cells (grownCap w es.length 0 e-es.length)).toList.map sn:=hnew;rw[X];refine RepE.mono hH es (A.map sn) _ ?_ W.sn;simp) b0
       exact⟨_,_,E',oR L (by rw[F,G];exact hr),hE',trivial⟩
      ·rename_i n sz ty;split at b
       ·rename_i ys M;cases b;have⟨s,u,g,z,i,f,j⟩:=Z;have⟨E₁,h₁,Y⟩:=Ur h (n:=n) (sz:=sz) (ty:=ty) (hn _ _ rfl rfl);have I:RepV E₁ ((σ.val gl) y) (a.eval y):=by
         have:=UA (σ:=⟨σ.slots,HB σ.objs n (.arr 0 sz ty []),n::σ.used⟩) h₁ hg y;exact this
        have⟨v,w',E',h1,h2,h3⟩:=fg (cd:=True) h₁ K l k L (n:=n) (ver:=0) (len:=0) (sz:=sz) (ty:=ty) (es:=[]) (ys:=ys) (by simp[QD]) (F▸Y) b0 M I
         (λm hm=>by simp[TC (gl:=gl) h y m hm]) (e6 _) s u g z i a6 (by simpa using j)
        refine⟨v,w',E',h1,?_,trivial⟩;simp only[St.app,dg,List.take_nil,aaO,ia]at h2;exact h2
       cases b
      ·rename_i ys n sz ty N;cases b;have⟨⟨s,u,g,_⟩,z,i,f,j⟩:=Z;have⟨E₁,h₁,Y⟩:=Vr h (n:=n) (sz:=sz) (ty:=ty) (hn _ _ rfl rfl);have I:RepV E₁ ((σ.val gl) y) (a.eval y):=by
        have:=UA (σ:=⟨σ.slots,HB σ.objs n (.grow 0 sz ty []),n::σ.used⟩) h₁ hg y;exact this
       rw[N]at I;have⟨v,w',E',h1,h2,h3⟩:=lg (cd:=True) h₁ K l k L (n:=n) (ver:=0) (sz:=sz) (ty:=ty) (es0:=[]) (es:=[]) (ys:=ys) (by simp[QD]) (F▸Y) I s u g z i (by simpa using f) (by simpa using j);refine⟨v,w',E',h1,?_,trivial⟩;simp only[St.app,dg,aaO,ia]at h2;exact h2
      cases b
     cases b
    cases b
   cases b
  cases b
 cases b
theorem Zr(h:Ga C E σ a w)(g:GOK gl C.E0.H)(i:∀d,o.dst=some d->d<C.nt){args:Array Operand}{argTypes:Array Nat}(j:o.op=.call {callee:=.builtin .max,args,argTypes}){r:R}
  (b:gA T note (σ.val gl) (jA σ.objs) o.dst (.call {callee:=.builtin .max,args,argTypes})=some r):Sound P C E σ a w o r:=by
 simp only[gA]at b;split at b
 ·rename_i x y k;have f:args= #[x,y]:=by rw[<-aaS (xs:=args),k]
  subst f;have c:=UA h g x;have e:=UA h g y;split at b
  ·rename_i m n l p;cases b;rw[l]at c;rw[p]at e;have c:=CG c;have e:=CG e;refine Sound.pure h (v:=.int .i64 (if n>m then n else m)) (.inl ?_) ?_ b0 i trivial
   ·simp[execOp,j,resolve,invoke,builtin,Builtin.max_,Builtin.max2,c,e]
   rfl
  cases b
 cases b
end
end Go.Lg
