/- The logic of contracts; no conditions. -/
import Derived.Test.YtmkajedkflhbgaaGreatDoorIA2
import Derived.Laws.StructEq
import Derived.Laws.RangeString
import Derived.Laws.IdiomStrings
set_option linter.all false
namespace Go.Lg
section
variable {P:Program} {C:Ctx} {E:Env} {σ:St} {a:Act} {w:World} {gl:Nat->Option (List PV)} {o:Oper} {T:Nat->Option TI} {note:FC}
theorem Li (h:Ga C E σ a w) (hg:GOK gl C.E0.H) (hd:∀ d,o.dst=some d->d<C.nt) {f:Nat} {first caps:Array Operand} (ho:o.op = .makeFunc (.func f) first caps) {r:R} {ob:Nat->Option Ob}
  (hs:gA T note (σ.val gl) ob o.dst (.makeFunc (.func f) first caps)=some r):Sound P C E σ a w o r:=by
 simp only [gA] at hs;split at hs
 ·rename_i h0;cases hs;have hf:first = #[]:=Array.eq_empty_of_size_eq_zero h0
  subst hf;have hrep:∀ l:List Operand,RepVL E (l.map (σ.val gl)) (l.map a.eval):=by
   intro l
   induction l with
   | nil=>simp [RepVL]
   | cons x l ih=>simp only [List.map_cons,RepVL];exact⟨QA h hg x,ih⟩
  have hmf:∀ (fn:Fn) (first cap:Array Value),(Instr.makeFunc fn first cap).run P w = .ok (.func fn first cap) w:=λ _ _ _=>rfl
  refine Sound.pure h (v:=.func (.func f) #[] (caps.toList.map a.eval).toArray) (.inl ?_) ?_ ?_ hd trivial
  ·have:Array.map a.eval caps=(List.map a.eval caps.toList).toArray:=by rw [<- Array.toList_map]
   simp [execOp,ho,hmf,this]
  ·simp only [RepV];exact⟨_,rfl,by simp,hrep _⟩
  ·intro n hn;simp only [V.names] at hn;obtain⟨c,hc,hn⟩:=mem_namesL.1 hn;obtain⟨x,_,rfl⟩:=List.mem_map.1 hc;exact fC h x n hn
 ·split at hs
  ·rename_i h0 h1;cases hs;have hf:caps = #[]:=Array.eq_empty_of_size_eq_zero h1;subst hf;have hrep:∀ l:List Operand,RepVL E (l.map (σ.val gl)) (l.map a.eval):=by
    intro l
    induction l with
    | nil=>simp [RepVL]
    | cons x l ih=>simp only [List.map_cons,RepVL];exact⟨QA h hg x,ih⟩
   have hmf:∀ (fn:Fn) (first cap:Array Value),(Instr.makeFunc fn first cap).run P w = .ok (.func fn first cap) w:=λ _ _ _=>rfl
   refine Sound.pure h (v:=.func (.func f) (first.toList.map a.eval).toArray #[]) (.inl ?_) ?_ ?_ hd trivial
   ·have:Array.map a.eval first=(List.map a.eval first.toList).toArray:=by rw [<- Array.toList_map]
    simp [execOp,ho,hmf,this]
   ·simp only [RepV];exact⟨_,rfl,by simp,hrep _⟩
   ·intro n hn;simp only [V.names] at hn;obtain⟨c,hc,hn⟩:=mem_namesL.1 hn;obtain⟨x,_,rfl⟩:=List.mem_map.1 hc;exact fC h x n hn
  ·cases hs
theorem Mi (h:Ga C E σ a w) (hd:∀ d,o.dst=some d->d<C.nt) {t:Nat} (ho:o.op = .makeMap t none) {r:R} {ob:Nat->Option Ob} {val:Operand->V} (hc:r.cond)
  (hs:gA T note val ob o.dst (.makeMap t none)=some r) (hn:∀ n x,r.wr=some (n,x)->r.new=true->n ∉ σ.used):Sound P C E σ a w o r:=by
 simp only [gA] at hs;split at hs
 ·rename_i n sk;cases hs;have hn:=hn n _ rfl rfl;let E':Env:={ E with g:=λ m=>if m=n then .map (some w.heap.size) else E.g m };have hg':E'.g n = .map (some w.heap.size):=by simp [E']
  have hE:∀ m,m≠n->E'.g m=E.g m/\E'.ver m=E.ver m/\E'.sz m=E.sz m:=λ m hm=>⟨by simp [E',hm],rfl,rfl⟩
  refine⟨.map (some w.heap.size),w.alloc (.map #[] 0),E',.inl ?_,?_,trivial⟩
  ·have:(Instr.makeMap t none).run P w = .ok (.map (some w.heap.size)) (w.alloc (.map #[] 0)):=rfl;simp [execOp,ho,this]
  refine h.change (E':=E') n (some (.smap sk [])) (kB σ.objs n (.smap sk [])) (n::σ.used) o.dst (.map n) _ (λ m=>QC _ _ _ _) (Hle.refl _) hE (λ hk=>absurd hk hn) (λ hk=>absurd hk hn)
   (by simp) ⟨rfl,rfl,rfl⟩ (λ b hb _=>⟨heap_alloc_old w _ b hb,rfl⟩) (dO h.heap _ E' rfl) ?_ ?_ (λ m hm=>by simp [hm]) ?_ ?_ hd
  ·intro o' e;cases e;exact⟨⟨w.heap.size,#[],0,hg',heap_alloc_new w _,h.heap.lt (Nat.le_refl _),by simp [EntsS],by simp [StampOK]⟩,by simp,by simp [Ob.names,OB]⟩
  ·intro o' b e hb;rw [hg'] at hb;simp [xA] at hb;omega
  ·exact⟨_,hg',rfl⟩
  ·simp [V.names]
 ·cases hs
theorem NQ (w:World) (r b:Nat) (ob:Obj) (h:b≠r):({ w with heap:=w.heap.setIfInBounds r ob } : World).heap[b]? = w.heap[b]?:=by
 simp [Array.getElem?_setIfInBounds_ne (λ e=>h e.symm)]
def iG (s:Bool):TypeDesc:=match s with
 | true => .string
 | false => .int .i64
theorem pZ {x y:List Nat} (hx:∀ b∈x,b<256) (hy:∀ b∈y,b<256):((⟨(x.map UInt8.ofNat).toArray⟩:ByteArray) == ⟨(y.map UInt8.ofNat).toArray⟩)=oD x y:=by
 rw [beq_toListBytes,ByteArray.toList_mk,ByteArray.toList_mk,qZ hx hy]
theorem Ni {a b:SK} {s:Bool} (ha:a.kind=s) (hb:b.kind=s) (oa:a.ok) (ob:b.ok):Instr.sameNow (iG s) a.v b.v=some (SK.eqB a b):=by
 subst ha
 cases a with
 | int n =>
  cases b with
  | int m =>
   simp only [SK.kind,iG,SK.v,Instr.sameNow,SK.eqB];by_cases e:n=m<;>simp [e]
  | str y=>cases hb
 | str x =>
  cases b with
  | int m=>cases hb
  | str y =>
   simp only [SK.kind,iG,SK.v,Instr.sameNow,SK.eqB,pZ oa ob]
theorem JU {s:Bool} {a:SK} (ha:a.kind=s) (oa:a.ok) {E:Env} : ∀ (es:List (SK × V)) (ms:List MapEntry) (i:Nat),EntsS E s es ms ->
  (GC es a=none->Instr.findNow (iG s) a.v ms i=some none/\HC es a=λ x=>es++[(a,x)]) /\
  (∀ x,GC es a=some x->∃ j e,Instr.findNow (iG s) a.v ms i=some (some (i+j,e.val))/\ms[j]? = some e/\e.key=a.v/\RepV E x e.val /\ ∀ y v,RepV E y v->EntsS E s (HC es a y) (ms.modify j λ e => { e with key:=a.v,val:=v }))
 | [],[],i,_=>by
  refine⟨λ _=>⟨rfl,by funext p;rfl⟩,λ p h=>by cases h⟩
 | (k0,p0)::es,m::ms,i,r=>by
  have ih:=JU ha oa es ms (i+1) r.2;have hsame:=Ni ha r.1.2.1 oa r.1.2.2.1
  cases e:SK.eqB a k0 with
  | true =>
   have e':=(SK.eqB_iff a k0).1 e;refine⟨λ h=>by simp [GC,e] at h,λ x h => ?_⟩;simp only [GC,e,cond_true,Option.some.injEq] at h;subst h;refine⟨0,m,?_,rfl,by rw [e'];exact r.1.1,r.1.2.2.2,λ y v hy => ?_⟩
   ·unfold Instr.findNow;rw [r.1.1,hsame,e];rfl
   ·simp only [HC,e,cond_true,List.modify_zero_cons];exact⟨⟨rfl,ha,oa,hy⟩,r.2⟩
  | false =>
   refine⟨λ h => ?_,λ x h => ?_⟩
   ·simp only [GC,e,cond_false] at h;obtain⟨h1,h2⟩:=ih.1 h;refine⟨?_,?_⟩
    ·unfold Instr.findNow;rw [r.1.1,hsame,e];exact h1
    ·funext x;simp only [HC,e,cond_false,h2];rfl
   ·simp only [GC,e,cond_false] at h;obtain⟨j,e',h1,h2,h3,h4,h5⟩:=ih.2 x h;refine⟨j+1,e',?_,by simpa using h2,h3,h4,λ y v hy => ?_⟩
    ·unfold Instr.findNow;rw [r.1.1,hsame,e];simp only [h1];congr 3;omega
    ·simp only [HC,e,cond_false,List.modify_succ_cons];exact⟨r.1,h5 y v hy⟩
 | [],_::_,_,r=>r.elim
 | (_,_)::_,[],_,r=>r.elim
theorem EntsS.app {E:Env} {s:Bool} {k:SK} {x:V} {v:Value} {c:Nat} (hk:k.kind=s) (ho:k.ok) (hv:RepV E x v):∀ {es:List (SK × V)} {ms:List MapEntry},EntsS E s es ms->EntsS E s (es++[(k,x)]) (ms++[⟨k.v,v,c⟩])
 | [],[],_=>⟨⟨rfl,hk,ho,hv⟩,trivial⟩
 | (_,_)::_,_::_,r=>⟨r.1,EntsS.app hk ho hv r.2⟩
 | [],_::_,r=>r.elim
 | (_,_)::_,[],r=>r.elim
theorem rZ {a:SK} {x:V} : ∀ {es:List (SK × V)} {n:Nat},n∈OB (HC es a x)->n∈x.names\/n∈OB es
 | [],n,h=>by simpa [HC,OB] using h
 | (k,y)::r,n,h=>by
  unfold HC at h
  cases e:SK.eqB a k with
  | true =>
   rw [e] at h;simp only [cond_true,OB,List.mem_append] at h ⊢;rcases h with h|h
   ·exact .inl h
   ·exact .inr (.inr h)
  | false =>
   rw [e] at h;simp only [cond_false,OB,List.mem_append] at h ⊢;rcases h with h|h
   ·exact .inr (.inl h)
   ·rcases rZ h with h|h
    ·exact .inl h
    ·exact .inr (.inr h)
theorem sZ {a:SK} {x:V} : ∀ {es:List (SK × V)},GC es a=some x->∀ n∈x.names,n∈OB es
 | [],h,_,_=>by cases h
 | (k,y)::r,h,n,hn=>by
  unfold GC at h
  cases e:SK.eqB a k with
  | true=>rw [e] at h;cases h;simp [OB,hn]
  | false=>rw [e] at h;simp only [OB,List.mem_append];exact .inr (sZ h n hn)
theorem tZ {E:Env} {k:V} {a:SK} {v:Value} (h:tM k=some a) (hr:RepV E k v):v=a.v/\a.ok:=by
 unfold tM at h;split at h
 ·cases h;exact⟨by simpa [RepV,RepP,SK.v] using hr,trivial⟩
 ·cases h;simp only [RepV,RepP] at hr;exact⟨hr.1,hr.2⟩
 ·cases h
theorem Oi (a:SK) (ho:a.ok):Instr.sameBits 10000 a.v a.v=true:=by
 have e:(10000:Nat)=9999+1:=rfl;rw [e]
 cases a with
 | int n=>simp [SK.v,Instr.sameBits]
 | str l=>simp only [SK.v,Instr.sameBits,pZ ho ho];exact (mM l l).2 rfl
theorem aZ {kt:Nat} {s:Bool} (hu:P.underlying kt=some (iG s)) (b:Bool) (v:Value):(Instr.checkKey b 10000 kt v).run P w = .ok () w:=by
 have e:(10000:Nat)=9999+1:=rfl;rw [e];unfold Instr.checkKey;cases s<;>simp only [iG] at hu<;>simp [Sem.run_bind,run_underlying hu]
theorem OQ {kt:Nat} {s:Bool} (hu:P.underlying kt=some (iG s)) {v:Value} {ms:List MapEntry} {q:Option (Nat × Value)} (h:Instr.findNow (iG s) v ms 0=some q):(Instr.findKey kt v ms).run P w = .ok q w:=by
 unfold Instr.findKey;simp only [Sem.run_bind,run_underlying hu,Result.andThen_ok,h];rfl
theorem StampOK.push {ms:List MapEntry} {ck:Nat} (h:StampOK ms ck) (k v:Value):StampOK (ms++[⟨k,v,ck⟩]) (ck+1):=by
 refine⟨λ x hx => ?_,?_⟩
 ·rcases List.mem_append.1 hx with hx|hx
  ·exact Nat.lt_succ_of_lt (h.1 x hx)
  ·simp at hx;subst hx;exact Nat.lt_succ_self _
 ·rw [List.map_append,List.nodup_append];refine⟨h.2,by simp,λ a ha b hb => ?_⟩;obtain⟨x,hx,rfl⟩:=List.mem_map.1 ha;simp at hb;subst hb;exact Nat.ne_of_lt (h.1 x hx)
theorem KU {f:MapEntry->MapEntry} (hf:∀ e,(f e).born=e.born):∀ (l:List MapEntry) (j:Nat),(l.modify j f).map (·.born)=l.map (·.born)
 | [],j=>by simp
 | e::r,0=>by simp [hf]
 | e::r,j+1=>by simp [KU hf r j]
theorem StampOK.modify {ms:List MapEntry} {ck:Nat} (h:StampOK ms ck) (j:Nat) (f:MapEntry->MapEntry) (hf:∀ e,(f e).born=e.born):StampOK (ms.modify j f) ck:=by
 refine⟨λ x hx => ?_,by rw [KU hf];exact h.2⟩;have:x.born∈(ms.modify j f).map (·.born):=List.mem_map.2 ⟨x,hx,rfl⟩;rw [KU hf] at this;obtain⟨y,hy,e⟩:=List.mem_map.1 this;rw [<- e];exact h.1 y hy
theorem cZ (h:Ga C E σ a w) (hg:GOK gl C.E0.H) {t kt vt:Nat} {s:Bool} {m k v:Operand} (hde:P.underlying t=some (.map kt vt)) (hu:P.underlying kt=some (iG s)) (ho:o.op = .mapUpdate t m k v\/o.op = .insert t m k v) (hdst:o.dst=none) {r:R} (hc:r.cond)
  (hs:wI s (zA σ.objs) (σ.val gl m) (σ.val gl k) (σ.val gl v)=some r):Sound P C E σ a w o r:=by
 have hm:=QA h hg m;have hk:=QA h hg k;have hv:=QA h hg v;have nv:=fC (gl:=gl) h v;unfold wI at hs;split at hs
 ·rename_i n ak em ek;rw [em] at hm;obtain⟨hkv,hok⟩:=tZ ek hk;split at hs
  ·rename_i s' es eo;cases hs;obtain⟨rfl,hkind⟩:=hc;simp only [RepV] at hm;obtain⟨b,hgn,hmv⟩:=hm;obtain⟨b',ms,ck,hgn',hcell,hfree,hents,hst⟩:=h.objs n _ eo;rw [hgn] at hgn';cases hgn';obtain⟨hf1,hf2⟩:=JU hkind hok es ms.toList 0 hents;have key:∀ ms' ck',EntsS E s' (HC es ak (σ.val gl v)) ms'.toList->StampOK ms'.toList ck'->(Instr.mapUpdate t (a.eval m) (a.eval k) (a.eval v)).run P w = .ok () { w with heap:=w.heap.setIfInBounds b (.map ms' ck') } ->
     Sound P C E σ a w o ⟨s'=s'/\ak.kind=s',True,.undef,some (n,.smap s' (HC es ak (σ.val gl v))),false⟩:=by
    intro ms' ck' hents' hst' hr;refine⟨undef,{ w with heap:=w.heap.setIfInBounds b (.map ms' ck') },E,.inr ⟨?_,rfl⟩,?_,trivial⟩
    ·rcases ho with ho|ho<;>simp only [execOp,ho,Sem.run_bind,hr,Result.andThen_ok]<;>rfl
    have hbl:b<w.heap.size:=(Array.getElem?_eq_some_iff.1 hcell).1;refine h.change (E':=E) n (some (.smap s' (HC es ak (σ.val gl v)))) (kB σ.objs n (.smap s' (HC es ak (σ.val gl v)))) σ.used o.dst .undef undef (λ m=>QC _ _ _ _) (Hle.refl _) (λ _ _=>⟨rfl,rfl,rfl⟩) (λ _=>EExt.refl _ _) (λ _=>⟨_,eo⟩) (by simp) ⟨rfl,rfl,rfl⟩
     (λ b1 hlt hne=>⟨NQ w b b1 _ (λ e=>hne _ eo (by rw [e,hgn];rfl)),rfl⟩) ?_ ?_ ?_ (λ _ h=>h) (by simp [RepV]) (by simp [V.names]) (by rw [hdst];simp)
    ·intro b1 hb1;have:b1≠b:=λ e=>hb1 (e ▸ hfree)
     obtain⟨c,T',fr,hc,hp⟩:=h.heap b1 hb1;exact⟨c,T',fr,by rw [NQ w b b1 _ this];exact hc,hp⟩
    ·intro o' e;cases e;refine⟨⟨b,ms',ck',hgn,by simp [hbl],hfree,hents',hst'⟩,(h.usedO n _ eo).1,λ q hq => ?_⟩;rcases rZ hq with hq|hq
     ·exact nv q hq
     ·exact (h.usedO n _ eo).2 q hq
    ·intro o' b1 e hb1;exact .inr ⟨hb1,_,eo⟩
   have hget:(getObj b).run P w = .ok (.map ms ck) w:=by simp [getObj,Sem.run,hcell]
   have hset:∀ ob:Obj,(setObj b ob).run P w = .ok () { w with heap:=w.heap.setIfInBounds b ob }:=by intro ob;simp [setObj,Sem.run,hcell]
   have hck:=λ c v=>aZ (w:=w) hu c v
   cases hg1:GC es ak with
   | none =>
    obtain⟨h1,h2⟩:=hf1 hg1;have hfk:=OQ (w:=w) hu h1;refine key (ms.push ⟨ak.v,a.eval v,ck⟩) (ck+1) ?_ ?_ ?_
    ·rw [h2];simp only [Array.toList_push];exact hents.app hkind hok hv
    ·simp only [Array.toList_push];exact hst.push _ _
    ·unfold Instr.mapUpdate;simp only [Sem.run_bind,run_underlying hde,Result.andThen_ok,hmv,hget,hkv,hck,hfk,hset]
   | some q =>
    obtain⟨j,e0,h1,h2,h3,h4,h5⟩:=hf2 q hg1;rw [Nat.zero_add] at h1;have hfk:=OQ (w:=w) hu h1;refine key (ms.modify j λ e => { e with key:=ak.v,val:=a.eval v }) ck ?_ ?_ ?_
    ·rw [Array.toList_modify];exact h5 _ _ hv
    ·rw [Array.toList_modify];exact hst.modify j _ λ _=>rfl
    ·have hkk:((ms[j]?).map (·.key)).getD ak.v=ak.v:=by
      have:ms[j]? = some e0:=by simpa using h2
      rw [this];simpa using h3
     unfold Instr.mapUpdate;simp only [Sem.run_bind,run_underlying hde,Result.andThen_ok,hmv,hget,hkv,hck,hfk,hkk,Instr.keyThatStays,Oi _ hok];simp [hset]
  ·cases hs
 ·cases hs
theorem Pi (h:Ga C E σ a w) (hg:GOK gl C.E0.H) (hd:∀ d,o.dst=some d->d<C.nt) {t kt vt:Nat} {s ok:Bool} {m k:Operand} (hde:P.underlying t=some (.map kt vt)) (hu:P.underlying kt=some (iG s)) (ho:o.op = .lookup t m k ok) {r:R} (hc:r.cond)
  {ti:TI} (hv:TIOK P vt ti) {z:PV} (ez:kI ti=some z) (hs:nJ s ok z (zA σ.objs) (σ.val gl m) (σ.val gl k)=some r):Sound P C E σ a w o r:=by
 have hm:=QA h hg m;have hk:=QA h hg k;unfold nJ at hs;split at hs
 ·rename_i n ak em ek;rw [em] at hm;obtain⟨hkv,hok⟩:=tZ ek hk;split at hs
  ·rename_i s' es eo;cases hs;obtain⟨rfl,hkind⟩:=hc;simp only [RepV] at hm;obtain⟨b,hgn,hmv⟩:=hm;obtain⟨b',ms,ck,hgn',hcell,hfree,hents,_⟩:=h.objs n _ eo;rw [hgn] at hgn';cases hgn';obtain⟨hf1,hf2⟩:=JU hkind hok es ms.toList 0 hents;have hget:(getObj b).run P w = .ok (.map ms ck) w:=by simp [getObj,Sem.run,hcell]
   have hck:=λ c v=>aZ (w:=w) hu c v
   have hz:RepP E.H z ti.zero:=BU hv ez E.H;have UB:∀ (u:Value) (x:V) (c:Bool),RepV E x u->(∀ n∈x.names,n∈σ.used)->(Instr.lookup t (a.eval m) (a.eval k) ok).run P w = .ok (if ok then .tuple #[u,.bool c] else u) w ->
     Sound P C E σ a w o ⟨s'=s'/\ak.kind=s',True,(match ok with|true => .tuple [x,.pv (.bool c)]|false=>x),.none,false⟩:=by
    intro u x c hx hn hr
    cases ok with
    | true =>
     refine Sound.pure h (v:=.tuple #[u,.bool c]) (.inl ?_) ?_ (by simpa [V.names,GA] using hn) hd trivial
     ·simp only [execOp,ho,Sem.run_bind,hr,Result.andThen_ok];rfl
     ·simp only [RepV];exact⟨[u,.bool c],rfl,by simp,by simp only [RepVL];exact⟨hx,by simp [RepV,RepP],trivial⟩⟩
    | false =>
     refine Sound.pure h (v:=u) (.inl ?_) hx hn hd trivial;simp only [execOp,ho,Sem.run_bind,hr,Result.andThen_ok];rfl
   cases hg1:GC es ak with
   | none =>
    obtain⟨h1,_⟩:=hf1 hg1;have hfk:=OQ (w:=w) hu h1;have hr:(Instr.lookup t (a.eval m) (a.eval k) ok).run P w = .ok (if ok then .tuple #[ti.zero,.bool false] else ti.zero) w:=by
     unfold Instr.lookup;simp only [Sem.run_bind,run_underlying hde,Result.andThen_ok,hmv,hget,hkv];cases ok<;>simp [hck,hfk,hv.run_zero]
    have:=UB ti.zero (.pv z) false (by simpa only [RepV] using hz) (by simp [V.names]) hr
    cases ok with
    | true =>
     exact Sound.pure h (v:=.tuple #[ti.zero,.bool false]) (.inl (by simp only [execOp,ho,Sem.run_bind,hr,Result.andThen_ok];rfl)) (by
      simp only [RepV,RepP];exact⟨[ti.zero,.bool false],rfl,by simp,by simp only [RepL,RepP];exact⟨hz,by simp⟩⟩) (by simp [V.names]) hd trivial
    | false=>exact this
   | some x =>
    obtain⟨j,e0,h1,h2,h3,h4,_⟩:=hf2 x hg1;have hfk:=OQ (w:=w) hu h1;have hr:(Instr.lookup t (a.eval m) (a.eval k) ok).run P w = .ok (if ok then .tuple #[e0.val,.bool true] else e0.val) w:=by
     unfold Instr.lookup;simp only [Sem.run_bind,run_underlying hde,Result.andThen_ok,hmv,hget,hkv];cases ok<;>simp [hck,hfk]
    have:=UB e0.val x true h4 (λ q hq=>(h.usedO n _ eo).2 q (sZ hg1 q hq)) hr
    cases ok with
    | true=>exact this
    | false=>exact this
  ·cases hs
 ·cases hs
theorem Qi (h:Ga C E σ a w) (hg:GOK gl C.E0.H) (hT:xB P T) {t:Nat} {m k v:Operand} (ho:o.op = .mapUpdate t m k v) {r:R} (hc:r.cond)
  (hs:gA T note (σ.val gl) (zA σ.objs) o.dst (.mapUpdate t m k v)=some r):Sound P C E σ a w o r:=by
 simp only [gA] at hs;split at hs
 ·rename_i kt vt sk s1 s2 s3 s4 hdst et;obtain⟨d,hde,hkk⟩:=(hT t _ et).desc;simp only [IB] at hkk;obtain⟨rfl,hu⟩:=hkk;exact cZ h hg hde (by cases sk<;>exact hu) (.inl ho) hdst hc hs
 ·cases hs
theorem Ri (h:Ga C E σ a w) (hg:GOK gl C.E0.H) (hT:xB P T) {t:Nat} {m k v:Operand} (ho:o.op = .insert t m k v) {r:R} (hc:r.cond)
  (hs:gA T note (σ.val gl) (zA σ.objs) o.dst (.insert t m k v)=some r):Sound P C E σ a w o r:=by
 simp only [gA] at hs;split at hs
 ·rename_i kt vt sk s1 s2 s3 s4 hdst et;obtain⟨d,hde,hkk⟩:=(hT t _ et).desc;simp only [IB] at hkk;obtain⟨rfl,hu⟩:=hkk;exact cZ h hg hde (by cases sk<;>exact hu) (.inr ho) hdst hc hs
 ·cases hs
theorem Si (h:Ga C E σ a w) (hg:GOK gl C.E0.H) (hd:∀ d,o.dst=some d->d<C.nt) (hT:xB P T) {t:Nat} {m k:Operand} {ok:Bool} (ho:o.op = .lookup t m k ok) {r:R} (hc:r.cond)
  (hs:gA T note (σ.val gl) (zA σ.objs) o.dst (.lookup t m k ok)=some r):Sound P C E σ a w o r:=by
 simp only [gA] at hs;split at hs
 ·rename_i kt vt sk s1 s2 s3 s4 et;obtain⟨d,hde,hkk⟩:=(hT t _ et).desc;simp only [IB] at hkk;obtain⟨rfl,hu⟩:=hkk;split at hs
  ·rename_i tv evt;have hv:=hT vt _ evt;split at hs
   ·rename_i z ez;exact Pi h hg hd hde (by cases sk<;>exact hu) ho hc hv ez hs
   ·cases hs
  ·cases hs
 ·cases hs
theorem Ti (h:Ga C E σ a w) (hg:GOK gl C.E0.H) (hd:∀ d,o.dst=some d->d<C.nt) (hT:xB P T) {t:Nat} {x:Operand} (ho:o.op = .range t x) {r:R}
  (hs:gA T note (σ.val gl) (zA σ.objs) o.dst (.range t x)=some r) (hn:∀ n x,r.wr=some (n,x)->r.new=true->n ∉ σ.used):Sound P C E σ a w o r:=by
 have hx:=QA h hg x;simp only [gA] at hs;split at hs
 ·rename_i s1 s2 s3 s4 et;obtain⟨d,hde,hk⟩:=(hT t _ et).desc;simp only [IB] at hk;subst hk;unfold iU at hs;split at hs
  ·rename_i n l ex;rw [ex] at hx;simp only [RepV,RepP] at hx;cases hs;have hn:=hn n _ rfl rfl;let E':Env:={ E with g:=λ m=>if m=n then .pointer (some ⟨w.heap.size,0,none⟩) else E.g m };have hg':E'.g n = .pointer (some ⟨w.heap.size,0,none⟩):=by simp [E']
   have hE:∀ m,m≠n->E'.g m=E.g m/\E'.ver m=E.ver m/\E'.sz m=E.sz m:=λ m hm=>⟨by simp [E',hm],rfl,rfl⟩
   refine⟨.pointer (some ⟨w.heap.size,0,none⟩),w.alloc (.stringIter ⟨(l.map UInt8.ofNat).toArray⟩ 0),E',.inl ?_,?_,trivial⟩
   ·have hr:(Instr.range t (a.eval x)).run P w = .ok (.pointer (some ⟨w.heap.size,0,none⟩)) (w.alloc (.stringIter ⟨(l.map UInt8.ofNat).toArray⟩ 0)):=by
     rw [hx.1];simp [Instr.range,Sem.run_bind,run_underlying hde]
    simp only [execOp,ho,Sem.run_bind,hr,Result.andThen_ok];rfl
   refine h.change (E':=E') n (some (.siter l 0)) (kB σ.objs n (.siter l 0)) (n::σ.used) o.dst (.loc n 0) _ (λ m=>QC _ _ _ _) (Hle.refl _) hE (λ hk=>absurd hk hn) (λ hk=>absurd hk hn)
    (by simp) ⟨rfl,rfl,rfl⟩ (λ b hb _=>⟨heap_alloc_old w _ b hb,rfl⟩) (dO h.heap _ E' rfl) ?_ ?_ (λ m hm=>by simp [hm]) ?_ ?_ hd
   ·intro o' e;cases e;exact⟨⟨w.heap.size,hg',heap_alloc_new w _,h.heap.lt (Nat.le_refl _),hx.2⟩,by simp,by simp [Ob.names]⟩
   ·intro o' b e hb;rw [hg'] at hb;simp [xA] at hb;omega
   ·exact⟨_,hg',rfl⟩
   ·simp [V.names]
  ·cases hs
 ·cases hs
theorem Ui (h:Ga C E σ a w) (hg:GOK gl C.E0.H) (hd:∀ d,o.dst=some d->d<C.nt) {x:Operand} (ho:o.op = .next x true) {r:R} (hc:r.cond)
  (hs:gA T note (σ.val gl) (zA σ.objs) o.dst (.next x true)=some r):Sound P C E σ a w o r:=by
 have hx:=QA h hg x;simp only [gA] at hs;unfold aM at hs;split at hs
 ·rename_i n ex;rw [ex] at hx;simp only [RepV] at hx;obtain⟨b,hgn,hv⟩:=hx;split at hs
  ·rename_i l p eo;obtain⟨b',hgn',hcell,hfree,hlt⟩:=h.objs n _ eo;rw [hgn] at hgn';cases hgn';have hget:(getObj b).run P w = .ok (.stringIter ⟨(l.map UInt8.ofNat).toArray⟩ p) w:=by simp [getObj,Sem.run,hcell]
   have hset:∀ ob:Obj,(setObj b ob).run P w = .ok () { w with heap:=w.heap.setIfInBounds b ob }:=by intro ob;simp [setObj,Sem.run,hcell]
   have hsz:(⟨(l.map UInt8.ofNat).toArray⟩:ByteArray).size=l.length:=by simp [ByteArray.size]
   have hbl:b<w.heap.size:=(Array.getElem?_eq_some_iff.1 hcell).1;split at hs
   ·rename_i c ec;cases hs;have hp:p<l.length:=(List.getElem?_eq_some_iff.1 ec).1;have hpc:l[p]=c:=(List.getElem?_eq_some_iff.1 ec).2;have hdec:=decode_ascii (⟨(l.map UInt8.ofNat).toArray⟩:ByteArray) p (by rw [hsz];exact hp) (by
     have h1:((⟨(l.map UInt8.ofNat).toArray⟩:ByteArray)[p]'(by rw [hsz];exact hp))=UInt8.ofNat l[p]:=by simp [ByteArray.getElem_eq_getElem_data]
     rw [h1,hpc];have:(UInt8.ofNat c).toNat=c:=by simp [Nat.mod_eq_of_lt (show c<256 by omega)]
     omega)
    have hcb:((⟨(l.map UInt8.ofNat).toArray⟩:ByteArray)[p]'(by rw [hsz];exact hp)).toNat=c:=by
     have h1:((⟨(l.map UInt8.ofNat).toArray⟩:ByteArray)[p]'(by rw [hsz];exact hp))=UInt8.ofNat l[p]:=by simp [ByteArray.getElem_eq_getElem_data]
     rw [h1,hpc];simp [Nat.mod_eq_of_lt (show c<256 by omega)]
    rw [hcb] at hdec;have hr:(Instr.next (a.eval x) true o.type).run P w = .ok (.tuple #[.bool true,.int .i64 p,.int .i32 c]) { w with heap:=w.heap.setIfInBounds b (.stringIter ⟨(l.map UInt8.ofNat).toArray⟩ (p+1)) }:=by
     rw [hv];unfold Instr.next;simp only [Sem.run_bind,hget,Result.andThen_ok,hsz,hp,if_true,hdec,hset,goInt];simp
    refine⟨.tuple #[.bool true,.int .i64 p,.int .i32 c],{ w with heap:=w.heap.setIfInBounds b (.stringIter ⟨(l.map UInt8.ofNat).toArray⟩ (p+1)) },E,.inl ?_,?_,trivial⟩
    ·simp only [execOp,ho,Sem.run_bind,hr,Result.andThen_ok];rfl
    refine h.change (E':=E) n (some (.siter l (p+1))) (kB σ.objs n (.siter l (p+1))) σ.used o.dst _ _ (λ m=>QC _ _ _ _) (Hle.refl _) (λ _ _=>⟨rfl,rfl,rfl⟩) (λ _=>EExt.refl _ _) (λ _=>⟨_,eo⟩) (by simp) ⟨rfl,rfl,rfl⟩
     (λ b1 hlt hne=>⟨NQ w b b1 _ (λ e=>hne _ eo (by rw [e,hgn];rfl)),rfl⟩) ?_ ?_ ?_ (λ _ h=>h) ?_ (by simp [V.names]) hd
    ·intro b1 hb1;have:b1≠b:=λ e=>hb1 (e ▸ hfree)
     obtain⟨c,T',fr,hc,hp⟩:=h.heap b1 hb1;exact⟨c,T',fr,by rw [NQ w b b1 _ this];exact hc,hp⟩
    ·intro o' e;cases e;exact⟨⟨b,hgn,by simp [hbl],hfree,hlt⟩,(h.usedO n _ eo).1,by simp [Ob.names]⟩
    ·intro o' b1 e hb1;exact .inr ⟨hb1,_,eo⟩
    ·simp only [RepV,RepP];exact⟨[.bool true,.int .i64 p,.int .i32 c],rfl,by simp,by simp [RepL,RepP]⟩
   ·rename_i ec;cases hs;have hp:¬ p<l.length:=by
     intro hlt;rw [List.getElem?_eq_getElem hlt] at ec;cases ec
    have hr:(Instr.next (a.eval x) true o.type).run P w = .ok (.tuple #[.bool false]) w:=by
     rw [hv];unfold Instr.next;simp only [Sem.run_bind,hget,Result.andThen_ok,hsz,hp,if_false];simp
    refine Sound.pure h (v:=.tuple #[.bool false]) (.inl ?_) ?_ (by simp [V.names]) hd trivial
    ·simp only [execOp,ho,Sem.run_bind,hr,Result.andThen_ok];rfl
    ·simp only [RepV,RepP];exact⟨[.bool false],rfl,by simp,by simp [RepL,RepP]⟩
  ·cases hs
 ·cases hs
theorem eZ:∀ {es:List (List PV)} {l:List Nat},yI es=some l->l.length=es.length/\(∀ e∈es,e.length=1) /\ ∀ b∈l,b<256
 | [],_,h=>by cases h;simp
 | e::r,l,h=>by
  unfold yI at h;split at h
  ·rename_i e1;cases e1
  ·rename_i b r' e1;cases e1
   cases hb:Nat.blt b 256 with
   | false=>rw [hb] at h;cases h
   | true =>
    rw [hb] at h;simp only [cond_true] at h;split at h
    ·rename_i l' e2;cases h;obtain⟨q1,q2,q3⟩:=eZ e2;refine⟨by simp [q1],λ e he => ?_,λ x hx => ?_⟩
     ·rcases List.mem_cons.1 he with rfl|he
      ·rfl
      ·exact q2 e he
     ·rcases List.mem_cons.1 hx with rfl|hx
      ·exact Nat.le_of_ble_eq_true hb
      ·exact q3 x hx
    ·cases h
  ·cases h
theorem iZ {H:Hp} : ∀ {es:List (List PV)} {l:List Nat} {us:List Value},yI es=some l->RepE H es us->∀ (j:Nat) (b:Nat),l[j]? = some b->us[j]? = some (.int .u8 (Int.ofNat b))
 | [],_,_,h,_,j,b,hj=>by cases h;simp at hj
 | e::r,l,us,h,hr,j,b,hj=>by
  unfold yI at h;split at h
  ·rename_i e1;cases e1
  ·rename_i b' r' e1;cases e1
   cases hb:Nat.blt b' 256 with
   | false=>rw [hb] at h;cases h
   | true =>
    rw [hb] at h;simp only [cond_true] at h;split at h
    ·rename_i l' e2;cases h
     cases us with
     | nil=>simp [RepE,RepL] at hr
     | cons u us =>
      simp only [RepE,RepL,RepP,List.length_cons,List.length_nil,List.drop_succ_cons,List.drop_zero] at hr
      cases j with
      | zero=>simp at hj;subst hj;simp [hr.1.1.1]
      | succ j=>simpa using iZ e2 hr.2 j b (by simpa using hj)
    ·cases h
  ·cases h
theorem Vi (h:Ga C E σ a w) (hg:GOK gl C.E0.H) (hd:∀ d,o.dst=some d->d<C.nt) (hT:xB P T) {s t:Nat} {x:Operand} (ho:o.op = .convert s t x) {r:R} (hc:r.cond)
  (hs:gA T note (σ.val gl) (zA σ.objs) o.dst (.convert s t x)=some r):Sound P C E σ a w o r:=by
 have hx:=QA h hg x;simp only [gA] at hs;have key:∀ (si:TI) (k k':IntKind) (n:Int) (sz by_:Nat) (z:Value) (zc:List PV),T s=some si->T t=some ⟨.num k,sz,by_,z,zc⟩->a.eval x = .int k' n->Sound P C E σ a w o (R.of (.pv (.num k (k.wrap n)))):=by
  intro si k k' n sz by_ z zc es et ev;obtain⟨d,hsd,_⟩:=(hT s _ es).desc;obtain⟨d',hd',hk⟩:=(hT t _ et).desc;simp only [IB] at hk;obtain⟨rfl,h1,h2⟩:=hk;refine Sound.pure h (v:=.int k (k.wrap n)) (.inl ?_) (by simp only [RepV,RepP];exact⟨trivial,h1,h2⟩) (by simp [V.names]) hd trivial;simp [execOp,ho,ev,convert,run_underlying hsd,run_underlying hd',Conv.intToInt]
 have key2:∀ (si:TI) (k':IntKind) (n:Int) (sz by_:Nat) (z:Value) (zc:List PV),T s=some si->T t=some ⟨.int,sz,by_,z,zc⟩->a.eval x = .int k' n->Sound P C E σ a w o (R.of (.pv (.int (IntKind.i64.wrap n)))):=by
  intro si k' n sz by_ z zc es et ev;obtain⟨d,hsd,_⟩:=(hT s _ es).desc;obtain⟨d',hd',hk⟩:=(hT t _ et).desc;simp only [IB] at hk;subst hk;refine Sound.pure h (v:=.int .i64 (IntKind.i64.wrap n)) (.inl ?_) (by simp only [RepV,RepP]) (by simp [V.names]) hd trivial;simp [execOp,ho,ev,convert,run_underlying hsd,run_underlying hd',Conv.intToInt]
 split at hs
 ·rename_i si k sz by_ z zc k' n es et e;cases hs;rw [e] at hx;simp only [RepV,RepP] at hx;exact key si k k' n _ _ _ _ es et hx.1
 ·rename_i si k sz by_ z zc n es et e;cases hs;rw [e] at hx;simp only [RepV,RepP] at hx;exact key si k .i64 n _ _ _ _ es et hx
 ·rename_i si sz by_ z zc k' n es et e;cases hs;rw [e] at hx;simp only [RepV,RepP] at hx;exact key2 si k' n _ _ _ _ es et hx.1
 ·rename_i si sz by_ z zc n es et e;cases hs;rw [e] at hx;simp only [RepV,RepP] at hx;exact key2 si .i64 n _ _ _ _ es et hx
 ·rename_i e s1 s2 s3 s4 u1 u2 u3 u4 ts es et ex;split at hs
  ·rename_i v1 v2 v3 v4 b0 l0 ee el;cases hs;rw [ex] at hx;obtain⟨d1,hd1,hk1⟩:=(hT s _ es).desc;obtain⟨d2,hd2,hk2⟩:=(hT t _ et).desc;obtain⟨d3,hd3,hk3⟩:=(hT e _ ee).desc;simp only [IB] at hk1 hk2 hk3;subst hk1 hk2;obtain⟨rfl,_⟩:=hk3;obtain⟨q1,q2,q3⟩:=eZ el;have hne:vA ts≠[]:=by
    intro h0;have:=congrArg List.length h0;simp [vA] at this;simp [this] at q1
   rcases lO (y:=.pv (.slice ts)) (ys:=vA ts) rfl hx with ⟨e0,_⟩|⟨b',off',c',hvv,hsr⟩
   ·exact absurd e0 hne
   obtain⟨news,_,hnr,hncell⟩:=gO h hsr (λ e he=>by obtain⟨y,hy,rfl⟩:=List.mem_map.1 he;simpa [oA] using q2 y hy) hne Nat.zero_lt_one;have hr:=run_convert_bytes_back (P:=P) w s t e ⟨b',off',none⟩ c' ((b0::l0).map UInt8.ofNat) hd1 hd3 hd2 λ j hj=>by
    have hj':j<(b0::l0).length:=by simpa using hj
    rw [hncell j _ (iZ el (RepVE.toPv (gJ ts) hnr) j _ (List.getElem?_eq_getElem hj'))];rw [List.getElem_map];have:=q3 _ (List.getElem_mem hj');simp [Nat.mod_eq_of_lt this]
   rw [List.length_map,q1,show ts.length=(vA ts).length by simp [vA]] at hr;refine Sound.pure h (v:=.string ⟨((b0::l0).map UInt8.ofNat).toArray⟩) (.inl ?_) (by simp only [RepV,RepP];exact⟨trivial,q3⟩) (by simp [V.names]) hd trivial;simp only [execOp,ho,hvv,Sem.run_bind,hr,Result.andThen_ok];rfl
  ·cases hs
 ·cases hs
end
section
variable {P:Program} {C:Ctx} {E:Env} {σ:St} {a:Act} {w:World} {gl:Nat->Option (List PV)} {o:Oper} {T:Nat->Option TI} {note:FC}
theorem Wi (hT:xB P T) (hg:GOK gl C.E0.H) (h:Ga C E σ a w) (hd:∀ d,o.dst=some d->d<C.nt) {r:R}
  (hs:gA T note (σ.val gl) (zA σ.objs) o.dst o.op=some r) (hc:r.cond) (hn:∀ n x,r.wr=some (n,x)->r.new=true->n ∉ σ.used):Sound P C E σ a w o r:=by
 generalize hop:o.op=op at hs;have hmove:∀ x,(op = .move x\/op = .assign x)->gA T note (σ.val gl) (zA σ.objs) o.dst op=some r->Sound P C E σ a w o r:=by
  intro x hx hs;have hs':mJ note (σ.val gl) x=some r:=by
   rcases hx with rfl|rfl<;>simpa only [gA] using hs
  unfold mJ at hs';split at hs'
  ·cases hs';exact Bi h hd (hn _ _ rfl rfl) (by rcases hx with rfl|rfl<;>simp [hop])
  ·cases hs';exact Nh h hg hd (by rcases hx with rfl|rfl<;>simp [hop])
 cases op with
 | move x=>exact hmove x (.inl rfl) hs
 | assign x=>exact hmove x (.inr rfl) hs
 | pick c x y=>exact Oh h hg hd hop hs
 | alloc t=>exact ni h hd hT hop hs hn
 | box t x=>exact pi h hg hd hop hs hn
 | build t parts=>exact ri h hg hd hT hop hs
 | buildSlice t len parts=>exact Ai h hg hd hT hop hc hs hn
 | load t x=>exact wi h hg hd hT hop hc hs
 | store t x y=>exact ii h hg hT hop hc hs
 | nilCheck x=>exact Sh h hg hd hop hs
 | convert s t x=>exact Vi h hg hd hT hop hc hs
 | binOp b t x y t'=>exact Yh h hg hd hT hop hc hs
 | unOp u t x =>
  cases u
  case not=>exact Ph h hg hd hop hs
  all_goals cases hs
 | makeInterface t x=>exact Qh h hg hd hop hT hs
 | fieldAddr t x f=>exact Zh h hg hd hT hop hs
 | field t x f=>exact ji h hg hd hT hop hs
 | indexAddr t x i=>exact vi h hg hd hT hop hc hs
 | extract x i=>exact qi h hg hd hop hs
 | slice t x lo hi mx=>exact fi h hg hd hT hop hc hs
 | typeAssert x t0 t b=>exact Rh h hg hd hT hop hs
 | makeFunc fn first caps =>
  cases fn with
  | func f=>exact Li h hg hd hop hs
  | _=>cases hs
 | makeMap t r0 =>
  cases r0 with
  | none=>exact Mi h hd hop hc hs hn
  | some _=>cases hs
 | mapUpdate t m k v=>exact Qi h hg hT hop hc hs
 | lookup t m k ok=>exact Si h hg hd hT hop hc hs
 | insert t m k v=>exact Ri h hg hT hop hc hs
 | index t x i=>exact li h hg hd hT hop hc hs
 | range t x=>exact Ti h hg hd hT hop hs hn
 | next x b =>
  cases b with
  | true=>exact Ui h hg hd hop hc hs
  | false=>cases hs
 | call c =>
  obtain⟨callee,args,argTypes⟩:=c
  cases callee with
  | builtin b =>
   cases b
   case len=>exact yi h hg hd hT hop hc hs
   case append=>exact Ji h hg hd hT hop hc hs hn
   case max=>exact Ki h hg hd hop hs
   all_goals cases hs
  | value f=>cases hs
  | invoke r m=>cases hs
 | _=>cases hs
end
def yA (l:List (Nat × Ob)):List Nat:=l.map (·.1)
theorem RC {l:List (Nat × Ob)} {n:Nat} {o:Ob} (h:zA l n=some o):n∈yA l:=by
 induction l with
 | nil=>simp [zA] at h
 | cons p r ih =>
  obtain⟨k,x⟩:=p;simp only [zA] at h;split at h
  ·rename_i e;subst e;simp [yA]
  ·have:=ih h;simp only [yA,List.map_cons,List.mem_cons] at this ⊢;exact .inr this
theorem wH {l:List (Nat × Ob)} {n:Nat} (h:n∈yA l):∃ o,zA l n=some o:=by
 induction l with
 | nil=>simp [yA] at h
 | cons p r ih =>
  obtain⟨k,x⟩:=p;by_cases e:k=n
  ·exact⟨x,by simp [zA,e]⟩
  ·simp only [yA,List.map_cons,List.mem_cons] at h;rcases h with h|h
   ·exact absurd h.symm e
   ·obtain⟨o,ho⟩:=ih h;exact⟨o,by simp [zA,e,ho]⟩
def IC:List (Nat × Ob)->List (Nat × Ob)->Prop
 | [],_=>True
 | (n,o)::r,l=>zA l n=some o/\IC r l
theorem nO:∀ {objs l:List (Nat × Ob)},IC objs l->∀ n o,zA objs n=some o->zA l n=some o
 | [],_,_,n,o,h=>by simp [zA] at h
 | (k,x)::r,l,hs,n,o,h=>by
  simp only [IC] at hs;simp only [zA] at h;split at h
  ·rename_i e;cases h;subst e;exact hs.1
  ·exact nO hs.2 n o h
def pC:List (Nat × Ob)->List Nat
 | []=>[]
 | (_,o)::r=>o.names++pC r
def YD (args:List V) (objs:List (Nat × Ob)):List Nat:=GA args++pC objs
theorem Xi {objs l:List (Nat × Ob)} {n:Nat} (hs:IC objs l) (h:n∈pC objs):∃ m o,zA l m=some o/\n∈o.names:=by
 induction objs with
 | nil=>simp [pC] at h
 | cons p r ih =>
  obtain⟨k,x⟩:=p;simp only [IC] at hs;simp only [pC,List.mem_append] at h;rcases h with h|h
  ·exact⟨k,x,hs.1,h⟩
  ·exact ih hs.2 h
theorem oZ {objs l l':List (Nat × Ob)} (h:∀ n∈yA objs,zA l n=zA l' n) (hs:IC objs l):IC objs l':=by
 induction objs with
 | nil=>trivial
 | cons p r ih =>
  obtain⟨k,x⟩:=p;simp only [IC] at hs ⊢;refine⟨?_,ih (λ n hn=>h n (by simp only [yA,List.map_cons,List.mem_cons];exact .inr hn)) hs.2⟩;rw [<- h k (by simp [yA])];exact hs.1
inductive Out where
 | ret (x:V)
 | panic (p:PV)
def Out.names:Out->List Nat
 | .ret x=>x.names
 | .panic _=>[]
def LU (E:Env):Out->Ending->Prop
 | .ret x,e => ∃ v,e = .returned v/\RepV E x v
 | .panic p,e => ∃ v,e = .panicked [{ v,recovered:=false }]/\RepP E.H p v
structure pO (gl:Nat->Option (List PV)) (E:Env) (w:World) (objs:List (Nat × Ob)):Prop where
 heap:HeapOK E w
 glob:GOK gl E.H
 obs:∀ n o,zA objs n=some o->ObOK E w n o
 apart:∀ n m o o',zA objs n=some o->zA objs m=some o'->n≠m->∀ b,xA (E.g n)=some b->xA (E.g m)≠some b
structure iM (E:Env) (w:World) (objs:List (Nat × Ob)) (E':Env) (w':World) (objs':List (Nat × Ob)):Prop where
 heap:HeapOK E' w'
 obs:∀ n o,zA objs' n=some o->ObOK E' w' n o
 apart:∀ n m o o',zA objs' n=some o->zA objs' m=some o'->n≠m->∀ b,xA (E'.g n)=some b->xA (E'.g m)≠some b
 hle:Hle E.H E'.H
 size:w.heap.size<=w'.heap.size
 rest:w'.os=w.os/\w'.tape=w.tape/\w'.output=w.output
 same:∀ b,b<w.heap.size->(∀ n o,zA objs n=some o->xA (E.g n)≠some b)->(nf (E.H b)->w'.heap[b]? = w.heap[b]?)/\E'.H b=E.H b
 own:∀ n o b,zA objs' n=some o->xA (E'.g n)=some b->w.heap.size<=b \/ ∃ m o',zA objs m=some o'/\xA (E.g m)=some b
 ext:∀ n o,zA objs n=some o->EExt E E' n
 other:∀ n,zA objs n=none->zA objs' n=none->E'.g n=E.g n/\E'.ver n=E.ver n/\E'.sz n=E.sz n
def xZ (P : Program) (f : Nat) : Prop := ∃ fn, P.funcs[f]? = some fn /\ (fn.name == "runtime.NumGoroutine") = false /\ fn.body.isNone = false
structure AC (P:Program) (gl:Nat->Option (List PV)) (f:Nat) (args:List V) (objs:List (Nat × Ob)) (out:Out) (objs':List (Nat × Ob)):Prop where
 direct:xZ P f
 names:∀ n∈out.names,n∈yA objs\/n∈yA objs'\/n∈YD args objs
 namesO:∀ m o,zA objs' m=some o->∀ n∈o.names,n∈yA objs\/n∈yA objs'\/n∈YD args objs
 calls:∀ (E:Env) (w:World) (vs:List Value),pO gl E w objs->vs.length=args.length->RepVL E args vs ->
  Calls P f vs.toArray w λ e w' => ∃ E',iM E w objs E' w' objs'/\LU E' out e
structure Eff where
 x:V
 wr:List (Nat × Option Ob)
 nw:List Nat
 rd:List Nat
def MU (l:List (Nat × Ob)) (n:Nat):Option Ob->List (Nat × Ob)
 | some o=>kB l n o
 | none=>XE l n
def CF (l:List (Nat × Ob)):List (Nat × Option Ob)->List (Nat × Ob)
 | []=>l
 | (n,o)::r=>CF (MU l n o) r
def St.eff (σ:St) (dst:Option Nat) (e:Eff):St:=⟨iC dst e.x σ.slots,CF σ.objs e.wr,e.nw++σ.used⟩
theorem Yi (l:List (Nat × Ob)) (k n:Nat) (o:Option Ob):zA (MU l k o) n=if n=k then o else zA l n:=by
 cases o with
 | none=>exact qO l k n
 | some o=>exact QC l k n o
def gC:List (Nat × Option Ob)->Nat->Option (Option Ob)
 | [],_=>none
 | (k,o)::r,n=>match gC r n with
  | some x=>some x
  | none=>if k=n then some o else none
theorem pJ:∀ (wr:List (Nat × Option Ob)) (l:List (Nat × Ob)) (n:Nat),zA (CF l wr) n=match gC wr n with|some o=>o|none=>zA l n
 | [],l,n=>rfl
 | (k,o)::r,l,n=>by
  simp only [CF,gC];rw [pJ r]
  cases gC r n with
  | some x=>rfl
  | none =>
   simp only;rw [Yi];by_cases e:k=n
   ·subst e;simp
   ·have:¬ n=k:=λ h=>e h.symm
    simp [e,this]
def kH (objs objs':List (Nat × Ob)):List (Nat × Option Ob) :=
 ((yA objs).filter (λ n=>(zA objs' n).isNone)).map (λ n=>(n,none))++objs'.reverse.map (λ p=>(p.1,some p.2))
def KD (x:V) (objs objs':List (Nat × Ob)):Eff :=
 ⟨x,kH objs objs',(yA objs').filter (λ n=>(zA objs n).isNone),yA objs⟩
def bL (x:V) (ro objs objs':List (Nat × Ob)):Eff :=
 ⟨x,kH objs objs',(yA objs').filter (λ n=>(zA objs n).isNone),yA ro++yA objs⟩
theorem AZ (a b:List (Nat × Option Ob)) (n:Nat):gC (a++b) n=match gC b n with|some x=>some x|none=>gC a n:=by
 induction a with
 | nil=>simp [gC];cases gC b n<;>rfl
 | cons p r ih =>
  obtain⟨k,o⟩:=p;simp only [List.cons_append,gC,ih];cases gC b n<;>rfl
theorem Zi (l:List (Nat × Ob)) (n:Nat):gC (l.reverse.map (λ p=>(p.1,some p.2))) n=(zA l n).map some:=by
 induction l with
 | nil=>rfl
 | cons p r ih =>
  obtain⟨k,o⟩:=p;simp only [List.reverse_cons,List.map_append,List.map_cons,List.map_nil,AZ,gC,zA,ih];by_cases e:k=n
  ·simp [e]
  ·simp [e]
theorem qj (l:List Nat) (n:Nat):gC (l.map (λ n=>(n,none))) n=if n∈l then some none else none:=by
 induction l with
 | nil=>simp [gC]
 | cons k r ih =>
  simp only [List.map_cons,gC,ih];by_cases h:n∈r
  ·simp [h]
  ·by_cases e:k=n
   ·simp [e,h]
   ·have:¬ n=k:=λ h=>e h.symm
    simp [h,e,this]
theorem rJ (l objs objs':List (Nat × Ob)) (n:Nat):zA (CF l (kH objs objs')) n =
  match zA objs' n with|some o=>some o|none=>if n∈yA objs then none else zA l n:=by
 rw [pJ,kH,AZ,Zi,qj]
 cases h:zA objs' n with
 | some o=>simp
 | none =>
  by_cases hm:n∈yA objs
  ·simp [hm,h]
  ·simp [hm]
section
variable {P:Program} {C:Ctx} {E:Env} {σ:St} {a:Act} {w:World} {gl:Nat->Option (List PV)}
theorem Ga.called (h:Ga C E σ a w) {E':Env} {w':World} {objs objs':List (Nat × Ob)} (hD:iM E w objs E' w' objs') (hsub:∀ n o,zA objs n=some o->zA σ.objs n=some o)
  (hfresh:∀ n,n∈yA objs'->n∈yA objs\/n ∉ σ.used) {ment:List Nat} (hment:∀ n∈ment,n∈σ.used) (hno:∀ m o,zA objs' m=some o->∀ n∈o.names,n∈yA objs\/n∈yA objs'\/n∈ment)
  {dst:Option Nat} {x:V} {v:Value} (hx:RepV E' x v) (hxn:∀ n∈x.names,n∈yA objs\/n∈yA objs'\/n∈ment) (hd:∀ d,dst=some d->d<C.nt) :
  Ga C E' (σ.eff dst (KD x objs objs')) (a.put dst v) w':=by
 have hkey:∀ n∈yA objs,n∈σ.used:=λ n hn=>by
  obtain⟨o,ho⟩:=wH hn;exact (h.usedO n o (hsub n o ho)).1
 have hused':∀ n,n∈yA objs\/n∈yA objs'\/n∈ment->n∈(KD x objs objs').nw++σ.used:=by
  intro n hn;rw [List.mem_append];by_cases hk:n∈yA objs
  ·exact .inr (hkey n hk)
  ·rcases hn with hn|hn|hn
   ·exact absurd hn hk
   rotate_left
   ·exact .inr (hment n hn)
   ·left;simp only [KD,List.mem_filter];refine⟨hn,?_⟩
    cases e:zA objs n with
    | none=>rfl
    | some o=>exact absurd (RC e) hk
 have hee:∀ n∈σ.used,EExt E E' n:=by
  intro n hn;by_cases hk:n∈yA objs
  ·obtain⟨o,ho⟩:=wH hk;exact hD.ext n o ho
  ·have h1:zA objs n=none:=by
    cases e:zA objs n with
    | none=>rfl
    | some o=>exact absurd (RC e) hk
   have h2:zA objs' n=none:=by
    cases e:zA objs' n with
    | none=>rfl
    | some o =>
     rcases hfresh n (RC e) with hf|hf
     ·exact absurd hf hk
     ·exact absurd hn hf
   obtain⟨e1,e2,e3⟩:=hD.other n h1 h2;exact EExt.of_eq e1 e2 e3
 have hold:∀ t,RepV E' (JA σ.slots t) (a.tmps.getD t undef):=λ t =>
  RepV.mono hD.hle _ _ (λ n hn=>hee n (h.usedS t n hn)) (h.slots t)
 have hkeep:∀ n o,zA σ.objs n=some o->n ∉ yA objs->zA objs' n=none/\E'.g n=E.g n/\E'.ver n=E.ver n/\E'.sz n=E.sz n/\(∀ b,xA (E.g n)=some b->w'.heap[b]? = w.heap[b]? /\ E'.H b=E.H b):=by
  intro n o hn hk;have h1:zA objs n=none:=by
   cases e:zA objs n with
   | none=>rfl
   | some o=>exact absurd (RC e) hk
  have h2:zA objs' n=none:=by
   cases e:zA objs' n with
   | none=>rfl
   | some o' =>
    rcases hfresh n (RC e) with hf|hf
    ·exact absurd hf hk
    ·exact absurd (h.usedO n o hn).1 hf
  obtain⟨e1,e2,e3⟩:=hD.other n h1 h2;refine⟨h2,e1,e2,e3,λ b hb => ?_⟩;have hh:=hD.same b ((h.objs n o hn).blk_lt hb) (by
   intro m o' hm hb';refine h.apart n m o o' hn (hsub m o' hm) ?_ b hb hb';intro e;subst e;exact hk (RC hm))
  exact⟨hh.1 ((h.objs n o hn).nf hb),hh.2⟩
 constructor
 ·intro t
  cases dst with
  | none=>exact hold t
  | some d =>
   simp only [St.eff,iC,JA,Act.put];by_cases e:d=t
   ·subst e;have hlt:d<a.tmps.size:=by rw [h.size];exact hd d rfl
    simp [hlt,KD,hx]
   ·simp only [e,if_false];have:=hold t;simpa [Array.getD_eq_getD_getElem?,Array.getElem?_setIfInBounds_ne e] using this
 ·cases dst<;>simp [Act.put,h.size]
 ·refine⟨?_,λ n hn=>List.mem_append.2 (.inr (h.defers.2 n hn))⟩;have:=DefOK.mono hD.hle _ _ (λ n hn=>hee n (h.defers.2 n hn)) h.defers.1;cases dst<;>simpa [Act.put] using this
 ·exact hD.heap
 ·intro n o hn;simp only [St.eff,KD,rJ] at hn;split at hn
  ·rename_i o' e;cases hn;exact hD.obs n _ e
  ·split at hn
   ·cases hn
   ·rename_i hk;obtain⟨_,e1,e2,e3,e4⟩:=hkeep n o hn hk;exact (h.objs n o hn).mono hD.hle e1 e2 e3 (λ m hm=>hee m ((h.usedO n o hn).2 m hm)) e4
 ·have key:∀ n o m o',zA objs' n=some o->zA σ.objs m=some o'->m ∉ yA objs->∀ b,xA (E'.g n)=some b->xA (E'.g m)≠some b:=by
   intro n o m o' hn hm hk b hb hb';obtain⟨_,e1,_,_,_⟩:=hkeep m o' hm hk;rw [e1] at hb';rcases hD.own n o b hn hb with hge|⟨q,oq,hq,XA⟩
   ·have:=(h.objs m o' hm).blk_lt hb';omega
   ·refine h.apart m q o' oq hm (hsub q oq hq) ?_ b hb' XA;intro e;subst e;exact hk (RC hq)
  intro n m o o' hn hm hne b hb hb';simp only [St.eff,KD,rJ] at hn hm;split at hn
  ·rename_i on en;cases hn;split at hm
   ·rename_i om em;cases hm;exact hD.apart n m _ _ en em hne b hb hb'
   ·split at hm
    ·cases hm
    ·rename_i hk;exact key n _ m o' en hm hk b hb hb'
  ·split at hn
   ·cases hn
   ·rename_i hkn;split at hm
    ·rename_i om em;cases hm;exact key m _ n o em hn hkn b hb' hb
    ·split at hm
     ·cases hm
     ·rename_i hkm;rw [(hkeep n o hn hkn).2.1] at hb;rw [(hkeep m o' hm hkm).2.1] at hb';exact h.apart n m o o' hn hm hne b hb hb'
 ·intro t n hn
  cases dst with
  | none=>exact List.mem_append.2 (.inr (h.usedS t n hn))
  | some d =>
   simp only [St.eff,iC,JA] at hn;split at hn
   ·exact hused' n (hxn n hn)
   ·exact List.mem_append.2 (.inr (h.usedS t n hn))
 ·intro n o hn;simp only [St.eff,KD,rJ] at hn;split at hn
  ·rename_i o' e;cases hn;exact⟨hused' n (.inr (.inl (RC e))),λ m hm=>hused' m (hno n _ e m hm)⟩
  ·split at hn
   ·cases hn
   ·exact⟨List.mem_append.2 (.inr (h.usedO n o hn).1),λ m hm=>List.mem_append.2 (.inr ((h.usedO n o hn).2 m hm))⟩
 ·exact λ n o hn=>List.mem_append.2 (.inr (h.usedG n o hn))
 ·exact Nat.le_trans h.grown hD.size
 ·exact⟨hD.rest.1.trans h.rest.1,hD.rest.2.1.trans h.rest.2.1,hD.rest.2.2.trans h.rest.2.2⟩
 ·intro b hb hF;obtain⟨h1,h2⟩:=h.same b hb hF;obtain⟨h3,h4⟩:=hD.same b (Nat.lt_of_lt_of_le hb h.grown) (λ n o hn e=>hF (h.own n o b (hsub n o hn) e hb));exact⟨λ hn=>(h3 (by rw [h2];exact hn)).trans (h1 hn),h4.trans h2⟩
 ·exact h.hle.trans hD.hle
 ·intro n o b hn hb hlt;simp only [St.eff,KD,rJ] at hn;split at hn
  ·rename_i o' e;cases hn;rcases hD.own n _ b e hb with hge|⟨m,om,hm,hbm⟩
   ·have:=h.grown;omega
   ·exact h.own m om b (hsub m om hm) hbm hlt
  ·split at hn
   ·cases hn
   ·rename_i hk;rw [(hkeep n o hn hk).2.1] at hb;exact h.own n o b hn hb hlt
 ·intro n o hn;exact (h.ext n o hn).trans (hee n (h.usedG n o hn))
 ·intro n hn;obtain⟨k1,k2,k3,k4,k5⟩:=h.keep n hn;have hk:n ∉ yA objs:=by
   intro hk;obtain⟨o,ho⟩:=wH hk;rw [hsub n o ho] at k2;cases k2
  have h1:zA objs n=none:=by
   cases e:zA objs n with
   | none=>rfl
   | some o=>exact absurd (RC e) hk
  have h2:zA objs' n=none:=by
   cases e:zA objs' n with
   | none=>rfl
   | some o =>
    rcases hfresh n (RC e) with hf|hf
    ·exact absurd hf hk
    ·exact absurd k1 hf
  obtain⟨e1,e2,e3⟩:=hD.other n h1 h2;refine⟨List.mem_append.2 (.inr k1),?_,e1.trans k3,e2.trans k4,e3.trans k5⟩;simp only [St.eff,KD,rJ,h2,hk,if_false];exact k2
end
def NU:Op->Bool
 | .load _ _=>true
 | .store _ _ _=>true
 | .indexAddr _ _ _=>true
 | .slice _ _ _ _ _=>true
 | .call _=>true
 | .mapUpdate _ _ _ _=>true
 | .lookup _ _ _ _=>true
 | .insert _ _ _ _=>true
 | .next _ _=>true
 | _=>false
def rdN (val:Operand->V) (op:Op):List Nat:=bif NU op then GA (op.operands.toList.map val) else []
theorem zj {val:Operand->V} {op:Op} {x:Operand} (hl:NU op=true) (hx:x∈op.operands) {n:Nat} (hn:n∈(val x).names):n∈rdN val op:=by
 unfold rdN;rw [hl];exact mem_namesL.2 ⟨val x,List.mem_map_of_mem (by simpa using hx),hn⟩
theorem BZ {s:Bool} {ob ob':Nat->Option Ob} {m k v:V} (h:∀ n∈m.names,ob n=ob' n):wI s ob m k v=wI s ob' m k v:=by
 unfold wI;split
 ·rw [h _ (by simp [V.names])]
 ·rfl
theorem jj {s ok:Bool} {z:PV} {ob ob':Nat->Option Ob} {m k:V} (h:∀ n∈m.names,ob n=ob' n):nJ s ok z ob m k=nJ s ok z ob' m k:=by
 unfold nJ;split
 ·rw [h _ (by simp [V.names])]
 ·rfl
theorem vj {ob ob':Nat->Option Ob} {x:V} (h:∀ n∈x.names,ob n=ob' n):vO ob x=vO ob' x:=by
 unfold vO;split
 ·rw [h _ (by simp [V.names])]
 ·rfl
theorem wj {ti:TI} {ob ob':Nat->Option Ob} {x:V} (h:∀ n∈x.names,ob n=ob' n):jL ti ob x=jL ti ob' x:=by
 unfold jL;split
 ·rfl
 ·rfl
 ·rw [h _ (by simp [V.names])]
 ·rw [h _ (by simp [V.names])]
 ·rfl
theorem kj {ti:TI} {ob ob':Nat->Option Ob} {x y:V} (h:∀ n∈x.names,ob n=ob' n):vL ti ob x y=vL ti ob' x y:=by
 unfold vL;split
 ·rfl
 ·split
  ·rw [h _ (by simp [V.names])]
  ·rfl
  ·rw [h _ (by simp [V.names])]
  ·rfl
theorem yj {T:Nat->Option TI} {ob ob':Nat->Option Ob} {t:Nat} {x i:V} (h:∀ n∈x.names,ob n=ob' n):wL T ob t x i=wL T ob' t x i:=by
 unfold wL;split
 ·split
  ·split
   ·split
    ·rfl
    ·rw [h _ (by simp [V.names])]
    ·rfl
   ·rfl
  ·rfl
  ·rfl
 ·rfl
theorem uj {ob ob':Nat->Option Ob} {x:V} (h:∀ n∈x.names,ob n=ob' n):kL ob x=kL ob' x:=by
 unfold kL;split
 ·rfl
 ·rfl
 ·rfl
 ·rw [h _ (by simp [V.names])]
 ·rfl
theorem bj {e:Nat} {te:TI} {ob ob':Nat->Option Ob} {note:FC} {xo:Operand} {x y:V} (h:∀ n∈x.names,ob n=ob' n):eG e te ob note xo x y=eG e te ob' note xo x y:=by
 unfold eG;split
 ·rw [h _ (by simp [V.names])]
 ·rw [h _ (by simp [V.names])]
 ·rfl
 ·rfl
 ·rfl
theorem dj {te:TI} {ob ob':Nat->Option Ob} {x:V} {lo hi mx:Option V} (h:∀ n∈x.names,ob n=ob' n):yL te ob x lo hi mx=yL te ob' x lo hi mx:=by
 unfold yL;split
 ·rfl
 ·rfl
 ·rw [h _ (by simp [V.names])]
 ·rfl
 ·rfl
 ·rfl
theorem fj {T:Nat->Option TI} {note:FC} {val val':Operand->V} {ob ob':Nat->Option Ob} {dst:Option Nat} {op:Op} (hv:∀ x∈op.operands,val x=val' x) (ho:∀ n∈rdN val op,ob n=ob' n) :
  gA T note val ob dst op=gA T note val' ob' dst op:=by
 have hn:NU op=true->∀ x∈op.operands,∀ n∈(val x).names,ob n=ob' n:=λ hl x hx n hn=>ho n (zj hl hx hn)
 cases op with
 | move x=>simp only [gA,mJ];rw [hv x (by simp [Op.operands])]
 | assign x=>simp only [gA,mJ];rw [hv x (by simp [Op.operands])]
 | pick c x y=>simp only [gA];rw [hv c (by simp [Op.operands]),hv x (by simp [Op.operands]),hv y (by simp [Op.operands])]
 | alloc t=>simp only [gA]
 | box t x=>simp only [gA];rw [hv x (by simp [Op.operands])]
 | build t parts =>
  simp only [gA];have:(parts.toList.map λ p=>(p.1,val p.2))=(parts.toList.map λ p=>(p.1,val' p.2)):=List.map_congr_left λ p hp=>by
   rw [hv p.2 (by simp only [Op.operands,List.mem_toArray,List.mem_map];exact⟨p,hp,rfl⟩)]
  rw [this]
 | buildSlice t len parts =>
  simp only [gA];have:(parts.toList.map λ p=>(p.1,val p.2))=(parts.toList.map λ p=>(p.1,val' p.2)):=List.map_congr_left λ p hp=>by
   rw [hv p.2 (by simp only [Op.operands,List.mem_toArray,List.mem_map];exact⟨p,hp,rfl⟩)]
  rw [this]
 | typeAssert x t0 t b =>
  have h1:=hv x (by simp [Op.operands]);simp only [gA,<- h1]
 | makeFunc fn first caps =>
  cases fn with
  | func f =>
   simp only [gA];have:caps.toList.map val=caps.toList.map val':=List.map_congr_left λ x hx=>hv x (by simp only [Op.operands,Array.mem_append];right;simpa using hx)
   have this2:first.toList.map val=first.toList.map val':=List.map_congr_left λ x hx=>hv x (by simp only [Op.operands,Array.mem_append];left;simpa using hx)
   rw [this,this2]
  | _=>simp only [gA]
 | lookup t m k ok =>
  have h1:=hv m (by simp [Op.operands]);have h2:=hv k (by simp [Op.operands]);simp only [gA,<- h1,<- h2];split
  ·split
   ·split
    ·exact jj (hn rfl m (by simp [Op.operands]))
    ·rfl
   ·rfl
  ·rfl
 | range t x =>
  have h1:=hv x (by simp [Op.operands]);simp only [gA,<- h1]
 | next x b =>
  cases b with
  | false=>simp only [gA]
  | true =>
   have h1:=hv x (by simp [Op.operands]);simp only [gA,<- h1];unfold aM;split
   ·rename_i n e;rw [hn rfl x (by simp [Op.operands]) n (by rw [e];simp [V.names])]
   ·rfl
 | index t x i =>
  have h1:=hv x (by simp [Op.operands]);have h2:=hv i (by simp [Op.operands]);simp only [gA,<- h1,<- h2]
 | insert t m k v =>
  have h1:=hv m (by simp [Op.operands]);have h2:=hv k (by simp [Op.operands]);have h3:=hv v (by simp [Op.operands]);simp only [gA,<- h1,<- h2,<- h3];split
  ·exact BZ (hn rfl m (by simp [Op.operands]))
  ·rfl
 | makeMap t r =>
  cases r with
  | none=>simp only [gA]
  | some _=>simp only [gA]
 | mapUpdate t m k v =>
  have h1:=hv m (by simp [Op.operands]);have h2:=hv k (by simp [Op.operands]);have h3:=hv v (by simp [Op.operands]);simp only [gA,<- h1,<- h2,<- h3];split
  ·exact BZ (hn rfl m (by simp [Op.operands]))
  ·rfl
 | load t x =>
  have h1:=hv x (by simp [Op.operands]);simp only [gA,<- h1];split
  ·exact wj (hn rfl x (by simp [Op.operands]))
  ·rfl
 | store t x y =>
  have h1:=hv x (by simp [Op.operands]);have h2:=hv y (by simp [Op.operands]);simp only [gA,<- h1,<- h2];split
  ·exact kj (hn rfl x (by simp [Op.operands]))
  ·rfl
 | nilCheck x=>simp only [gA];rw [hv x (by simp [Op.operands])]
 | convert s t x=>simp only [gA];rw [hv x (by simp [Op.operands])]
 | binOp b t x y t'=>simp only [gA];rw [hv x (by simp [Op.operands]),hv y (by simp [Op.operands])]
 | unOp u t x =>
  cases u
  case not=>simp only [gA];rw [hv x (by simp [Op.operands])]
  all_goals simp only [gA]
 | makeInterface t x=>simp only [gA];rw [hv x (by simp [Op.operands])]
 | fieldAddr t x f=>simp only [gA];rw [hv x (by simp [Op.operands])]
 | field t x f=>simp only [gA];rw [hv x (by simp [Op.operands])]
 | indexAddr t x i =>
  have h1:=hv x (by simp [Op.operands]);have h2:=hv i (by simp [Op.operands]);simp only [gA,<- h1,<- h2];exact yj (hn rfl x (by simp [Op.operands]))
 | extract x i=>simp only [gA];rw [hv x (by simp [Op.operands])]
 | slice t x lo hi mx =>
  have h1:=hv x (by simp [Op.operands]);have hl:lo.map val=lo.map val':=by
   cases lo with
   | none=>rfl
   | some y=>simp [hv y (by simp [Op.operands])]
  have hh:hi.map val=hi.map val':=by
   cases hi with
   | none=>rfl
   | some y=>simp [hv y (by simp [Op.operands])]
  have hm:mx.map val=mx.map val':=by
   cases mx with
   | none=>rfl
   | some y=>simp [hv y (by simp [Op.operands])]
  simp only [gA,<- h1,<- hl,<- hh,<- hm];split
  ·split
   ·exact dj (hn rfl x (by simp [Op.operands]))
   ·rfl
  ·rfl
  ·rfl
 | call c =>
  obtain⟨callee,args,argTypes⟩:=c
  cases callee with
  | builtin b =>
   cases b
   case len =>
    simp only [gA];split
    ·rename_i t x et ex;have hx:x∈(Op.call { callee:=.builtin .len,args,argTypes }).operands:=by
      simp only [Op.operands,Call.operands,Array.mem_append];right;rw [<- Array.mem_toList_iff,ex];simp
     have h1:=hv x hx;simp only [<- h1];split
     ·exact uj (hn rfl x hx)
     ·exact vj (hn rfl x hx)
     ·rfl
     ·rfl
    ·rfl
   case append =>
    simp only [gA];split
    ·rename_i t t' x y et ex;have hx:x∈(Op.call { callee:=.builtin .append,args,argTypes }).operands:=by
      simp only [Op.operands,Call.operands,Array.mem_append];right;rw [<- Array.mem_toList_iff,ex];simp
     have hy:y∈(Op.call { callee:=.builtin .append,args,argTypes }).operands:=by
      simp only [Op.operands,Call.operands,Array.mem_append];right;rw [<- Array.mem_toList_iff,ex];simp
     have h1:=hv x hx;have h2:=hv y hy;simp only [<- h1,<- h2];split
     ·split
      ·split
       ·exact bj (hn rfl x hx)
       ·rfl
      ·rfl
     ·rfl
    ·rfl
   case max =>
    simp only [gA];split
    ·rename_i x y ex;have hx:x∈(Op.call { callee:=.builtin .max,args,argTypes }).operands:=by
      simp only [Op.operands,Call.operands,Array.mem_append];right;rw [<- Array.mem_toList_iff,ex];simp
     have hy:y∈(Op.call { callee:=.builtin .max,args,argTypes }).operands:=by
      simp only [Op.operands,Call.operands,Array.mem_append];right;rw [<- Array.mem_toList_iff,ex];simp
     rw [hv x hx,hv y hy]
    ·rfl
   all_goals simp only [gA]
  | value f=>simp only [gA]
  | invoke r m=>simp only [gA]
 | _=>simp only [gA]
def oG (val:Operand->V):Op->Option (Nat × List V)
 | .call { callee:=.value f,args,.. } => match val f with
  | .fn g caps=>some (g,args.toList.map val++caps)
  | .bfn g bs=>some (g,bs++args.toList.map val)
  | .pv (.fnc g)=>some (g,args.toList.map val)
  | _=>none
 | _=>none
theorem CZ {val val':Operand->V} {op:Op} (hv:∀ x∈op.operands,val x=val' x):oG val op=oG val' op:=by
 unfold oG;split
 ·rename_i f args at';rw [hv f (by simp [Op.operands,Call.operands])];have:args.toList.map val=args.toList.map val':=List.map_congr_left λ x hx=>hv x (by simp only [Op.operands,Call.operands,Array.mem_append];right;simpa using hx)
  rw [this]
 ·rfl
structure NA where
 P:Program
 T:Nat->Option TI
 gl:Nat->Option (List PV)
 nm:List (Nat × FC)
 nt:Nat
 given:List Nat
 ok:xB P T
 mix:P.follows .mixedOrders=true
def R.eff (r:R) (rd:List Nat):Eff :=
 ⟨r.out,match r.wr with|some (n,o)=>[(n,some o)]|none=>[],match r.wr,r.new with|some (n,_),true=>[n]|_,_=>[],rd⟩
theorem gj (σ:St) (dst:Option Nat) (r:R) (rd:List Nat):σ.app dst r=σ.eff dst (r.eff rd):=by
 obtain⟨c,f,x,wr,nw⟩:=r
 cases wr with
 | none=>rfl
 | some p =>
  obtain⟨n,o⟩:=p;cases nw<;>rfl
def oM (x y:V):Prop:=(∀ E v,RepV E x v->RepV E y v) /\ ∀ n∈y.names,n∈x.names
inductive OpW (X:NA) (o:Oper) (σ:St):Eff->Prop where
 | step (note:FC) (r:R) (hs:gA X.T note (σ.val X.gl) (zA σ.objs) o.dst o.op=some r) (hc:r.cond) (hn:∀ n∈(r.eff []).nw,n ∉ σ.used):OpW X o σ (r.eff (rdN (σ.val X.gl) o.op))
 | call (f:Nat) (args:List V) (objs:List (Nat × Ob)) (x:V) (objs':List (Nat × Ob)) (hf:oG (σ.val X.gl) o.op=some (f,args)) (hac:AC X.P X.gl f args objs (.ret x) objs')
   (hsub:IC objs σ.objs) (hn:∀ n∈(KD x objs objs').nw,n ∉ σ.used):OpW X o σ (KD x objs objs')
 | callR (f:Nat) (args:List V) (ro objs:List (Nat × Ob)) (x:V) (objs':List (Nat × Ob)) (hf:oG (σ.val X.gl) o.op=some (f,args)) (hac:AC X.P X.gl f args (ro++objs) (.ret x) (ro++objs'))
   (hro:∀ n∈yA ro,n ∉ yA objs/\n ∉ yA objs') (hsub:IC (ro++objs) σ.objs) (hn:∀ n∈(bL x ro objs objs').nw,n ∉ σ.used):OpW X o σ (bL x ro objs objs')
 | weak {x:V} {wr:List (Nat × Option Ob)} {nw rd:List Nat} (y:V) (h:OpW X o σ ⟨x,wr,nw,rd⟩) (hx:oM x y):OpW X o σ ⟨y,wr,nw,rd⟩
theorem PQ (a b:List (Nat × Ob)) (k:Nat):zA (a++b) k=match zA a k with|some o=>some o|none=>zA b k:=by
 induction a with
 | nil=>rfl
 | cons p r ih =>
  obtain⟨n,o⟩:=p;simp only [List.cons_append,zA,ih];split<;>rfl
theorem Ga.congrO {C:Ctx} {E:Env} {s:List (Nat × V)} {O O':List (Nat × Ob)} {u:List Nat} {a:Act} {w:World} (h:Ga C E ⟨s,O,u⟩ a w) (ho:∀ n,zA O' n=zA O n):Ga C E ⟨s,O',u⟩ a w :=
 ⟨h.slots,h.size,h.defers,h.heap,λ n o hn=>h.objs n o (by rw [<- ho];exact hn),λ n m o o' hn hm=>h.apart n m o o' (by rw [<- ho];exact hn) (by rw [<- ho];exact hm),h.usedS,λ n o hn=>h.usedO n o (by rw [<- ho];exact hn),h.usedG,h.grown,h.rest,h.same,h.hle,
  λ n o b hn=>h.own n o b (by rw [<- ho];exact hn),h.ext,λ n hn=>⟨(h.keep n hn).1,(ho n).trans (h.keep n hn).2.1,(h.keep n hn).2.2⟩⟩
theorem lj {x:V} {ro objs objs':List (Nat × Ob)} (hro:∀ n∈yA ro,n ∉ yA objs/\n ∉ yA objs'):(bL x ro objs objs').nw=(KD x (ro++objs) (ro++objs')).nw:=by
 have hnone:∀ {l:List (Nat × Ob)} {n:Nat},n ∉ yA l->zA l n=none:=by
  intro l n hn
  cases e:zA l n with
  | none=>rfl
  | some o=>exact absurd (RC e) hn
 simp only [bL,KD];have hk:yA (ro++objs')=yA ro++yA objs':=by simp [yA]
 rw [hk,List.filter_append];have h1:(yA ro).filter (λ n=>(zA (ro++objs) n).isNone)=[]:=by
  rw [List.filter_eq_nil_iff];intro n hn;obtain⟨o,ho⟩:=wH hn;rw [PQ,ho];simp
 rw [h1,List.nil_append];refine List.filter_congr ?_;intro n hn;have:n ∉ yA ro:=λ h=>(hro n h).2 hn
 rw [PQ,hnone this]
theorem mj {l:List (Nat × Ob)} {ro objs objs':List (Nat × Ob)} (hro:∀ n∈yA ro,n ∉ yA objs/\n ∉ yA objs') (hsub:IC (ro++objs) l) (n:Nat):zA (CF l (kH objs objs')) n=zA (CF l (kH (ro++objs) (ro++objs'))) n:=by
 have hnone:∀ {l:List (Nat × Ob)} {n:Nat},n ∉ yA l->zA l n=none:=by
  intro l n hn
  cases e:zA l n with
  | none=>rfl
  | some o=>exact absurd (RC e) hn
 rw [rJ,rJ,PQ];have hk:yA (ro++objs)=yA ro++yA objs:=by simp [yA]
 by_cases h:n∈yA ro
 ·obtain⟨o,ho⟩:=wH h;have h1:=hro n h;rw [ho,hnone h1.2];simp only [h1.1,if_false];exact nO hsub n o (by rw [PQ,ho])
 ·rw [hnone h];simp only [hk,List.mem_append,h,false_or]
structure nj (X:NA) (o:Oper) (e:Eff) (σ σ':St):Prop where
 val:∀ x∈o.op.operands,σ.val X.gl x=σ'.val X.gl x
 ob:∀ n∈e.rd,zA σ.objs n=zA σ'.objs n
 new:∀ n∈e.nw,n ∉ σ'.used
theorem OpW.congr {X:NA} {o:Oper} {σ σ':St} {e:Eff} (h:OpW X o σ e) (ha:nj X o e σ σ'):OpW X o σ' e:=by
 induction h with
 | step note r hs hc hn =>
  have hrd:rdN (σ.val X.gl) o.op=rdN (σ'.val X.gl) o.op:=by
   unfold rdN;have:o.op.operands.toList.map (σ.val X.gl)=o.op.operands.toList.map (σ'.val X.gl):=List.map_congr_left λ x hx=>ha.val x (by simpa using hx)
   rw [this]
  have hs':=hs;rw [fj ha.val ha.ob] at hs';rw [hrd];refine .step note r hs' hc ?_;intro n hn';exact ha.new n hn'
 | call f args objs x objs' hf hac hsub hn =>
  refine .call f args objs x objs' (by rw [<- CZ ha.val];exact hf) hac ?_ ha.new;exact oZ (λ n hn'=>ha.ob n hn') hsub
 | callR f args ro objs x objs' hf hac hro hsub hn =>
  refine .callR f args ro objs x objs' (by rw [<- CZ ha.val];exact hf) hac hro ?_ ha.new;refine oZ (λ n hn'=>ha.ob n ?_) hsub;simpa [bL,yA] using hn'
 | weak y h hx ih=>exact .weak y (ih ⟨ha.val,ha.ob,ha.new⟩) hx
theorem pj {P:Program} {E:Env} {a:Act} {w:World} {o:Oper} {gl:Nat->Option (List PV)} {σ:St} {C:Ctx} (h:Ga C E σ a w) (hg:GOK gl C.E0.H) {f:Nat} {args:List V} (hf:oG (σ.val gl) o.op=some (f,args)) (hdir:xZ P f) :
  ∃ vs:List Value,vs.length=args.length/\RepVL E args vs/\(execOp a.eval o).run P w = .ok (.enter f vs.toArray) w /\ ∀ n∈GA args,n∈σ.used:=by
 unfold oG at hf;split at hf
 ·rename_i fo as ats ho;split at hf
  ·rename_i g caps ev;cases hf;have hv:=QA h hg fo;rw [ev] at hv;simp only [RepV] at hv;obtain⟨cs,hv,hcl,hcr⟩:=hv;obtain⟨fn,hfn,hname,hbody⟩:=hdir;have hargs:RepVL E (as.toList.map (σ.val gl)) (as.toList.map a.eval):=by
    have:∀ l:List Operand,RepVL E (l.map (σ.val gl)) (l.map a.eval):=by
     intro l
     induction l with
     | nil=>simp [RepVL]
     | cons x l ih=>simp only [List.map_cons,RepVL];exact⟨QA h hg x,ih⟩
    exact this _
   have hnm:∀ n∈GA (as.toList.map (σ.val gl)++caps),n∈σ.used:=by
    intro n hn;obtain⟨c,hc,hn⟩:=mem_namesL.1 hn;rcases List.mem_append.1 hc with hc|hc
    ·obtain⟨x,_,rfl⟩:=List.mem_map.1 hc;exact fC h x n hn
    ·refine fC (gl:=gl) h fo n ?_;rw [ev];simp only [V.names];exact mem_namesL.2 ⟨c,hc,hn⟩
   refine⟨as.toList.map a.eval++cs,by simp [hcl],RepVL.append (by simp) hargs hcr,?_,hnm⟩;have hb:¬ fn.body=none:=by intro e;rw [e] at hbody;cases hbody
   have hname' : ¬ fn.name = "runtime.NumGoroutine" := by simpa using hname
   simp [execOp,ho,resolve,hv,Deferred.ofValue,invoke,callFunc,hfn,hname',hb]
  ·rename_i g bs ev;cases hf;have hv:=QA h hg fo;rw [ev] at hv;simp only [RepV] at hv;obtain⟨cs,hv,hcl,hcr⟩:=hv;obtain⟨fn,hfn,hname,hbody⟩:=hdir;have hargs:RepVL E (as.toList.map (σ.val gl)) (as.toList.map a.eval):=by
    have:∀ l:List Operand,RepVL E (l.map (σ.val gl)) (l.map a.eval):=by
     intro l
     induction l with
     | nil=>simp [RepVL]
     | cons x l ih=>simp only [List.map_cons,RepVL];exact⟨QA h hg x,ih⟩
    exact this _
   have hnm:∀ n∈GA (bs++as.toList.map (σ.val gl)),n∈σ.used:=by
    intro n hn;obtain⟨c,hc,hn⟩:=mem_namesL.1 hn;rcases List.mem_append.1 hc with hc|hc
    ·refine fC (gl:=gl) h fo n ?_;rw [ev];simp only [V.names];exact mem_namesL.2 ⟨c,hc,hn⟩
    ·obtain⟨x,_,rfl⟩:=List.mem_map.1 hc;exact fC h x n hn
   refine⟨cs++as.toList.map a.eval,by simp [hcl],RepVL.append (by omega) hcr hargs,?_,hnm⟩;have hb:¬ fn.body=none:=by intro e;rw [e] at hbody;cases hbody
   have hname' : ¬ fn.name = "runtime.NumGoroutine" := by simpa using hname
   simp [execOp,ho,resolve,hv,Deferred.ofValue,invoke,callFunc,hfn,hname',hb]
  ·rename_i g ev;cases hf;have hv:=QA h hg fo;rw [ev] at hv;simp only [RepV,RepP] at hv;obtain⟨fn,hfn,hname,hbody⟩:=hdir;have hargs:RepVL E (as.toList.map (σ.val gl)) (as.toList.map a.eval):=by
    have:∀ l:List Operand,RepVL E (l.map (σ.val gl)) (l.map a.eval):=by
     intro l
     induction l with
     | nil=>simp [RepVL]
     | cons x l ih=>simp only [List.map_cons,RepVL];exact⟨QA h hg x,ih⟩
    exact this _
   have hnm:∀ n∈GA (as.toList.map (σ.val gl)),n∈σ.used:=by
    intro n hn;obtain⟨c,hc,hn⟩:=mem_namesL.1 hn;obtain⟨x,_,rfl⟩:=List.mem_map.1 hc;exact fC h x n hn
   refine⟨as.toList.map a.eval,by simp,hargs,?_,hnm⟩;have hb:¬ fn.body=none:=by intro e;rw [e] at hbody;cases hbody
   have hname' : ¬ fn.name = "runtime.NumGoroutine" := by simpa using hname
   simp [execOp,ho,resolve,hv,Deferred.ofValue,invoke,callFunc,hfn,hname',hb];apply Array.ext';simp
  ·cases hf
 ·cases hf
theorem rj {C:Ctx} {E:Env} {σ:St} {a:Act} {w:World} (h:Ga C E σ a w) {args:List V} {objs:List (Nat × Ob)} (hn:∀ n∈GA args,n∈σ.used) (hs:IC objs σ.objs):∀ n∈YD args objs,n∈σ.used:=by
 intro n hm;rcases List.mem_append.1 hm with hm|hm
 ·exact hn n hm
 ·obtain⟨m,o,ho,hm⟩:=Xi hs hm;exact (h.usedO m o ho).2 n hm
theorem OpW.sound_call {X:NA} {o:Oper} {σ:St} {f:Nat} {args:List V} {objs:List (Nat × Ob)} {x:V} {objs':List (Nat × Ob)} (hf:oG (σ.val X.gl) o.op=some (f,args)) (hac:AC X.P X.gl f args objs (.ret x) objs') (hsub:IC objs σ.objs) (hn:∀ n∈(KD x objs objs').nw,n ∉ σ.used)
  {C:Ctx} {E:Env} {a:Act} {w:World} (hg:GOK X.gl C.E0.H) (hG:Ga C E σ a w) (hd:∀ d,o.dst=some d->d<C.nt)
  {K:Act->World->Prop} {Q:Exit->Act->World->Prop} (hK:∀ E' a' w',Ga C E' (σ.eff o.dst (KD x objs objs')) a' w'->K a' w'):o.wp X.P a w K Q:=by
 obtain⟨vs,hl,hr,hrun,hnm⟩:=pj hG hg hf hac.direct;have hsub0:=hsub;have hsub:=nO hsub;unfold Oper.wp;rw [hrun];simp only [Oper.upon];have hbase:pO X.gl E w objs:=⟨hG.heap,hg.mono hG.hle,λ n o hn=>hG.objs n o (hsub n o hn),λ n m o o' hn hm=>hG.apart n m o o' (hsub n o hn) (hsub m o' hm)⟩;refine (hac.calls E w vs hbase hl hr).mono ?_
 rintro e' w' ⟨E',hD,v,rfl,hv⟩
 refine hK E' _ _ (hG.called hD hsub ?_ (rj hG hnm hsub0) hac.namesO hv hac.names hd);intro n hn';by_cases hk:n∈yA objs
 ·exact .inl hk
 ·right;refine hn n ?_;simp only [KD,List.mem_filter];refine⟨hn',?_⟩
  cases e:zA objs n with
  | none=>rfl
  | some o=>exact absurd (RC e) hk
theorem QQ (d:Option Nat) (x:V) (l:List (Nat × V)) (t:Nat):JA (iC d x l) t=if d=some t then x else JA l t:=by
 cases d with
 | none=>rfl
 | some d =>
  simp only [iC,JA];by_cases e:d=t
  ·subst e;simp
  ·rw [if_neg e,if_neg (λ h=>e (by cases h;rfl))]
theorem Ga.weakS {C:Ctx} {E:Env} {σ:St} {d:Option Nat} {x y:V} {wr:List (Nat × Option Ob)} {nw rd:List Nat} {a:Act} {w:World} (h:Ga C E (σ.eff d ⟨x,wr,nw,rd⟩) a w) (hx:oM x y):Ga C E (σ.eff d ⟨y,wr,nw,rd⟩) a w:=by
 refine⟨λ t => ?_,h.size,h.defers,h.heap,h.objs,h.apart,λ t n hn => ?_,h.usedO,h.usedG,h.grown,h.rest,h.same,h.hle,h.own,h.ext,h.keep⟩
 ·have h1:=h.slots t;simp only [St.eff,QQ] at h1 ⊢;split
  ·rename_i e;rw [if_pos e] at h1;exact hx.1 _ _ h1
  ·rename_i e;rw [if_neg e] at h1;exact h1
 ·have h1:=h.usedS t;simp only [St.eff,QQ] at h1 hn;split at hn
  ·rename_i e;rw [if_pos e] at h1;exact h1 n (hx.2 n hn)
  ·rename_i e;rw [if_neg e] at h1;exact h1 n hn
theorem OpW.sound {X:NA} {o:Oper} {σ:St} {e:Eff} (h:OpW X o σ e) (hT:xB X.P X.T) {C:Ctx} {E:Env} {a:Act} {w:World} (hg:GOK X.gl C.E0.H) (hG:Ga C E σ a w) (hd:∀ d,o.dst=some d->d<C.nt)
  {K:Act->World->Prop} {Q:Exit->Act->World->Prop} (hK:∀ E' a' w',Ga C E' (σ.eff o.dst e) a' w'->K a' w'):o.wp X.P a w K Q:=by
 induction h with
 | step note r hs hc hn =>
  obtain⟨v,w',E',hres,hG',_⟩:=Wi hT hg hG hd hs hc (by
   intro n x hw hnew;refine hn n ?_;simp [R.eff,hw,hnew])
  rw [gj σ o.dst r (rdN (σ.val X.gl) o.op)] at hG';exact hres.wp (hK E' _ _ hG')
 | call f args objs x objs' hf hac hsub hn=>exact OpW.sound_call hf hac hsub hn hg hG hd hK
 | callR f args ro objs x objs' hf hac hro hsub hn =>
  have hnw:=lj (x:=x) hro;refine OpW.sound_call hf hac hsub (by rw [<- hnw];exact hn) hg hG hd ?_;intro E' a' w' hG';refine hK E' a' w' ?_;have:=hG'.congrO (O':=CF σ.objs (kH objs objs')) (mj hro hsub);rw [<- hnw] at this;exact this
 | weak y h hx ih=>exact ih λ E' a' w' hG'=>hK E' a' w' (hG'.weakS hx)
def DF:Eff:=⟨.pv (.tuple []),[],[],[]⟩
def Eff.wn (e:Eff):List Nat:=e.wr.map (·.1)
def UA (S:Nat->Bool):Nat->List (Option Nat × Eff)->St->St
 | _,[],σ=>σ
 | k,(d,e)::r,σ=>UA S (k+1) r (if S k then σ.eff d e else σ)
theorem dL (dst:Option Nat) (x:V) (l:List (Nat × V)) (t:Nat):JA (iC dst x l) t=if dst=some t then x else JA l t:=by
 cases dst with
 | none=>simp [iC]
 | some d=>simp [iC,JA]
theorem xM {S S':Nat->Bool} (t:Nat):∀ (l:List (Option Nat × Eff)) (k:Nat) (σ σ':St),(∀ i d e,l[i]? = some (d,e)->d=some t->S (k+i)=S' (k+i))->JA σ.slots t=JA σ'.slots t ->
  JA (UA S k l σ).slots t=JA (UA S' k l σ').slots t
 | [],_,_,_,_,h=>h
 | (d,e)::r,k,σ,σ',hw,h=>by
  simp only [UA];refine xM t r (k+1) _ _ (λ i d' e' hi hd=>by have:=hw (i+1) d' e' (by simpa using hi) hd;rwa [show k+(i+1)=k+1+i by omega] at this) ?_;have h0:=hw 0 d e rfl;simp only [Nat.add_zero] at h0;by_cases hd:d=some t
  ·have hs:=h0 hd;rw [hs];split
   ·simp [St.eff,dL,hd]
   ·exact h
  ·have e1:∀ s:St,JA (if S k then s.eff d e else s).slots t=JA s.slots t:=by
    intro s;split<;>simp [St.eff,dL,hd]
   have e2:∀ s:St,JA (if S' k then s.eff d e else s).slots t=JA s.slots t:=by
    intro s;split<;>simp [St.eff,dL,hd]
   rw [e1,e2,h]
theorem DZ {wr:List (Nat × Option Ob)} {n:Nat} (h:n ∉ wr.map (·.1)):gC wr n=none:=by
 induction wr with
 | nil=>rfl
 | cons p r ih =>
  obtain⟨k,o⟩:=p;simp only [List.map_cons,List.mem_cons,not_or] at h;have:¬ k=n:=λ e=>h.1 e.symm
  simp [gC,ih h.2,this]
theorem AM {S S':Nat->Bool} (n:Nat):∀ (l:List (Option Nat × Eff)) (k:Nat) (σ σ':St),(∀ i d e,l[i]? = some (d,e)->n∈e.wn->S (k+i)=S' (k+i))->zA σ.objs n=zA σ'.objs n ->
  zA (UA S k l σ).objs n=zA (UA S' k l σ').objs n
 | [],_,_,_,_,h=>h
 | (d,e)::r,k,σ,σ',hw,h=>by
  simp only [UA];refine AM n r (k+1) _ _ (λ i d' e' hi hd=>by have:=hw (i+1) d' e' (by simpa using hi) hd;rwa [show k+(i+1)=k+1+i by omega] at this) ?_;have h0:=hw 0 d e rfl;simp only [Nat.add_zero] at h0;by_cases hd:n∈e.wn
  ·have hs:=h0 hd;rw [hs];split
   ·simp only [St.eff,pJ,h]
   ·exact h
  ·have hno:=DZ (wr:=e.wr) hd;have e1:∀ s:St,zA (if S k then s.eff d e else s).objs n=zA s.objs n:=by
    intro s;split<;>simp [St.eff,pJ,hno]
   have e2:∀ s:St,zA (if S' k then s.eff d e else s).objs n=zA s.objs n:=by
    intro s;split<;>simp [St.eff,pJ,hno]
   rw [e1,e2,h]
theorem tJ {S:Nat->Bool} (n:Nat):∀ (l:List (Option Nat × Eff)) (k:Nat) (σ:St),n∈(UA S k l σ).used↔n∈σ.used \/ ∃ i d e,l[i]? = some (d,e)/\S (k+i)=true/\n∈e.nw
 | [],_,σ=>by simp [UA]
 | (d,e)::r,k,σ=>by
  simp only [UA];rw [tJ n r (k+1)];constructor
  ·rintro (h|⟨i,d',e',hi,hs,hn⟩)
   ·by_cases hs:S k=true
    ·simp only [hs,if_true,St.eff,List.mem_append] at h;rcases h with h|h
     ·exact .inr ⟨0,d,e,rfl,by simpa using hs,h⟩
     ·exact .inl h
    ·simp only [hs] at h;exact .inl h
   ·exact .inr ⟨i+1,d',e',by simpa using hi,by rwa [show k+(i+1)=k+1+i by omega],hn⟩
  ·rintro (h|⟨i,d',e',hi,hs,hn⟩)
   ·left;split
    ·simp [St.eff,h]
    ·exact h
   ·cases i with
    | zero =>
     simp only [List.getElem?_cons_zero,Option.some.injEq,Prod.mk.injEq] at hi;obtain⟨rfl,rfl⟩:=hi;left;simp only [Nat.add_zero] at hs;simp [hs,St.eff,hn]
    | succ i=>exact .inr ⟨i,d',e',by simpa using hi,by rwa [show k+1+i=k+(i+1) by omega],hn⟩
theorem EZ {S:Nat->Bool} (t:Nat):∀ (l:List (Option Nat × Eff)) (k i:Nat) (d:Option Nat) (e:Eff) (σ:St),l[i]? = some (d,e)->S (k+i)=false ->
  (d=some t->∀ j d' e',i<j->l[j]? = some (d',e')->S (k+j)=true->d'≠some t) ->
  JA (UA (λ m=>m == k+i || S m) k l σ).slots t=if d=some t then e.x else JA (UA S k l σ).slots t
 | [],_,_,_,_,_,hi,_,_=>by simp at hi
 | (d0,e0)::r,k,0,d,e,σ,hi,hs,hl=>by
  simp only [List.getElem?_cons_zero,Option.some.injEq,Prod.mk.injEq] at hi;obtain⟨rfl,rfl⟩:=hi;simp only [Nat.add_zero] at hs;simp only [UA,Nat.add_zero,beq_self_eq_true,Bool.true_or,if_true,hs];by_cases hd:d0=some t
  ·simp only [hd,if_true];rw [xM (S':=λ _=>false) t r (k+1) _ (σ.eff d0 e0) ?_ (by rw [hd])]
   ·have hf:∀ (r:List (Option Nat × Eff)) (k:Nat) (s:St),UA (λ _=>false) k r s=s:=by
     intro r;induction r with
     | nil=>intro k s;rfl
     | cons p r ih=>intro k s;simp [UA,ih]
    rw [hf];simp [St.eff,dL,hd]
   ·intro i d' e' hi hd';have:=hl hd (i+1) d' e' (by omega) (by simpa using hi);by_cases hsi:S (k+1+i)=true
    ·exact absurd hd' (this (by rwa [show k+(i+1)=k+1+i by omega]))
    ·simp only [Bool.not_eq_true] at hsi;simp [hsi];omega
  ·simp only [hd,if_false];refine xM t r (k+1) _ _ ?_ (by simp [St.eff,dL,hd]);intro i d' e' hi hd';have:(k+1+i == k)=false:=by simp;omega
   simp [this]
 | (d0,e0)::r,k,i+1,d,e,σ,hi,hs,hl=>by
  simp only [UA];have hk:(k == k+(i+1))=false:=by simp
  simp only [hk,Bool.false_or];have:=EZ (S:=S) t r (k+1) i d e (if S k then σ.eff d0 e0 else σ) (by simpa using hi) (by rwa [show k+1+i=k+(i+1) by omega]) (λ hd j d' e' hj hl' hs'=>hl hd (j+1) d' e' (by omega) (by simpa using hl') (by rwa [show k+(j+1)=k+1+j by omega]));rw [show k+(i+1)=k+1+i by omega];exact this
theorem FZ {S:Nat->Bool} (n:Nat):∀ (l:List (Option Nat × Eff)) (k i:Nat) (d:Option Nat) (e:Eff) (σ:St),l[i]? = some (d,e)->S (k+i)=false ->
  (n∈e.wn->∀ j d' e',i<j->l[j]? = some (d',e')->S (k+j)=true->n ∉ e'.wn) ->
  zA (UA (λ m=>m == k+i || S m) k l σ).objs n=match gC e.wr n with|some o=>o|none=>zA (UA S k l σ).objs n
 | [],_,_,_,_,_,hi,_,_=>by simp at hi
 | (d0,e0)::r,k,0,d,e,σ,hi,hs,hl=>by
  simp only [List.getElem?_cons_zero,Option.some.injEq,Prod.mk.injEq] at hi;obtain⟨rfl,rfl⟩:=hi;simp only [Nat.add_zero] at hs;simp only [UA,Nat.add_zero,beq_self_eq_true,Bool.true_or,if_true,hs];by_cases hd:n∈e0.wn
  ·rw [AM (S':=λ _=>false) n r (k+1) _ (σ.eff d0 e0) ?_ rfl]
   ·have hf:∀ (r:List (Option Nat × Eff)) (k:Nat) (s:St),UA (λ _=>false) k r s=s:=by
     intro r;induction r with
     | nil=>intro k s;rfl
     | cons p r ih=>intro k s;simp [UA,ih]
    rw [hf];simp only [St.eff,pJ];have:∃ o,gC e0.wr n=some o:=by
     have key:∀ wr:List (Nat × Option Ob),n∈wr.map (·.1)->∃ o,gC wr n=some o:=by
      intro wr
      induction wr with
      | nil=>intro h;simp at h
      | cons p r ih =>
       obtain⟨k,o⟩:=p;intro h;simp only [gC]
       cases hr:gC r n with
       | some x=>exact⟨x,rfl⟩
       | none =>
        simp only [List.map_cons,List.mem_cons] at h;rcases h with h|h
        ·exact⟨o,by simp [h]⟩
        ·obtain⟨x,hx⟩:=ih h;rw [hx] at hr;cases hr
     exact key _ hd
    obtain⟨o,ho⟩:=this;simp [ho]
   ·intro i d' e' hi hd';have:=hl hd (i+1) d' e' (by omega) (by simpa using hi);by_cases hsi:S (k+1+i)=true
    ·exact absurd hd' (this (by rwa [show k+(i+1)=k+1+i by omega]))
    ·simp only [Bool.not_eq_true] at hsi;simp [hsi];omega
  ·have hno:=DZ (wr:=e0.wr) hd;simp only [hno];refine AM n r (k+1) _ _ ?_ (by simp [St.eff,pJ,hno]);intro i d' e' hi hd';have:(k+1+i == k)=false:=by simp;omega
   simp [this]
 | (d0,e0)::r,k,i+1,d,e,σ,hi,hs,hl=>by
  simp only [UA];have hk:(k == k+(i+1))=false:=by simp
  simp only [hk,Bool.false_or];have:=FZ (S:=S) n r (k+1) i d e (if S k then σ.eff d0 e0 else σ) (by simpa using hi) (by rwa [show k+1+i=k+(i+1) by omega]) (λ hd j d' e' hj hl' hs'=>hl hd (j+1) d' e' (by omega) (by simpa using hl') (by rwa [show k+(j+1)=k+1+j by omega]));rw [show k+(i+1)=k+1+i by omega];exact this
theorem Ga.of_ext {C:Ctx} {E:Env} {σ σ':St} {a:Act} {w:World} (h:Ga C E σ a w) (h1:∀ t,JA σ'.slots t=JA σ.slots t) (h2:∀ n,zA σ'.objs n=zA σ.objs n) (h3:∀ n,n∈σ.used->n∈σ'.used):Ga C E σ' a w :=
 ⟨λ t=>by rw [h1];exact h.slots t,h.size,⟨h.defers.1,λ n hn=>h3 n (h.defers.2 n hn)⟩,h.heap,λ n o hn=>h.objs n o (by rwa [h2] at hn),λ n m o o' hn hm=>h.apart n m o o' (by rwa [h2] at hn) (by rwa [h2] at hm),
  λ t n hn=>h3 n (h.usedS t n (by rwa [h1] at hn)),λ n o hn=>⟨h3 n (h.usedO n o (by rwa [h2] at hn)).1,λ m hm=>h3 m ((h.usedO n o (by rwa [h2] at hn)).2 m hm)⟩,λ n o hn=>h3 n (h.usedG n o hn),
  h.grown,h.rest,h.same,h.hle,λ n o b hn=>h.own n o b (by rwa [h2] at hn),h.ext,
  λ n hn=>⟨h3 n (h.keep n hn).1,by rw [h2];exact (h.keep n hn).2.1,(h.keep n hn).2.2⟩⟩
def gv (ops:List Oper) (σ:St) (j:Nat):V:=match ops[j]? with
 | some o=>match o.dst with
  | some d=>JA σ.slots d
  | none => .undef
 | none => .undef
def OU (X:NA) (dst:Option Nat):Prop:=match dst with
 | some d=>d<X.nt
 | none=>True
theorem SQ {C:Ctx} {E:Env} {σ:St} {a:Act} {w:World} (h:Ga C E σ a w) {dst:Option Nat} (hd:∀ d,dst=some d->d<C.nt):Ga C E (σ.eff dst DF) (a.put dst undef) w:=by
 have:=h.pure E.H dst (.pv (.tuple [])) undef (Hle.refl _) (Nat.le_refl _) ⟨rfl,rfl,rfl⟩ (λ _ _=>⟨rfl,rfl⟩) h.heap (by simp only [RepV,RepP];exact⟨[],rfl,rfl,by simp only [RepL]⟩) (by simp [V.names]) hd;exact this
theorem GZ {C:Ctx} {E:Env} {σ:St} {a:Act} {w:World} {ops:List Oper} (h:Ga C E σ a w) {j:Nat} (hg:gv ops σ j = .pv (.tuple [])):yielded ops.toArray a.tmps j=none:=by
 unfold gv at hg;split at hg
 ·rename_i o ho;split at hg
  ·rename_i d hd;have hr:=h.slots d;rw [hg] at hr;simp only [RepV,RepP] at hr;obtain⟨vs,hv,hl,_⟩:=hr;have hvs:vs=[]:=List.eq_nil_of_length_eq_zero (by simpa using hl);subst hvs;rw [Array.getD_eq_getD_getElem?] at hv
   cases e:a.tmps[d]? with
   | none=>simp [yielded,ho,hd,e]
   | some v =>
    rw [e] at hv;simp at hv;subst hv;simp [yielded,ho,hd,e]
  ·cases hg
 ·cases hg
theorem PU {C:Ctx} {E:Env} {σ:St} {a:Act} {w:World} {ops:List Oper} (h:Ga C E σ a w) {j:Nat} {b:Bool} (hg:gv ops σ j = .pv (.bool b)):yielded ops.toArray a.tmps j=some b:=by
 unfold gv at hg;split at hg
 ·rename_i o ho;split at hg
  ·rename_i d hd;have hr:=h.slots d;rw [hg] at hr;have hr:=BF hr;have hs:a.tmps[d]? = some (.bool b):=by
    rw [Array.getD_eq_getD_getElem?] at hr
    cases e:a.tmps[d]? with
    | none=>rw [e] at hr;simp [undef] at hr
    | some v=>rw [e] at hr;simp at hr;rw [hr]
   simp [yielded,ho,hd,hs]
  ·cases hg
 ·cases hg
section
variable {X:NA} {C:Ctx}
end
def aJ (o:Oper):List Nat:=(o.after.toList.filter (Region.binds .any)).map (·.on)
def QU (ms:List Nat) (l:List Nat):Nat:=l.foldl (λ m i=>m ||| (1 <<< i) ||| ms.getD i 0) 0
def ZD:List Oper->List Nat->List Nat
 | [],ms=>ms
 | o::r,ms=>ZD r (ms++[QU ms (aJ o)])
def zD (ops:Array Oper) (o1:Oper) (e1:Eff) (o2:Oper) (e2:Eff):Bool :=
 (match o1.dst with|some d=>(o2.looksAt ops).contains d || o2.dst == some d|none=>false) ||
 (match o2.dst with|some d=>(o1.looksAt ops).contains d|none=>false) ||
 e1.wn.any (λ n=>e2.rd.contains n || e2.wn.contains n) || e2.wn.any (λ n=>e1.rd.contains n)
def rO (ops:List Oper) (es:List Eff):Bool :=
 (List.range ops.length).all λ j=>match ops[j]?,es[j]? with
  | some oj,some ej=>(aJ oj).all (λ i=>decide (i<j)) && (List.range j).all λ i=>match ops[i]?,es[i]? with
   | some oi,some ei => !zD ops.toArray oi ei oj ej || ((ZD ops []).getD j 0).testBit i
   | _,_=>false
  | _,_=>false
theorem HZ (ms:List Nat) (i:Nat):∀ (l:List Nat) (m:Nat),(l.foldl (λ m i=>m ||| (1 <<< i) ||| ms.getD i 0) m).testBit i=true->m.testBit i=true \/ ∃ d∈l,d=i\/(ms.getD d 0).testBit i=true
 | [],m,h => .inl h
 | d::l,m,h=>by
  simp only [List.foldl_cons] at h;rcases HZ ms i l _ h with h|⟨d',hd',h⟩
  ·simp only [Nat.testBit_or,Bool.or_eq_true] at h;rcases h with (h|h)|h
   ·exact .inl h
   ·right;refine⟨d,by simp,.inl ?_⟩;simp only [Nat.testBit_shiftLeft,Bool.and_eq_true,decide_eq_true_eq] at h;obtain⟨h1,h2⟩:=h;have:i-d=0:=by
     cases hq:i-d with
     | zero=>rfl
     | succ k=>rw [hq] at h2;simp [Nat.testBit_succ] at h2
    omega
   ·exact .inr ⟨d,by simp,.inr h⟩
  ·exact .inr ⟨d',by simp [hd'],h⟩
theorem RU:∀ (l:List Oper) (ms:List Nat) (j:Nat),j<ms.length->(ZD l ms)[j]? = ms[j]?
 | [],_,_,_=>rfl
 | o::r,ms,j,h=>by
  simp only [ZD];rw [RU r _ j (by simp;omega),List.getElem?_append_left h]
theorem IZ:∀ (l:List Oper) (ms:List Nat) (i:Nat) (o:Oper),l[i]? = some o->∃ ms',(ZD l ms)[ms.length+i]? = some (QU ms' (aJ o)) /\ ∀ d,(ms'.getD d 0=0\/ms'.getD d 0=(ZD l ms).getD d 0)
 | [],_,_,_,h=>by simp at h
 | o'::r,ms,0,o,h=>by
  simp only [List.getElem?_cons_zero,Option.some.injEq] at h;subst h;simp only [ZD];refine⟨ms,?_,λ d => ?_⟩
  ·rw [RU r _ _ (by simp)];simp
  ·by_cases hd:d<ms.length
   ·right;rw [List.getD_eq_getElem?_getD,List.getD_eq_getElem?_getD,RU r _ d (by simp;omega),List.getElem?_append_left hd]
   ·left;rw [List.getD_eq_getElem?_getD,List.getElem?_eq_none (by omega)];rfl
 | o'::r,ms,i+1,o,h=>by
  simp only [ZD];have:=IZ r (ms++[QU ms (aJ o')]) i o (by simpa using h);simpa [Nat.add_assoc,Nat.add_comm 1 i] using this
def SU (X:NA) (ops:List Oper) (o:Oper) (σ:St) (e:Eff):Prop :=
 OU X o.dst/\((o.guard=none/\OpW X o σ e)\/(∃ j want b,o.guard=some (j,want)/\gv ops σ j = .pv (.bool b)/\((b=want/\OpW X o σ e)\/(b≠want/\e=DF))) \/ ∃ j want,o.guard=some (j,want)/\gv ops σ j = .pv (.tuple [])/\e=DF)
def jF (X:NA) (ops:List Oper):List Oper->List Eff->St->Prop
 | [],[],_=>True
 | o::l,e::es,σ=>SU X ops o σ e/\jF X ops l es (σ.eff o.dst e)
 | _,_,_=>False
def JB (l:List Oper) (es:List Eff):List (Option Nat × Eff):=(l.map (·.dst)).zip es
theorem TU {X:NA} {ops:List Oper} : ∀ (l:List Oper) (es:List Eff) (k:Nat) (σ:St),jF X ops l es σ->∀ i o e,l[i]? = some o->es[i]? = some e ->
  SU X ops o (UA (λ m=>decide (m<k+i)) k (JB l es) σ) e
 | [],_,_,_,_,i,o,e,h,_=>by simp at h
 | o'::l,[],_,_,h,_,_,_,_,_=>by simp [jF] at h
 | o'::l,e'::es,k,σ,h,0,o,e,ho,he=>by
  simp only [List.getElem?_cons_zero,Option.some.injEq] at ho he;subst ho he;simp only [jF] at h;have hf:∀ (l:List (Option Nat × Eff)) (j:Nat) (s:St),k<=j->UA (λ m=>decide (m<k+0)) j l s=s:=by
   intro l
   induction l with
   | nil=>intro j s _;rfl
   | cons p r ih =>
    intro j s hj;have:¬ j<k+0:=by omega
    simp only [UA,this,decide_false];exact ih (j+1) s (by omega)
  rw [hf _ k σ (Nat.le_refl _)];exact h.1
 | o'::l,e'::es,k,σ,h,i+1,o,e,ho,he=>by
  simp only [jF] at h;have:=TU l es (k+1) _ h.2 i o e (by simpa using ho) (by simpa using he);simp only [JB,List.map_cons,List.zip_cons_cons,UA];have hk:k<k+(i+1):=by omega
  simp only [hk,decide_true,if_true];rw [show k+(i+1)=k+1+i by omega];simpa [JB] using this
theorem JZ:∀ (l:List Bool) (i:Nat),l[i]? = some false->(l.set i true).count false+1=l.count false
 | [],i,h=>by simp at h
 | b::l,0,h=>by
  simp only [List.getElem?_cons_zero,Option.some.injEq] at h;subst h;simp
 | b::l,i+1,h=>by
  have:=JZ l i (by simpa using h);simp only [List.set_cons_succ,List.count_cons];omega
section
variable {X:NA} {C:Ctx}
theorem sj (hT:xB X.P X.T) (hg:GOK X.gl C.E0.H) (hnt:C.nt=X.nt) {ops:List Oper} {es:List Eff} {σ:St} {Q:Exit->Act->World->Prop} (hlen:es.length=ops.length)
  (htext:jF X ops ops es σ) (hcheck:rO ops es=true)
  (hQ:∀ E a w,Ga C E (UA (λ _=>true) 0 (JB ops es) σ) a w->Q .normal a w) :
  ∀ (fuel:Nat) (listed:Array Bool) (E:Env) (a:Act) (w:World),listed.size=ops.length->listed.toList.count false<=fuel ->
   (∀ j,listed.getD j false=true->∀ i,((ZD ops []).getD j 0).testBit i=true->listed.getD i false=true) ->
   Ga C E (UA (λ m=>listed.getD m false) 0 (JB ops es) σ) a w->wpAny X.P .any ops.toArray Q fuel listed a w:=by
 -- what the check says
 have hck:∀ (j:Nat) (oj:Oper) (ej:Eff),ops[j]? = some oj->es[j]? = some ej->(∀ d∈aJ oj,d<j) /\ ∀ (i:Nat) (oi:Oper) (ei:Eff),i<j->ops[i]? = some oi->es[i]? = some ei->zD ops.toArray oi ei oj ej=true->((ZD ops []).getD j 0).testBit i=true:=by
  intro j oj ej hoj hej;have hjl:j<ops.length:=(List.getElem?_eq_some_iff.1 hoj).1;unfold rO at hcheck;rw [List.all_eq_true] at hcheck;have hj:=hcheck j (by simpa using hjl);simp only [hoj,hej,Bool.and_eq_true] at hj;refine⟨λ d hd=>by simpa using List.all_eq_true.1 hj.1 d hd,?_⟩;intro i oi ei hij hoi hei hcf;have hi:=List.all_eq_true.1 hj.2 i (by simpa using hij);simp only [hoi,hei,hcf,Bool.not_true,Bool.false_or] at hi;exact hi
 have hget:∀ (i:Nat) (o:Oper) (e:Eff),ops[i]? = some o->es[i]? = some e->(JB ops es)[i]? = some (o.dst,e):=by
  intro i o e ho he;simp [JB,List.getElem?_zip_eq_some,ho,he]
 have hget':∀ (i:Nat) (d:Option Nat) (e:Eff),(JB ops es)[i]? = some (d,e)->∃ o,ops[i]? = some o/\o.dst=d/\es[i]? = some e:=by
  intro i d e h;simp only [JB,List.getElem?_zip_eq_some,List.getElem?_map,Option.map_eq_some_iff] at h;obtain⟨⟨o,ho,hd⟩,he⟩:=h;exact⟨o,ho,hd,he⟩
 -- the bits of an operation that is ready
 have hready:∀ (S:Nat->Bool) (j:Nat) (oj:Oper),ops[j]? = some oj->(∀ d∈aJ oj,S d=true)->(∀ k,S k=true->∀ i,((ZD ops []).getD k 0).testBit i=true->S i=true)->∀ i,((ZD ops []).getD j 0).testBit i=true->S i=true:=by
  intro S j oj hoj hed hcl i hbit;obtain⟨ms',h1,h2⟩:=IZ ops [] j oj hoj;simp only [List.length_nil,Nat.zero_add] at h1;rw [List.getD_eq_getElem?_getD,h1] at hbit;simp only [Option.getD_some] at hbit;rcases HZ ms' i _ 0 hbit with h0|⟨d,hd,h0⟩
  ·simp at h0
  ·rcases h0 with rfl|h0
   ·exact hed d hd
   ·rcases h2 d with h3|h3
    ·rw [h3] at h0;simp at h0
    ·rw [h3] at h0;exact hcl d (hed d hd) i h0
 have hallQ:∀ (listed:Array Bool) (E:Env) (a:Act) (w:World),listed.size=ops.length->(∀ i,i<ops.length->listed.getD i false=true)->Ga C E (UA (λ m=>listed.getD m false) 0 (JB ops es) σ) a w->Q .normal a w:=by
  intro listed E a w hs hall hG;refine hQ E a w (hG.of_ext ?_ ?_ ?_)
  ·intro t;refine xM t _ 0 σ σ (λ i d e hi _ => ?_) rfl;obtain⟨o,ho,_⟩:=hget' i d e hi;rw [Nat.zero_add,hall i (List.getElem?_eq_some_iff.1 ho).1]
  ·intro n;refine AM n _ 0 σ σ (λ i d e hi _ => ?_) rfl;obtain⟨o,ho,_⟩:=hget' i d e hi;rw [Nat.zero_add,hall i (List.getElem?_eq_some_iff.1 ho).1]
  ·intro n hn;rw [tJ] at hn ⊢;rcases hn with hn|⟨i,d,e,hi,_,hne⟩
   ·exact .inl hn
   ·exact .inr ⟨i,d,e,hi,rfl,hne⟩
 have hnil:∀ (listed:Array Bool),listed.size=ops.length->Region.ready .any ops.toArray listed=[]->∀ i,i<ops.length->listed.getD i false=true:=by
  intro listed hs hnil i
  induction i using Nat.strongRecOn with
  | _ i ih =>
   intro hi
   cases hb:listed.getD i false with
   | true=>rfl
   | false =>
    exfalso;have hoi:ops[i]? = some ops[i]:=List.getElem?_eq_getElem hi;have hei:es[i]? = some es[i]:=List.getElem?_eq_getElem (by omega);have hmem:i∈Region.ready .any ops.toArray listed:=by
     unfold Region.ready;rw [List.mem_filter];refine⟨by simpa using hi,?_⟩;have h1:listed.getD i true=false:=by
      rw [Array.getD_eq_getD_getElem?] at hb ⊢;rw [Array.getElem?_eq_getElem (by omega)] at hb ⊢;simpa using hb
     simp only [h1,Bool.not_false,Bool.true_and,List.getElem?_toArray,hoi,Option.map_some,Option.getD_some];rw [Array.all_eq_true'];intro ed hed;by_cases hbd:Region.binds .any ed=true
     ·have hlt:=(hck i _ _ hoi hei).1 ed.on (List.mem_map_of_mem (List.mem_filter.2 ⟨by simpa using hed,hbd⟩));rw [ih ed.on hlt (by omega)];simp
     ·simp [hbd]
    rw [hnil] at hmem;simp at hmem
 intro fuel
 induction fuel with
 | zero =>
  intro listed E a w hs hcnt hcl hG;have hall:∀ i,i<ops.length->listed.getD i false=true:=by
   intro i hi;have h0:listed.toList.count false=0:=by omega
   rw [List.count_eq_zero] at h0;rw [Array.getD_eq_getD_getElem?,Array.getElem?_eq_getElem (by omega)];simp only [Option.getD_some]
   cases hb:listed[i] with
   | true=>rfl
   | false=>exact absurd (by rw [<- hb];simp) h0
  refine⟨?_,hallQ listed E a w hs hall hG⟩;unfold Region.ready;rw [List.filter_eq_nil_iff];intro i hi;have hi':i<ops.length:=by simpa using hi
  have:=hall i hi';have h1:listed.getD i true=true:=by
   rw [Array.getD_eq_getD_getElem?] at this ⊢;rw [Array.getElem?_eq_getElem (by omega)] at this ⊢;simpa using this
  simp [h1]
 | succ fuel ih =>
  intro listed E a w hs hcnt hcl hG;refine⟨λ hn=>hallQ listed E a w hs (hnil listed hs hn) hG,?_⟩;intro i hi;unfold Region.ready at hi;rw [List.mem_filter] at hi;obtain⟨hi,hrd⟩:=hi;have hi:i<ops.length:=by simpa using hi
  have hoi:ops[i]? = some ops[i]:=List.getElem?_eq_getElem hi;have hei:es[i]? = some es[i]:=List.getElem?_eq_getElem (by omega);generalize ops[i]=o at hoi hrd;generalize es[i]=e at hei;simp only [List.getElem?_toArray,hoi,Option.map_some,Option.getD_some,Bool.and_eq_true,Bool.not_eq_true'] at hrd;obtain⟨hun,hpre⟩:=hrd;have hSi:listed.getD i false=false:=by
   rw [Array.getD_eq_getD_getElem?] at hun ⊢;rw [Array.getElem?_eq_getElem (by omega)] at hun ⊢;simpa using hun
  have hed:∀ d∈aJ o,listed.getD d false=true:=by
   intro d hd;obtain⟨ed,hed,rfl⟩:=List.mem_map.1 hd;obtain⟨hed,hbd⟩:=List.mem_filter.1 hed;rw [Array.all_eq_true'] at hpre;have:=hpre ed (by simpa using hed);simpa [hbd] using this
  have hbits:=hready (λ m=>listed.getD m false) i o hoi hed hcl
  -- conflicts
  have hbefore:∀ (j:Nat) (oj:Oper) (ej:Eff),j<i->ops[j]? = some oj->es[j]? = some ej->zD ops.toArray oj ej o e=true->listed.getD j false=true :=
   λ j oj ej hj hoj hej hc=>hbits j ((hck i o e hoi hei).2 j oj ej hj hoj hej hc)
  have hafter:∀ (j:Nat) (oj:Oper) (ej:Eff),i<j->ops[j]? = some oj->es[j]? = some ej->zD ops.toArray o e oj ej=true->listed.getD j false=false:=by
   intro j oj ej hj hoj hej hc
   cases hb:listed.getD j false with
   | false=>rfl
   | true =>
    have:=hcl j hb i ((hck j oj ej hoj hej).2 i o e hj hoi hei hc);rw [hSi] at this;cases this
  have htx:=TU ops es 0 σ htext i o e hoi hei;rw [Nat.zero_add] at htx
  -- slots that are read
  have hslot:∀ t,t∈o.looksAt ops.toArray->JA (UA (λ m=>decide (m<i)) 0 (JB ops es) σ).slots t=JA (UA (λ m=>listed.getD m false) 0 (JB ops es) σ).slots t:=by
   intro t ht;refine xM t _ 0 σ σ (λ j d e' hj hd => ?_) rfl;rw [Nat.zero_add];obtain⟨oj,hoj,hdj,hej⟩:=hget' j d e' hj;rw [hd] at hdj;rcases Nat.lt_trichotomy j i with hlt|heq|hgt
   ·have hc:zD ops.toArray oj e' o e=true:=by
     simp only [zD,hdj,List.contains_eq_mem,ht,decide_true,Bool.true_or]
    rw [hbefore j oj e' hlt hoj hej hc];simp [hlt]
   ·subst heq;rw [hSi];simp
   ·have hc:zD ops.toArray o e oj e'=true:=by
     simp only [zD,hdj,List.contains_eq_mem,ht,decide_true,Bool.or_true,Bool.true_or]
    rw [hafter j oj e' hgt hoj hej hc];simp;omega
  have hobj:∀ n,n∈e.rd->zA (UA (λ m=>decide (m<i)) 0 (JB ops es) σ).objs n=zA (UA (λ m=>listed.getD m false) 0 (JB ops es) σ).objs n:=by
   intro n hn;refine AM n _ 0 σ σ (λ j d e' hj hd => ?_) rfl;rw [Nat.zero_add];obtain⟨oj,hoj,hdj,hej⟩:=hget' j d e' hj;rcases Nat.lt_trichotomy j i with hlt|heq|hgt
   ·have hc:zD ops.toArray oj e' o e=true:=by
     simp only [zD,Bool.or_eq_true,List.any_eq_true];exact .inl (.inr ⟨n,hd,.inl (by simpa using hn)⟩)
    rw [hbefore j oj e' hlt hoj hej hc];simp [hlt]
   ·subst heq;rw [hSi];simp
   ·have hc:zD ops.toArray o e oj e'=true:=by
     simp only [zD,Bool.or_eq_true,List.any_eq_true];exact .inr ⟨n,hd,by simpa using hn⟩
    rw [hafter j oj e' hgt hoj hej hc];simp;omega
  have hval:∀ x∈o.op.operands,(UA (λ m=>decide (m<i)) 0 (JB ops es) σ).val X.gl x=(UA (λ m=>listed.getD m false) 0 (JB ops es) σ).val X.gl x:=by
   intro x hx
   cases x with
   | tmp t =>
    refine hslot t ?_;simp only [Oper.looksAt,List.mem_append,List.mem_filterMap];exact .inl ⟨.tmp t,by simpa using hx,rfl⟩
   | const v=>rfl
   | func f=>rfl
   | global g=>rfl
  -- new names
  have hnw:∀ (j:Nat) (oj:Oper) (ej:Eff),ops[j]? = some oj->es[j]? = some ej->∀ n∈ej.nw,n ∉ (UA (λ m=>decide (m<j)) 0 (JB ops es) σ).used:=by
   intro j oj ej hoj hej n hn;have:=TU ops es 0 σ htext j oj ej hoj hej;rw [Nat.zero_add] at this;have key:∀ s,OpW X oj s ej->∀ n∈ej.nw,n ∉ s.used:=by
    intro s hw;clear this;clear hn hej
    induction hw with
    | weak y h hx ih=>exact ih
    | step note r hs hc hnn=>exact hnn
    | call f args objs x objs' hf hac hsub hnn=>exact hnn
    | callR f args ro objs x objs' hf hac hro hsub hnn=>exact hnn
   rcases this.2 with ⟨_,hw⟩|⟨_,_,_,_,_,⟨_,hw⟩|⟨_,rfl⟩⟩|⟨_,_,_,_,rfl⟩
   ·exact key _ hw n hn
   ·exact key _ hw n hn
   ·simp [DF] at hn
   ·simp [DF] at hn
  have hnew:∀ n∈e.nw,n ∉ (UA (λ m=>listed.getD m false) 0 (JB ops es) σ).used:=by
   intro n hn hu;rw [tJ] at hu;have h0:=hnw i o e hoi hei n hn;rw [tJ] at h0;simp only [not_or,not_exists,not_and] at h0;rcases hu with hu|⟨j,d,ej,hj,hSj,hnj⟩
   ·exact h0.1 hu
   ·rw [Nat.zero_add] at hSj;obtain⟨oj,hoj,hdj,hej⟩:=hget' j d ej hj;rcases Nat.lt_trichotomy j i with hlt|heq|hgt
    ·exact h0.2 j d ej hj (by simpa using hlt) hnj
    ·subst heq;rw [hSi] at hSj;cases hSj
    ·have h1:=hnw j oj ej hoj hej n hnj;rw [tJ] at h1;simp only [not_or,not_exists,not_and] at h1;exact h1.2 i o.dst e (hget i o e hoi hei) (by simpa using hgt) hn
  have hd:∀ d,o.dst=some d->d<C.nt:=by
   intro d hd';have:=htx.1;rw [hd'] at this;rw [hnt];exact this
  -- the state behind it
  have hnext:∀ E' a' w',Ga C E' ((UA (λ m=>listed.getD m false) 0 (JB ops es) σ).eff o.dst e) a' w'->wpAny X.P .any ops.toArray Q fuel (listed.setIfInBounds i true) a' w':=by
   intro E' a' w' hG';have hS':(λ m=>(listed.setIfInBounds i true).getD m false)=λ m=>m == 0+i || listed.getD m false:=by
    funext m;rw [Nat.zero_add,Array.getD_eq_getD_getElem?,Array.getD_eq_getD_getElem?];by_cases e1:m=i
    ·subst e1;rw [Array.getElem?_setIfInBounds_self_of_lt (by omega)];simp
    ·rw [Array.getElem?_setIfInBounds_ne (λ h=>e1 h.symm)];simp [e1]
   refine ih (listed.setIfInBounds i true) E' a' w' (by simpa using hs) ?_ ?_ ?_
   ·have:=JZ listed.toList i (by
     rw [Array.getElem?_toList,Array.getElem?_eq_getElem (by omega)];rw [Array.getD_eq_getD_getElem?,Array.getElem?_eq_getElem (by omega)] at hSi;simpa using hSi)
    rw [Array.toList_setIfInBounds];omega
   ·intro j hj k hk;have e1:∀ m,(listed.setIfInBounds i true).getD m false=(m == 0+i || listed.getD m false):=λ m=>congrFun hS' m
    rw [e1] at hj ⊢;simp only [Nat.zero_add,Bool.or_eq_true,beq_iff_eq] at hj ⊢;right;rcases hj with rfl|hj
    ·exact hbits k hk
    ·exact hcl j hj k hk
   ·rw [hS'];refine hG'.of_ext ?_ ?_ ?_
    ·intro t;rw [EZ t _ 0 i o.dst e σ (hget i o e hoi hei) (by simpa using hSi)]
     ·simp [St.eff,dL]
     ·intro hdt j d' e' hij hj hSj hd';rw [Nat.zero_add] at hSj;obtain⟨oj,hoj,hdj,hej⟩:=hget' j d' e' hj;rw [hd'] at hdj;have hc:zD ops.toArray o e oj e'=true:=by simp [zD,hdt,hdj]
      have:=hafter j oj e' hij hoj hej hc;rw [hSj] at this;cases this
    ·intro n;rw [FZ n _ 0 i o.dst e σ (hget i o e hoi hei) (by simpa using hSi)]
     ·simp only [St.eff,pJ]
      all_goals (cases gC e.wr n<;>rfl)
     ·intro hdt j d' e' hij hj hSj hd';rw [Nat.zero_add] at hSj;obtain⟨oj,hoj,hdj,hej⟩:=hget' j d' e' hj;have hc:zD ops.toArray o e oj e'=true:=by
       simp only [zD,Bool.or_eq_true,List.any_eq_true];exact .inl (.inr ⟨n,hdt,.inr (by simpa using hd')⟩)
      have:=hafter j oj e' hij hoj hej hc;rw [hSj] at this;cases this
    ·intro n hn;simp only [St.eff,List.mem_append] at hn;rw [tJ];rw [tJ] at hn;rcases hn with hn|hn|⟨j,d,ej,hj,hSj,hnj⟩
     ·exact .inr ⟨i,o.dst,e,hget i o e hoi hei,by simp,hn⟩
     ·exact .inl hn
     ·exact .inr ⟨j,d,ej,hj,by rw [hSj];simp,hnj⟩
  unfold wpOp;simp only [List.getElem?_toArray,hoi];have hrun:OpW X o (UA (λ m=>decide (m<i)) 0 (JB ops es) σ) e->o.wp X.P a w (wpAny X.P .any ops.toArray Q fuel (listed.setIfInBounds i true)) Q:=λ hw =>
   (hw.congr ⟨hval,hobj,hnew⟩).sound hT hg hG hd hnext
  rcases htx.2 with ⟨hgn,hw⟩|⟨j,want,b,hgs,hgv,hor⟩|⟨j,want,hgs,hgv,rfl⟩
  ·rw [if_pos (by simp [Region.wanted,hgn])];exact .inl (hrun hw)
  ·have hgv':gv ops (UA (λ m=>listed.getD m false) 0 (JB ops es) σ) j = .pv (.bool b):=by
    rw [<- hgv];unfold gv;split
    ·rename_i oj hoj;split
     ·rename_i d hdj;refine (hslot d ?_).symm;simp only [Oper.looksAt,List.mem_append];right;simp [hgs,hoj,hdj]
     ·rfl
    ·rfl
   have hy:=PU hG hgv';rcases hor with ⟨hbw,hw⟩|⟨hbw,rfl⟩
   ·rw [if_pos (by simp [Region.wanted,hgs,hy,hbw])];exact .inl (hrun hw)
   ·rw [if_neg (by simp [Region.wanted,hgs,hy,hbw])];exact hnext E _ w (SQ hG hd)
  ·have hgv':gv ops (UA (λ m=>listed.getD m false) 0 (JB ops es) σ) j = .pv (.tuple []):=by
    rw [<- hgv];unfold gv;split
    ·rename_i oj hoj;split
     ·rename_i d hdj;refine (hslot d ?_).symm;simp only [Oper.looksAt,List.mem_append];right;simp [hgs,hoj,hdj]
     ·rfl
    ·rfl
   have hy:=GZ hG hgv';rw [if_neg (by simp [Region.wanted,hgs,hy])];exact hnext E _ w (SQ hG hd)
end
inductive AB where
 | normal
 | exit (id:Nat)
 | ret
 | panic (p:PV)
def tj (E:Env):AB->Exit->Prop
 | .normal,e=>e = .normal
 | .exit i,e=>e = .exit i
 | .ret,e=>e = .ret
 | .panic p,e => ∃ v,e = .panic [{ v,recovered:=false }]/\RepP E.H p v
structure sO (X:NA) (C:Ctx):Prop where
 glob:GOK X.gl C.E0.H
 nt:C.nt=X.nt
 given:∀ n o,zA C.given n=some o->n∈X.given
 ms:∀ n∈C.ms,n∈X.given
 defs:∀ n∈fJ C.defs,n∈X.given
def BM (C:Ctx) (Q:AB->St->Prop) (e:Exit) (a:Act) (w:World):Prop:=∃ E σ ae,Ga C E σ a w/\tj E ae e/\Q ae σ
def AWP (X:NA) (c:Code) (σ:St) (Q:AB->St->Prop):Prop :=
 ∀ C E a w,sO X C->Ga C E σ a w->c.wp X.P (BM C Q) a w
def TQ (next:St->Prop) (Q:AB->St->Prop):AB->St->Prop
 | .normal,σ=>next σ
 | e,σ=>Q e σ
def cJ (id:Nat) (Q:AB->St->Prop):AB->St->Prop
 | .exit i,σ=>if i=id then Q .normal σ else Q (.exit i) σ
 | e,σ=>Q e σ
def KZ (v:V) (yes no:Prop):Prop:=match v with
 | .pv (.bool b)=>(b=true->yes)/\(b=false->no)
 | .pv (.flg b)=>(b=true->yes)/\no
 | _=>False
theorem AWP.mono {X:NA} {c:Code} {σ:St} {Q Q':AB->St->Prop} (h:AWP X c σ Q) (hq:∀ e σ,Q e σ->Q' e σ):AWP X c σ Q' :=
 λ C E a w hC hG=>wp_mono (h C E a w hC hG) λ _ _ _ ⟨E',σ',ae,h1,h2,h3⟩=>⟨E',σ',ae,h1,h2,hq _ _ h3⟩
theorem AWP.seq {X:NA} {x y:Code} {σ:St} {Q:AB->St->Prop} (h:AWP X x σ (TQ (λ σ'=>AWP X y σ' Q) Q)):AWP X (.seq x y) σ Q:=by
 intro C E a w hC hG;refine wp_seq (wp_mono (h C E a w hC hG) ?_)
 rintro e a' w' ⟨E',σ',ae,hG',hr,hq⟩
 cases ae with
 | normal=>cases hr;exact hq C E' a' w' hC hG'
 | exit i=>cases hr;exact⟨E',σ',.exit i,hG',rfl,hq⟩
 | ret=>cases hr;exact⟨E',σ',.ret,hG',rfl,hq⟩
 | panic p=>obtain⟨v,rfl,hv⟩:=hr;exact⟨E',σ',.panic p,hG',⟨v,rfl,hv⟩,hq⟩
theorem AWP.block {X:NA} {id:Nat} {x:Code} {σ:St} {Q:AB->St->Prop} (h:AWP X x σ (cJ id Q)):AWP X (.block id x) σ Q:=by
 intro C E a w hC hG;refine wp_block (wp_mono (h C E a w hC hG) ?_)
 rintro e a' w' ⟨E',σ',ae,hG',hr,hq⟩
 cases ae with
 | normal=>cases hr;exact⟨E',σ',.normal,hG',rfl,hq⟩
 | exit i =>
  cases hr;simp only [cJ] at hq;simp only [Exit.inBlock];split
  ·rename_i e;rw [if_pos e] at hq;exact⟨E',σ',.normal,hG',rfl,hq⟩
  ·rename_i e;rw [if_neg e] at hq;exact⟨E',σ',.exit i,hG',rfl,hq⟩
 | ret=>cases hr;exact⟨E',σ',.ret,hG',rfl,hq⟩
 | panic p=>obtain⟨v,rfl,hv⟩:=hr;exact⟨E',σ',.panic p,hG',⟨v,rfl,hv⟩,hq⟩
def eJ:List Nat->List Nat->Prop
 | [],_=>True
 | n::r,u=>n∈u/\eJ r u
def aO:List (Nat × V)->List (Nat × V)->Prop
 | [],_=>True
 | (t,x)::r,l=>JA l t=x/\aO r l
def yH:List (Nat × V)->List Nat
 | []=>[]
 | (_,x)::r=>x.names++yH r
def zE:List (Nat × Ob)->List Nat
 | []=>[]
 | (n,o)::r=>n::o.names++zE r
structure Weak (X:NA) (σ τ:St):Prop where
 slots:aO τ.slots σ.slots
 objs:IC τ.objs σ.objs
 names:eJ (yH τ.slots++zE τ.objs++X.given) τ.used
theorem cO:∀ {l u:List Nat},eJ l u->∀ n∈l,n∈u
 | [],_,_,n,h=>by simp at h
 | k::r,u,hf,n,h=>by
  simp only [eJ] at hf;rcases List.mem_cons.1 h with rfl|h
  ·exact hf.1
  ·exact cO hf.2 n h
theorem LZ:∀ {l m:List (Nat × V)},aO l m->∀ t,JA l t = .undef\/JA l t=JA m t
 | [],_,_,t => .inl rfl
 | (k,x)::r,m,h,t=>by
  simp only [aO] at h;simp only [JA];split
  ·rename_i e;subst e;exact .inr h.1.symm
  ·exact LZ h.2 t
theorem MZ {l:List (Nat × V)} {t n:Nat} (h:n∈(JA l t).names):n∈yH l:=by
 induction l with
 | nil=>simp [JA,V.names] at h
 | cons p r ih =>
  obtain⟨k,x⟩:=p;simp only [JA] at h;simp only [yH,List.mem_append];split at h
  ·exact .inl h
  ·exact .inr (ih h)
theorem UQ {l:List (Nat × Ob)} {m:Nat} {o:Ob} (h:zA l m=some o):m∈zE l /\ ∀ n∈o.names,n∈zE l:=by
 induction l with
 | nil=>simp [zA] at h
 | cons p r ih =>
  obtain⟨k,x⟩:=p;simp only [zA] at h;split at h
  ·rename_i e;cases h;subst e;exact⟨by simp [zE],λ n hn=>by simp [zE,hn]⟩
  ·obtain⟨h1,h2⟩:=ih h;exact⟨by simp [zE,h1],λ n hn=>by simp [zE,h2 n hn]⟩
theorem Weak.ga {X:NA} {σ τ:St} (h:Weak X σ τ) {C:Ctx} (hC:sO X C) {E:Env} {a:Act} {w:World} (hG:Ga C E σ a w):Ga C E τ a w:=by
 have hs:=LZ h.slots;have ho:=nO h.objs;have hn:=cO h.names;refine⟨?_,hG.size,⟨hG.defers.1,λ n hm=>hn n (by simp [hC.defs n hm])⟩,hG.heap,λ n o hno=>hG.objs n o (ho n o hno),λ n m o o' hno hmo=>hG.apart n m o o' (ho n o hno) (ho m o' hmo),?_,?_,?_,hG.grown,hG.rest,hG.same,hG.hle,λ n o b hno=>hG.own n o b (ho n o hno),hG.ext,λ n hm=>⟨hn n (by simp [hC.ms n hm]),?_,(hG.keep n hm).2.2⟩⟩;rotate_left 4
 ·cases e:zA τ.objs n with
  | none=>rfl
  | some o =>
   have:=ho n o e;rw [(hG.keep n hm).2.1] at this;cases this
 ·intro t;rcases hs t with e|e
  ·rw [e];simp [RepV]
  ·rw [e];exact hG.slots t
 ·intro t n hnn;exact hn n (by simp [MZ hnn])
 ·intro n o hno;obtain⟨h1,h2⟩:=UQ hno;exact⟨hn n (by simp [h1]),λ m hm=>hn m (by simp [h2 m hm])⟩
 ·intro n o hno;exact hn n (by simp [hC.given n o hno])
end Go.Lg
