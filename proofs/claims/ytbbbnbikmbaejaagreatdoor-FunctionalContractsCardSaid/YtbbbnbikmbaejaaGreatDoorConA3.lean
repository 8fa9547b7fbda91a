/- The logic of contracts; no conditions. -/
import Derived.Test.YtbbbnbikmbaejaaGreatDoorConA2
import Derived.Laws.StructEq
import Derived.Laws.RangeString
import Derived.Laws.IdiomStrings
set_option linter.all false
namespace Go.Lg
section
variable {P:Program} {C:Ctx} {E:Env} {σ:St} {a:Act} {w:World} {gl:Nat→Option (List PV)} {o:Oper} {T:Nat→Option TI} {note:qXa}
theorem qAj (h:Ga C E σ a w) (hg:GOK gl C.E0.H) (hd:∀ d,o.dst=some d→d<C.nt) {f:Nat} {first caps:Array Operand} (ho:o.op = .makeFunc (.func f) first caps) {r:R} {ob:Nat→Option Ob}
  (hs:qQb T note (σ.val gl) ob o.dst (.makeFunc (.func f) first caps)=some r):Sound P C E σ a w o r:=by
 simp only [qQb] at hs
 split at hs
 ·rename_i h0
  cases hs
  have hf:first = #[]:=Array.eq_empty_of_size_eq_zero h0
  subst hf
  have hrep:∀ l:List Operand,RepVL E (l.map (σ.val gl)) (l.map a.eval):=by
   intro l
   induction l with
   | nil=>simp [RepVL]
   | cons x l ih=>grind [RepVL,qQd]
  have hmf:∀ (fn:Fn) (first cap:Array Value),(Instr.makeFunc fn first cap).run P w = .ok (.func fn first cap) w:=fun _ _ _=>rfl
  refine Sound.pure h (v:=.func (.func f) #[] (caps.toList.map a.eval).toArray) (.inl ?_) ?_ ?_ hd trivial
  ·have:Array.map a.eval caps=(List.map a.eval caps.toList).toArray:=by rw [← Array.toList_map]
   simp [execOp,ho,hmf,this]
  ·grind [RepV]
  ·intro n hn
   obtain⟨c,hc,hn⟩:=mem_namesL.1 hn
   grind [qQi]
 ·split at hs
  ·rename_i h0 h1
   cases hs
   have hf:caps = #[]:=Array.eq_empty_of_size_eq_zero h1
   subst hf
   have hrep:∀ l:List Operand,RepVL E (l.map (σ.val gl)) (l.map a.eval):=by
    intro l
    induction l with
    | nil=>simp [RepVL]
    | cons x l ih=>grind [RepVL,qQd]
   have hmf:∀ (fn:Fn) (first cap:Array Value),(Instr.makeFunc fn first cap).run P w = .ok (.func fn first cap) w:=fun _ _ _=>rfl
   refine Sound.pure h (v:=.func (.func f) (first.toList.map a.eval).toArray #[]) (.inl ?_) ?_ ?_ hd trivial
   ·have:Array.map a.eval first=(List.map a.eval first.toList).toArray:=by rw [← Array.toList_map]
    simp [execOp,ho,hmf,this]
   ·grind [RepV]
   ·intro n hn
    obtain⟨c,hc,hn⟩:=mem_namesL.1 hn
    grind [qQi]
  ·cases hs
theorem qBx (h:Ga C E σ a w) (hd:∀ d,o.dst=some d→d<C.nt) {t:Nat} (ho:o.op = .makeMap t none) {r:R} {ob:Nat→Option Ob} {val:Operand→V} (hc:r.cond)
  (hs:qQb T note val ob o.dst (.makeMap t none)=some r) (hn:∀ n x,r.wr=some (n,x)→r.new=true→n ∉ σ.used):Sound P C E σ a w o r:=by
 simp only [qQb] at hs
 split at hs
 ·rename_i n sk
  cases hs
  have hn:=hn n _ rfl rfl
  let E':Env:={ E with g:=fun m=>if m=n then .map (some w.heap.size) else E.g m }
  have hg':E'.g n = .map (some w.heap.size):=by simp [E']
  have hE:∀ m,m≠n→E'.g m=E.g m∧E'.ver m=E.ver m∧E'.sz m=E.sz m:=fun m hm=>⟨by grind,rfl,rfl⟩
  refine⟨.map (some w.heap.size),w.alloc (.map #[] 0),E',.inl ?_,?_,trivial⟩
  ·have:(Instr.makeMap t none).run P w = .ok (.map (some w.heap.size)) (w.alloc (.map #[] 0)):=rfl
   simp [execOp,ho,this]
  refine h.change (E':=E') n (some (.smap sk [])) (qKp σ.objs n (.smap sk [])) (n::σ.used) o.dst (.map n) _ (fun m=>qQm _ _ _ _) (Hle.refl _) hE (fun hk=>absurd hk hn) (fun hk=>absurd hk hn)
   (by simp) ⟨rfl,rfl,rfl⟩ (fun b hb _=>⟨heap_alloc_old w _ b hb,rfl⟩) (qZz h.heap _ E' rfl) ?_ ?_ (fun m hm=>by simp [hm]) ?_ ?_ hd
  ·intro o' e
   cases e
   exact⟨⟨w.heap.size,#[],0,hg',heap_alloc_new w _,h.heap.lt (Nat.le_refl _),by simp [EntsS],by simp [StampOK]⟩,by simp,by simp [Ob.names,qZm]⟩
  ·grind [blk]
  ·exact⟨_,hg',rfl⟩
  ·simp [V.names]
 ·rename_i n D F
  cases hs
  have hn:=hn n _ rfl rfl
  let E':Env:={ E with g:=fun m=>if m=n then .map (some w.heap.size) else E.g m }
  have hg':E'.g n = .map (some w.heap.size):=by simp [E']
  have hE:∀ m,m≠n→E'.g m=E.g m∧E'.ver m=E.ver m∧E'.sz m=E.sz m:=fun m hm=>⟨by simp [E',hm],rfl,rfl⟩
  refine⟨.map (some w.heap.size),w.alloc (.map #[] 0),E',.inl ?_,?_,trivial⟩
  ·have:(Instr.makeMap t none).run P w = .ok (.map (some w.heap.size)) (w.alloc (.map #[] 0)):=rfl
   simp [execOp,ho,this]
  refine h.change (E':=E') n (some (.cache D F)) (qKp σ.objs n (.cache D F)) (n::σ.used) o.dst (.map n) _ (fun m=>qQm _ _ _ _) (Hle.refl _) hE (fun hk=>absurd hk hn) (fun hk=>absurd hk hn)
   (by simp) ⟨rfl,rfl,rfl⟩ (fun b hb _=>⟨heap_alloc_old w _ b hb,rfl⟩) (qZz h.heap _ E' rfl) ?_ ?_ (fun m hm=>by simp [hm]) ?_ ?_ hd
  ·intro o' e
   cases e
   exact⟨⟨hc,w.heap.size,#[],0,hg',heap_alloc_new w _,h.heap.lt (Nat.le_refl _),by simp⟩,by simp,by simp [Ob.names]⟩
  ·intro o' b e hb
   rw [hg'] at hb
   simp [blk] at hb
   omega
  ·exact⟨_,hg',rfl⟩
  ·simp [V.names]
 ·cases hs
theorem qZd (w:World) (r b:Nat) (ob:Obj) (h:b≠r):({ w with heap:=w.heap.setIfInBounds r ob } : World).heap[b]? = w.heap[b]?:=by
 grind
def qW8 (w:World) (a:Addr):Prop:=∃ c T,w.heap[a.block]? = some (.cells c T (0,0))
theorem qP1 {a b:Addr} (ha:qW8 w a) (hb:qW8 w b):(sameAddr a b).run P w = .ok (decide (a=b)) w:=by
 obtain⟨ca,ta,ha⟩:=ha
 obtain⟨cb,tb,hb⟩:=hb
 by_cases hbl:a.block=b.block
 ·have:(a == b)=decide (a=b):=by by_cases e:a=b<;>simp [e]
  simp [sameAddr,hbl,this]
 ·have hne:¬ a=b:=fun e=>hbl (by rw [e])
  simp [sameAddr,hbl,World.frozen?,ha,hb,noView,viewAt,World.shape?,mayBeOne,stringish,hne]
theorem zQj {kt e:Nat} {i:TypeInfo} (hk:P.underlying kt=some (.pointer e)) (hi:P.info? e=some i) (hs:i.size≠0) {x y:Addr} (hx:qW8 w x) (hy:qW8 w y) :
  (Op.equal kt (.pointer (some x)) (.pointer (some y))).run P w = .ok (decide (x=y)) w:=by
 refine qQr fun d => ?_
 simp [Op.equalIn,run_underlying hk,sizeOf,typeInfo,hi,hs,qP1 hx hy]
theorem qYj {kt e:Nat} {i:TypeInfo} (hk:P.underlying kt=some (.pointer e)) (hi:P.info? e=some i) (hs:i.size≠0) {x:Addr} (hx:qW8 w x):∀ (es:List MapEntry) (k:Nat),(∀ e∈es,∃ b,e.key = .pointer (some b)∧qW8 w b) →
  ∃ r,(Instr.findAsking kt (.pointer (some x)) es k).run P w = .ok r w ∧ ∀ j v,r=some (j,v)→∃ e,k≤j∧es[j-k]? = some e∧e.key = .pointer (some x)∧e.val=v
 | [],k,_=>⟨none,rfl,fun j v e=>by cases e⟩
 | m::es,k,h=>by
  obtain⟨b,hb,hok⟩:=h m (by simp)
  unfold Instr.findAsking
  simp only [Sem.run_bind,hb,zQj hk hi hs hx hok,Result.andThen_ok]
  by_cases hxb:x=b
  ·subst hxb
   refine⟨some (k,m.val),by simp,?_⟩
   intro j v e
   cases e
   exact⟨m,Nat.le_refl _,by simp,hb,rfl⟩
  ·obtain⟨r,hr,hp⟩:=qYj hk hi hs hx es (k+1) (fun e he=>h e (by simp [he]))
   refine⟨r,by simp [hxb,hr],?_⟩
   intro j v e
   obtain⟨e',h1,h2,h3⟩:=hp j v e
   refine⟨e',by omega,?_,h3⟩
   have:j-k=(j-(k+1))+1:=by omega
   rw [this]
   simpa using h2
theorem qHa {kt e:Nat} {i:TypeInfo} (hk:P.underlying kt=some (.pointer e)) (hi:P.info? e=some i) (hs:i.size≠0) {x:Addr} (hx:qW8 w x) (es:List MapEntry) (h:∀ e∈es,∃ b,e.key = .pointer (some b)∧qW8 w b) :
  ∃ r,(Instr.findKey kt (.pointer (some x)) es).run P w = .ok r w ∧ ∀ j v,r=some (j,v)→∃ e,es[j]? = some e∧e.key = .pointer (some x)∧e.val=v:=by
 unfold Instr.findKey
 simp only [Sem.run_bind,run_underlying hk,Result.andThen_ok]
 cases es with
 | nil=>exact⟨none,rfl,fun j v e=>by cases e⟩
 | cons m es =>
  obtain⟨r,hr,hp⟩:=qYj hk hi hs hx (m::es) 0 h
  refine⟨r,?_,fun j v e => ?_⟩
  ·simp only [Instr.findNow,Instr.sameNow]
   exact hr
  ·obtain⟨e',_,h2,h3⟩:=hp j v e
   exact⟨e',by simpa using h2,h3⟩
theorem qW9 (hh:HeapOK E w) {x off:Nat} {v:Value} (hv:v∈E.H x) (hn:∀ k n,v ≠ .int k n):qW8 w ⟨x,off,none⟩:=by
 obtain⟨c,T,fr,hc,_,hfr⟩:=hh x (List.ne_nil_of_mem hv)
 rcases hfr with rfl|hfr
 ·exact⟨c,T,hc⟩
 ·obtain⟨k,n,e,_⟩:=hfr v hv
  exact absurd e (hn k n)
theorem qA0 {H:Hp} : ∀ {ks:List PV} {vs:List Value},RepL H ks vs→ks.any PV.nonint=true→∃ v∈vs,∀ k n,v ≠ .int k n
 | [],_,_,h=>by simp at h
 | k::ks,[],r,_=>by simp [RepL] at r
 | k::ks,v::vs,r,h=>by
  simp only [RepL] at r
  simp only [List.any_cons,Bool.or_eq_true] at h
  rcases h with h|h
  ·refine⟨v,by simp,?_⟩
   intro kk n e
   subst e
   cases k<;>simp [PV.nonint] at h<;>simp [RepP] at r
  ·obtain⟨u,hu,hn⟩:=qA0 r.2 h
   exact⟨u,by simp [hu],hn⟩
theorem qL9 {H:Hp} {ks:List PV} {v:Value} (hr:RepP H (.ptr ks) v) (hn:ks.any PV.nonint=true):∃ x off u,v = .pointer (some ⟨x,off,none⟩)∧u∈H x ∧ ∀ k n,u ≠ .int k n:=by
 simp only [RepP] at hr
 obtain⟨b,off,hv,hr⟩:=hr
 obtain⟨u,hu,hn⟩:=qA0 hr hn
 exact⟨b,off,u,hv,List.mem_of_mem_drop hu,hn⟩
theorem qZj {kt e:Nat} (hk:P.underlying kt=some (.pointer e)) (emp:Bool) (v:Value):(Instr.checkKey emp 10000 kt v).run P w = .ok () w:=by
 have:(10000:Nat)=9999+1:=rfl
 rw [this]
 unfold Instr.checkKey
 simp only [Sem.run_bind,run_underlying hk,Result.andThen_ok]
 rfl
def zWd (E:Env) (D:PV→Prop) (F:PV→PV) (e:MapEntry):Prop :=
 ∃ p,D p∧RepP E.H p e.key∧RepP E.H (F p) e.val ∧ ∃ x off v,e.key = .pointer (some ⟨x,off,none⟩)∧v∈E.H x ∧ ∀ k n,v ≠ .int k n
def kdS (s:Bool):TypeDesc:=match s with
 | true => .string
 | false => .int .i64
theorem qMa {x y:List Nat} (hx:∀ b∈x,b<256) (hy:∀ b∈y,b<256):((⟨(x.map UInt8.ofNat).toArray⟩:ByteArray) == ⟨(y.map UInt8.ofNat).toArray⟩)=eqL x y:=by
 rw [beq_toListBytes,ByteArray.toList_mk,ByteArray.toList_mk,qDo hx hy]
theorem qMb {a b:SK} {s:Bool} (ha:a.kind=s) (hb:b.kind=s) (oa:a.ok) (ob:b.ok):Instr.sameNow (kdS s) a.v b.v=some (SK.eqB a b):=by
 subst ha
 cases a with
 | int n =>
  cases b with
  | int m =>
   rfl
  | str y=>cases hb
 | str x =>
  cases b with
  | int m=>cases hb
  | str y =>
   simp only [SK.kind,kdS,SK.v,Instr.sameNow,SK.eqB,qMa oa ob]
theorem qYk {s:Bool} {a:SK} (ha:a.kind=s) (oa:a.ok) {E:Env} : ∀ (es:List (SK × V)) (ms:List MapEntry) (i:Nat),EntsS E s es ms →
  (qG7 es a=none→Instr.findNow (kdS s) a.v ms i=some none∧qFk es a=fun x=>es++[(a,x)]) ∧
  (∀ x,qG7 es a=some x→∃ j e,Instr.findNow (kdS s) a.v ms i=some (some (i+j,e.val))∧ms[j]? = some e∧e.key=a.v∧RepV E x e.val ∧ ∀ y v,RepV E y v→EntsS E s (qFk es a y) (ms.modify j fun e => { e with key:=a.v,val:=v }))
 | [],[],i,_=>by
  refine⟨fun _=>⟨rfl,by funext p;rfl⟩,fun p h=>by cases h⟩
 | (k0,p0)::es,m::ms,i,r=>by
  have ih:=qYk ha oa es ms (i+1) r.2
  have hsame:=qMb ha r.1.2.1 oa r.1.2.2.1
  cases e:SK.eqB a k0 with
  | true =>
   have e':=(SK.eqB_iff a k0).1 e
   refine⟨fun h=>by grind [qG7],fun x h => ?_⟩
   simp only [qG7,e,cond_true,Option.some.injEq] at h
   subst h
   refine⟨0,m,?_,rfl,by rw [e'];exact r.1.1,r.1.2.2.2,fun y v hy => ?_⟩
   ·unfold Instr.findNow
    rw [r.1.1,hsame,e]
    rfl
   ·simp only [qFk,e,cond_true,List.modify_zero_cons]
    exact⟨⟨rfl,ha,oa,hy⟩,r.2⟩
  | false =>
   refine⟨fun h => ?_,fun x h => ?_⟩
   ·simp only [qG7,e,cond_false] at h
    obtain⟨h1,h2⟩:=ih.1 h
    refine⟨?_,?_⟩
    ·unfold Instr.findNow
     rw [r.1.1,hsame,e]
     exact h1
    ·funext x
     simp only [qFk,e,cond_false,h2]
     rfl
   ·simp only [qG7,e,cond_false] at h
    obtain⟨j,e',h1,h2,h3,h4,h5⟩:=ih.2 x h
    refine⟨j+1,e',?_,by simpa using h2,h3,h4,fun y v hy => ?_⟩
    ·unfold Instr.findNow
     rw [r.1.1,hsame,e]
     simp only [h1]
     congr 3
     omega
    ·simp only [qFk,e,cond_false,List.modify_succ_cons]
     exact⟨r.1,h5 y v hy⟩
 | [],_::_,_,r=>r.elim
 | (_,_)::_,[],_,r=>r.elim
theorem EntsS.app {E:Env} {s:Bool} {k:SK} {x:V} {v:Value} {c:Nat} (hk:k.kind=s) (ho:k.ok) (hv:RepV E x v):∀ {es:List (SK × V)} {ms:List MapEntry},EntsS E s es ms→EntsS E s (es++[(k,x)]) (ms++[⟨k.v,v,c⟩])
 | [],[],_=>⟨⟨rfl,hk,ho,hv⟩,trivial⟩
 | (_,_)::_,_::_,r=>⟨r.1,EntsS.app hk ho hv r.2⟩
 | [],_::_,r=>r.elim
 | (_,_)::_,[],r=>r.elim
theorem qA1 {a:SK} {x:V} : ∀ {es:List (SK × V)} {n:Nat},n∈qZm (qFk es a x)→n∈x.names∨n∈qZm es
 | [],n,h=>by grind [qFk,qZm]
 | (k,y)::r,n,h=>by
  unfold qFk at h
  cases e:SK.eqB a k with
  | true =>
   rw [e] at h
   simp only [cond_true,qZm,List.mem_append] at h ⊢
   grind
  | false =>
   rw [e] at h
   simp only [cond_false,qZm,List.mem_append] at h ⊢
   rcases h with h|h
   ·exact .inr (.inl h)
   ·rcases qA1 h with h|h
    ·exact .inl h
    ·exact .inr (.inr h)
theorem qIq {a:SK} {x:V} : ∀ {es:List (SK × V)},qG7 es a=some x→∀ n∈x.names,n∈qZm es
 := by intro x;induction x<;>grind [qG7,SK.eqB,qZm]
theorem qMc {E:Env} {k:V} {a:SK} {v:Value} (h:zVo k=some a) (hr:RepV E k v):v=a.v∧a.ok:=by
 unfold zVo at h
 split at h
 ·cases h;exact⟨by grind [RepV,RepP,SK.v],trivial⟩
 ·cases h;exact⟨hr.1,hr.2⟩
 ·cases h
theorem qIr (a:SK) (ho:a.ok):Instr.sameBits 10000 a.v a.v=true:=by
 cases a with
 | int n=>simp [SK.v,Instr.sameBits]
 | str l=>simp only [SK.v,Instr.sameBits,qMa ho ho];exact (qYa l l).2 rfl
theorem qA2 {kt:Nat} {s:Bool} (hu:P.underlying kt=some (kdS s)) (b:Bool) (v:Value):(Instr.checkKey b 10000 kt v).run P w = .ok () w:=by
 unfold Instr.checkKey
 cases s<;>simp only [kdS] at hu<;>simp [Sem.run_bind,run_underlying hu]
theorem qKa {kt:Nat} {s:Bool} (hu:P.underlying kt=some (kdS s)) {v:Value} {ms:List MapEntry} {q:Option (Nat × Value)} (h:Instr.findNow (kdS s) v ms 0=some q):(Instr.findKey kt v ms).run P w = .ok q w:=by
 unfold Instr.findKey
 simp only [Sem.run_bind,run_underlying hu,Result.andThen_ok,h]
 rfl
theorem StampOK.push {ms:List MapEntry} {ck:Nat} (h:StampOK ms ck) (k v:Value):StampOK (ms++[⟨k,v,ck⟩]) (ck+1):=by
 refine⟨fun x hx => ?_,?_⟩
 ·rcases List.mem_append.1 hx with hx|hx
  ·exact Nat.lt_succ_of_lt (h.1 x hx)
  simp_all
 ·rw [List.map_append,List.nodup_append]
  refine⟨h.2,by simp,fun a ha b hb => ?_⟩
  obtain⟨x,hx,rfl⟩:=List.mem_map.1 ha
  simp at hb
  subst hb
  exact Nat.ne_of_lt (h.1 x hx)
theorem qA3 {f:MapEntry→MapEntry} (hf:∀ e,(f e).born=e.born):∀ (l:List MapEntry) (j:Nat),(l.modify j f).map (·.born)=l.map (·.born)
 := by intro x;induction x<;>grind []
theorem StampOK.modify {ms:List MapEntry} {ck:Nat} (h:StampOK ms ck) (j:Nat) (f:MapEntry→MapEntry) (hf:∀ e,(f e).born=e.born):StampOK (ms.modify j f) ck:=by
 refine⟨fun x hx => ?_,by rw [qA3 hf];exact h.2⟩
 have:x.born∈(ms.modify j f).map (·.born):=List.mem_map.2 ⟨x,hx,rfl⟩
 rw [qA3 hf] at this
 obtain⟨y,hy,e⟩:=List.mem_map.1 this
 rw [← e]
 exact h.1 y hy
theorem qKb (h:Ga C E σ a w) (hg:GOK gl C.E0.H) {t kt vt:Nat} {s:Bool} {m k v:Operand} (hde:P.underlying t=some (.map kt vt)) (hu:P.underlying kt=some (kdS s)) (ho:o.op = .mapUpdate t m k v∨o.op = .insert t m k v) (hdst:o.dst=none) {r:R} (hc:r.cond)
  (hs:qQ0 s (qQc σ.objs) (σ.val gl m) (σ.val gl k) (σ.val gl v)=some r):Sound P C E σ a w o r:=by
 have hm:=qQd h hg m
 have hk:=qQd h hg k
 have hv:=qQd h hg v
 have nv:=qQi (gl:=gl) h v
 unfold qQ0 at hs
 split at hs
 ·rename_i n ak em ek
  rw [em] at hm
  obtain⟨hkv,hok⟩:=qMc ek hk
  split at hs
  ·rename_i s' es eo
   cases hs
   obtain⟨rfl,hkind⟩:=hc
   simp only [RepV] at hm
   obtain⟨b,hgn,hmv⟩:=hm
   obtain⟨b',ms,ck,hgn',hcell,hfree,hents,hst⟩:=h.objs n _ eo
   rw [hgn] at hgn'
   cases hgn'
   obtain⟨hf1,hf2⟩:=qYk hkind hok es ms.toList 0 hents
   have key:∀ ms' ck',EntsS E s' (qFk es ak (σ.val gl v)) ms'.toList→StampOK ms'.toList ck'→(Instr.mapUpdate t (a.eval m) (a.eval k) (a.eval v)).run P w = .ok () { w with heap:=w.heap.setIfInBounds b (.map ms' ck') } →
     Sound P C E σ a w o ⟨s'=s'∧ak.kind=s',True,.undef,some (n,.smap s' (qFk es ak (σ.val gl v))),false⟩:=by
    intro ms' ck' hents' hst' hr
    refine⟨undef,{ w with heap:=w.heap.setIfInBounds b (.map ms' ck') },E,.inr ⟨?_,rfl⟩,?_,trivial⟩
    ·rcases ho with ho|ho<;>simp only [execOp,ho,Sem.run_bind,hr,Result.andThen_ok]<;>rfl
    have hbl:b<w.heap.size:=(Array.getElem?_eq_some_iff.1 hcell).1
    refine h.change (E':=E) n (some (.smap s' (qFk es ak (σ.val gl v)))) (qKp σ.objs n (.smap s' (qFk es ak (σ.val gl v)))) σ.used o.dst .undef undef (fun m=>qQm _ _ _ _) (Hle.refl _) (fun _ _=>⟨rfl,rfl,rfl⟩) (fun _=>EExt.refl _ _) (fun _=>⟨_,eo⟩) (by simp) ⟨rfl,rfl,rfl⟩
     (fun b1 hlt hne=>⟨qZd w b b1 _ (fun e=>hne _ eo (by rw [e,hgn];rfl)),rfl⟩) ?_ ?_ ?_ (fun _ h=>h) (by simp [RepV]) (by simp [V.names]) (by rw [hdst];simp)
    ·intro b1 hb1
     have:b1≠b:=fun e=>hb1 (e ▸ hfree)
     obtain⟨c,T',fr,hc,hp⟩:=h.heap b1 hb1
     grind
    ·intro o' e
     cases e
     refine⟨⟨b,ms',ck',hgn,by simp [hbl],hfree,hents',hst'⟩,(h.usedO n _ eo).1,fun q hq => ?_⟩
     rcases qA1 hq with hq|hq
     ·simp_all
     ·exact (h.usedO n _ eo).2 q hq
    simp_all
   have hget:(getObj b).run P w = .ok (.map ms ck) w:=by simp [getObj,Sem.run,hcell]
   have hset:∀ ob:Obj,(setObj b ob).run P w = .ok () { w with heap:=w.heap.setIfInBounds b ob }:=by intro ob;simp [setObj,Sem.run,hcell]
   have hck:=fun c v=>qA2 (w:=w) hu c v
   cases hg1:qG7 es ak with
   | none =>
    obtain⟨h1,h2⟩:=hf1 hg1
    have hfk:=qKa (w:=w) hu h1
    refine key (ms.push ⟨ak.v,a.eval v,ck⟩) (ck+1) ?_ ?_ ?_
    ·rw [h2]
     simp only [Array.toList_push]
     exact hents.app hkind hok hv
    ·simp only [Array.toList_push]
     exact hst.push _ _
    ·unfold Instr.mapUpdate
     simp only [Sem.run_bind,run_underlying hde,Result.andThen_ok,hmv,hget,hkv,hck,hfk,hset]
   | some q =>
    obtain⟨j,e0,h1,h2,h3,h4,h5⟩:=hf2 q hg1
    rw [Nat.zero_add] at h1
    have hfk:=qKa (w:=w) hu h1
    refine key (ms.modify j fun e => { e with key:=ak.v,val:=a.eval v }) ck ?_ ?_ ?_
    ·rw [Array.toList_modify]
     exact h5 _ _ hv
    ·rw [Array.toList_modify]
     exact hst.modify j _ fun _=>rfl
    ·have hkk:((ms[j]?).map (·.key)).getD ak.v=ak.v:=by
      have:ms[j]? = some e0:=by simpa using h2
      rw [this]
      simpa using h3
     unfold Instr.mapUpdate
     simp only [Sem.run_bind,run_underlying hde,Result.andThen_ok,hmv,hget,hkv,hck,hfk,hkk,Instr.keyThatStays,qIr _ hok]
     simp [hset]
  ·cases hs
 ·cases hs
theorem qF0 (h:Ga C E σ a w) (hg:GOK gl C.E0.H) (hd:∀ d,o.dst=some d→d<C.nt) {t kt vt:Nat} {s ok:Bool} {m k:Operand} (hde:P.underlying t=some (.map kt vt)) (hu:P.underlying kt=some (kdS s)) (ho:o.op = .lookup t m k ok) {r:R} (hc:r.cond)
  {ti:TI} (hv:TIOK P vt ti) {z:PV} (ez:qVm ti=some z) (hs:qZy s ok z (qQc σ.objs) (σ.val gl m) (σ.val gl k)=some r):Sound P C E σ a w o r:=by
 have hm:=qQd h hg m
 have hk:=qQd h hg k
 unfold qZy at hs
 split at hs
 ·rename_i n ak em ek
  rw [em] at hm
  obtain⟨hkv,hok⟩:=qMc ek hk
  split at hs
  ·rename_i s' es eo
   cases hs
   obtain⟨rfl,hkind⟩:=hc
   simp only [RepV] at hm
   obtain⟨b,hgn,hmv⟩:=hm
   obtain⟨b',ms,ck,hgn',hcell,hfree,hents,_⟩:=h.objs n _ eo
   rw [hgn] at hgn'
   cases hgn'
   obtain⟨hf1,hf2⟩:=qYk hkind hok es ms.toList 0 hents
   have hget:(getObj b).run P w = .ok (.map ms ck) w:=by simp [getObj,Sem.run,hcell]
   have hck:=fun c v=>qA2 (w:=w) hu c v
   have hz:RepP E.H z ti.zero:=qKu hv ez E.H
   have fin:∀ (u:Value) (x:V) (c:Bool),RepV E x u→(∀ n∈x.names,n∈σ.used)→(Instr.lookup t (a.eval m) (a.eval k) ok).run P w = .ok (if ok then .tuple #[u,.bool c] else u) w →
     Sound P C E σ a w o ⟨s'=s'∧ak.kind=s',True,(match ok with|true => .tuple [x,.pv (.bool c)]|false=>x),.none,false⟩:=by
    intro u x c hx hn hr
    cases ok with
    | true =>
     refine Sound.pure h (v:=.tuple #[u,.bool c]) (.inl ?_) ?_ (by grind [V.names,qQg]) hd trivial
     ·simp only [execOp,ho,Sem.run_bind,hr,Result.andThen_ok];rfl
     ·simp only [RepV]
      exact⟨[u,.bool c],rfl,by simp,by simp only [RepVL];exact⟨hx,by rfl,trivial⟩⟩
    | false =>
     refine Sound.pure h (v:=u) (.inl ?_) hx hn hd trivial
     simp only [execOp,ho,Sem.run_bind,hr,Result.andThen_ok];rfl
   cases hg1:qG7 es ak with
   | none =>
    obtain⟨h1,_⟩:=hf1 hg1
    have hfk:=qKa (w:=w) hu h1
    have hr:(Instr.lookup t (a.eval m) (a.eval k) ok).run P w = .ok (if ok then .tuple #[ti.zero,.bool false] else ti.zero) w:=by
     unfold Instr.lookup
     simp only [Sem.run_bind,run_underlying hde,Result.andThen_ok,hmv,hget,hkv]
     cases ok<;>simp [hck,hfk,hv.run_zero]
    have:=fin ti.zero (.pv z) false (by simpa only [RepV] using hz) (by simp [V.names]) hr
    cases ok with
    | true =>
     exact Sound.pure h (v:=.tuple #[ti.zero,.bool false]) (.inl (by simp only [execOp,ho,Sem.run_bind,hr,Result.andThen_ok];rfl)) (by
      exact⟨[ti.zero,.bool false],rfl,by simp,by simp only [RepL,RepP];exact⟨hz,by simp⟩⟩) (by simp [V.names]) hd trivial
    | false=>exact this
   | some x =>
    obtain⟨j,e0,h1,h2,h3,h4,_⟩:=hf2 x hg1
    have hfk:=qKa (w:=w) hu h1
    have hr:(Instr.lookup t (a.eval m) (a.eval k) ok).run P w = .ok (if ok then .tuple #[e0.val,.bool true] else e0.val) w:=by
     unfold Instr.lookup
     simp only [Sem.run_bind,run_underlying hde,Result.andThen_ok,hmv,hget,hkv]
     cases ok<;>simp [hck,hfk]
    have:=fin e0.val x true h4 (fun q hq=>(h.usedO n _ eo).2 q (qIq hg1 q hq)) hr
    cases ok with
    | true=>exact this
    | false=>exact this
  ·cases hs
 ·cases hs
theorem qYl (h:Ga C E σ a w) (hg:GOK gl C.E0.H) (hT:TOK P T) {t:Nat} {m k v:Operand} (ho:o.op = .mapUpdate t m k v) {r:R} (hc:r.cond)
  (hs:qQb T note (σ.val gl) (qQc σ.objs) o.dst (.mapUpdate t m k v)=some r):Sound P C E σ a w o r:=by
 have hm:=qQd h hg m
 have hk:=qQd h hg k
 have hv:=qQd h hg v
 simp only [qQb] at hs
 split at hs
 ·rename_i kt vt sk s1 s2 s3 s4 hdst et
  obtain⟨d,hde,hkk⟩:=(hT t _ et).desc
  obtain⟨rfl,hu⟩:=hkk
  exact qKb h hg hde (by cases sk<;>exact hu) (.inl ho) hdst hc hs
 ·rename_i kt vt s1 s2 s3 s4 hdst et
  obtain⟨d,hde,hkk⟩:=(hT t _ et).desc
  simp only [qK9] at hkk
  obtain⟨rfl,e,hu,hei⟩:=hkk
  obtain⟨i,hi,hsz⟩:=qG5 hei
  unfold qZ8 at hs
  split at hs
  ·rename_i n ks cs em ek ev
   rw [em] at hm;rw [ek] at hk;rw [ev] at hv
   split at hs
   ·rename_i D F eo
    cases hs
    obtain⟨hD,hF,hni⟩:=hc
    simp only [RepV] at hm hk hv
    obtain⟨b,hgn,hmv⟩:=hm
    obtain⟨hcoh,b',es,ck,hgn',hcell,hfree,hes⟩:=h.objs n _ eo
    rw [hgn] at hgn'
    cases hgn'
    obtain⟨x,off,u,hkv,hux,hun⟩:=qL9 hk hni
    have hok:=qW9 (off:=off) h.heap hux hun
    obtain⟨rr,hrun,hfound⟩:=qHa hu hi hsz hok es.toList (by
     intro e he
     obtain⟨p,_,_,_,y,off',u',hy,hy1,hy2⟩:=hes e (by simpa using he)
     exact⟨_,hy,qW9 h.heap hy1 hy2⟩)
    have hnew:zWd E D F ⟨a.eval k,a.eval v,ck⟩:=⟨.ptr ks,hD,hk,by rw [← hF];exact hv,x,off,u,hkv,hux,hun⟩
    have key:∀ es' ck',(∀ e∈es',zWd E D F e)→(Instr.mapUpdate t (a.eval m) (a.eval k) (a.eval v)).run P w = .ok () { w with heap:=w.heap.setIfInBounds b (.map es' ck') } →
      Sound P C E σ a w o ⟨D (.ptr ks)∧cs=F (.ptr ks)∧ks.any PV.nonint=true,True,.undef,some (n,.cache D F),false⟩:=by
     intro es' ck' hes' hr
     refine⟨undef,{ w with heap:=w.heap.setIfInBounds b (.map es' ck') },E,.inr ⟨?_,rfl⟩,?_,trivial⟩
     ·simp only [execOp,ho,Sem.run_bind,hr,Result.andThen_ok]
      rfl
     have hbl:b<w.heap.size:=(Array.getElem?_eq_some_iff.1 hcell).1
     refine h.change (E':=E) n (some (.cache D F)) (qKp σ.objs n (.cache D F)) σ.used o.dst .undef undef (fun m=>qQm _ _ _ _) (Hle.refl _) (fun _ _=>⟨rfl,rfl,rfl⟩) (fun _=>EExt.refl _ _) (fun _=>⟨_,eo⟩) (by simp) ⟨rfl,rfl,rfl⟩
      (fun b1 hlt hne=>⟨qZd w b b1 _ (fun e=>hne _ eo (by rw [e,hgn];rfl)),rfl⟩) ?_ ?_ ?_ (fun _ h=>h) (by simp [RepV]) (by simp [V.names]) (by rw [hdst];simp)
     ·intro b1 hb1
      have:b1≠b:=fun e=>hb1 (e ▸ hfree)
      obtain⟨c,T',fr,hc,hp⟩:=h.heap b1 hb1
      exact⟨c,T',fr,by rw [qZd w b b1 _ this];exact hc,hp⟩
     ·intro o' e
      cases e
      exact⟨⟨hcoh,b,es',ck',hgn,by simp [hbl],hfree,hes'⟩,h.usedO n _ eo⟩
     ·intro o' b1 e hb1
      exact .inr ⟨hb1,_,eo⟩
    have hget:(getObj b).run P w = .ok (.map es ck) w:=by simp [getObj,Sem.run,hcell]
    have hset:∀ ob:Obj,(setObj b ob).run P w = .ok () { w with heap:=w.heap.setIfInBounds b ob }:=by intro ob;simp [setObj,Sem.run,hcell]
    cases hrr:rr with
    | none =>
     subst hrr
     refine key (es.push ⟨a.eval k,a.eval v,ck⟩) (ck+1) ?_ ?_
     ·intro e he
      rcases Array.mem_push.1 he with he|rfl
      ·exact hes e he
      ·exact hnew
     ·unfold Instr.mapUpdate
      simp only [Sem.run_bind,run_underlying hde,Result.andThen_ok,hmv,hget,hkv,qZj hu,hrun,hset]
    | some q =>
     obtain⟨j,v0⟩:=q
     subst hrr
     obtain⟨e0,he0,hk0,_⟩:=hfound j v0 rfl
     refine key (es.modify j fun e => { e with key:=a.eval k,val:=a.eval v }) ck ?_ ?_
     ·intro e he
      obtain⟨q,hq,heq⟩:=Array.getElem_of_mem he
      rw [Array.getElem_modify] at heq
      split at heq
      ·subst heq
       obtain⟨p,h1,h2,h3,x',off',v',h4,h5,h6⟩:=hnew
       exact⟨p,h1,h2,h3,x',off',v',h4,h5,h6⟩
      ·subst heq
       exact hes _ (Array.getElem_mem _)
     ·have hkk:((es[j]?).map (·.key)).getD (Value.pointer (some ⟨x,off,none⟩)) = .pointer (some ⟨x,off,none⟩):=by
       have:es[j]? = some e0:=by simpa using he0
       rw [this]
       simpa using hk0
      unfold Instr.mapUpdate
      simp only [Sem.run_bind,run_underlying hde,Result.andThen_ok,hmv,hget,hkv,qZj hu,hrun,hset,hkk,Instr.keyThatStays,Instr.sameBits]
      simp [hset]
   ·cases hs
  ·cases hs
 ·cases hs
theorem qDw (h:Ga C E σ a w) (hg:GOK gl C.E0.H) (hT:TOK P T) {t:Nat} {m k v:Operand} (ho:o.op = .insert t m k v) {r:R} (hc:r.cond)
  (hs:qQb T note (σ.val gl) (qQc σ.objs) o.dst (.insert t m k v)=some r):Sound P C E σ a w o r:=by
 simp only [qQb] at hs
 split at hs
 ·rename_i kt vt sk s1 s2 s3 s4 hdst et
  obtain⟨d,hde,hkk⟩:=(hT t _ et).desc
  obtain⟨rfl,hu⟩:=hkk
  exact qKb h hg hde (by cases sk<;>exact hu) (.inr ho) hdst hc hs
 ·cases hs
theorem qIs {t kt vt:Nat} (hde:P.underlying t=some (.map kt vt)) {e:Nat} {i:TypeInfo} (hu:P.underlying kt=some (.pointer e)) (hi:P.info? e=some i) (hsz:i.size≠0) {tv:TI} (hv:TIOK P vt tv)
  (h:Ga C E σ a w) {n:Nat} {D:PV→Prop} {F:PV→PV} (eo:qQc σ.objs n=some (.cache D F)) {m k:Value} (hm:RepV E (.map n) m) {ks:List PV} (hk:RepP E.H (.ptr ks) k) (hni:ks.any PV.nonint=true) :
  Coh D F ∧ ∃ u b,(Instr.lookup t m k true).run P w = .ok (.tuple #[u,.bool b]) w∧(b=true→∃ p,D p∧RepP E.H p k∧RepP E.H (F p) u)∧(b=false→u=tv.zero):=by
 simp only [RepV] at hm
 obtain⟨b,hgn,hmv⟩:=hm
 obtain⟨hcoh,b',es,ck,hgn',hcell,hfree,hes⟩:=h.objs n _ eo
 rw [hgn] at hgn'
 cases hgn'
 obtain⟨x,off,u,hkv,hux,hun⟩:=qL9 hk hni
 have hok:=qW9 (off:=off) h.heap hux hun
 obtain⟨rr,hrun,hfound⟩:=qHa hu hi hsz hok es.toList (by
  intro e he
  obtain⟨p,_,_,_,y,off',u',hy,hy1,hy2⟩:=hes e (by simpa using he)
  exact⟨_,hy,qW9 h.heap hy1 hy2⟩)
 have hget:(getObj b).run P w = .ok (.map es ck) w:=by simp [getObj,Sem.run,hcell]
 cases hrr:rr with
 | none =>
  subst hrr
  refine⟨hcoh,tv.zero,false,?_,by simp,fun _=>rfl⟩
  unfold Instr.lookup
  simp only [Sem.run_bind,run_underlying hde,Result.andThen_ok,hmv,hget,hkv,qZj hu,hrun,hv.run_zero]
  simp [qZj hu,hrun,hv.run_zero]
 | some q =>
  obtain⟨j,v0⟩:=q
  subst hrr
  obtain⟨e0,he0,hk0,hv0⟩:=hfound j v0 rfl
  refine⟨hcoh,v0,true,?_,fun _ => ?_,by simp⟩
  ·unfold Instr.lookup
   simp only [Sem.run_bind,run_underlying hde,Result.andThen_ok,hmv,hget,hkv,qZj hu,hrun]
   simp [qZj hu,hrun]
  ·obtain⟨p,hp,hpk,hpv,_⟩:=hes e0 (by have:=List.mem_of_getElem? he0;simpa using this)
   exact⟨p,hp,by rw [hkv,← hk0];exact hpk,by rw [← hv0];exact hpv⟩
theorem qF1 (h:Ga C E σ a w) (hg:GOK gl C.E0.H) (hd:∀ d,o.dst=some d→d<C.nt) (hT:TOK P T) {t:Nat} {m k:Operand} {ok:Bool} (ho:o.op = .lookup t m k ok) {r:R} (hc:r.cond)
  (hs:qQb T note (σ.val gl) (qQc σ.objs) o.dst (.lookup t m k ok)=some r):Sound P C E σ a w o r:=by
 simp only [qQb] at hs
 split at hs
 ·rename_i kt vt sk s1 s2 s3 s4 et
  obtain⟨d,hde,hkk⟩:=(hT t _ et).desc
  obtain⟨rfl,hu⟩:=hkk
  split at hs
  ·rename_i tv evt
   have hv:=hT vt _ evt
   split at hs
   ·rename_i z ez
    exact qF0 h hg hd hde (by cases sk<;>exact hu) ho hc hv ez hs
   ·cases hs
  ·cases hs
 ·cases hs
theorem qF2 (h:Ga C E σ a w) (hg:GOK gl C.E0.H) (hd:∀ d,o.dst=some d→d<C.nt) (hT:TOK P T) {t:Nat} {x:Operand} (ho:o.op = .range t x) {r:R}
  (hs:qQb T note (σ.val gl) (qQc σ.objs) o.dst (.range t x)=some r) (hn:∀ n x,r.wr=some (n,x)→r.new=true→n ∉ σ.used):Sound P C E σ a w o r:=by
 have hx:=qQd h hg x
 simp only [qQb] at hs
 split at hs
 ·rename_i s1 s2 s3 s4 et
  obtain⟨d,hde,hk⟩:=(hT t _ et).desc
  subst hk
  unfold qYe at hs
  split at hs
  ·rename_i n l ex
   rw [ex] at hx
   cases hs
   have hn:=hn n _ rfl rfl
   let E':Env:={ E with g:=fun m=>if m=n then .pointer (some ⟨w.heap.size,0,none⟩) else E.g m }
   have hg':E'.g n = .pointer (some ⟨w.heap.size,0,none⟩):=by simp [E']
   have hE:∀ m,m≠n→E'.g m=E.g m∧E'.ver m=E.ver m∧E'.sz m=E.sz m:=fun m hm=>⟨by grind,rfl,rfl⟩
   refine⟨.pointer (some ⟨w.heap.size,0,none⟩),w.alloc (.stringIter ⟨(l.map UInt8.ofNat).toArray⟩ 0),E',.inl ?_,?_,trivial⟩
   ·have hr:(Instr.range t (a.eval x)).run P w = .ok (.pointer (some ⟨w.heap.size,0,none⟩)) (w.alloc (.stringIter ⟨(l.map UInt8.ofNat).toArray⟩ 0)):=by
     rw [hx.1]
     simp [Instr.range,Sem.run_bind,run_underlying hde]
    simp only [execOp,ho,Sem.run_bind,hr,Result.andThen_ok]
    rfl
   refine h.change (E':=E') n (some (.siter l 0)) (qKp σ.objs n (.siter l 0)) (n::σ.used) o.dst (.loc n 0) _ (fun m=>qQm _ _ _ _) (Hle.refl _) hE (fun hk=>absurd hk hn) (fun hk=>absurd hk hn)
    (by simp) ⟨rfl,rfl,rfl⟩ (fun b hb _=>⟨heap_alloc_old w _ b hb,rfl⟩) (qZz h.heap _ E' rfl) ?_ ?_ (fun m hm=>by simp [hm]) ?_ ?_ hd
   ·intro o' e
    cases e
    exact⟨⟨w.heap.size,hg',heap_alloc_new w _,h.heap.lt (Nat.le_refl _),hx.2⟩,by simp,by simp [Ob.names]⟩
   ·grind [blk]
   ·exact⟨_,hg',rfl⟩
   ·simp [V.names]
  ·cases hs
 ·cases hs
theorem qIt (h:Ga C E σ a w) (hg:GOK gl C.E0.H) (hd:∀ d,o.dst=some d→d<C.nt) {x:Operand} (ho:o.op = .next x true) {r:R} (hc:r.cond)
  (hs:qQb T note (σ.val gl) (qQc σ.objs) o.dst (.next x true)=some r):Sound P C E σ a w o r:=by
 have hx:=qQd h hg x
 simp only [qQb] at hs
 unfold qV4 at hs
 split at hs
 ·rename_i n ex
  rw [ex] at hx
  simp only [RepV] at hx
  obtain⟨b,hgn,hv⟩:=hx
  split at hs
  ·rename_i l p eo
   obtain⟨b',hgn',hcell,hfree,hlt⟩:=h.objs n _ eo
   rw [hgn] at hgn'
   cases hgn'
   have hget:(getObj b).run P w = .ok (.stringIter ⟨(l.map UInt8.ofNat).toArray⟩ p) w:=by simp [getObj,Sem.run,hcell]
   have hset:∀ ob:Obj,(setObj b ob).run P w = .ok () { w with heap:=w.heap.setIfInBounds b ob }:=by intro ob;simp [setObj,Sem.run,hcell]
   have hsz:(⟨(l.map UInt8.ofNat).toArray⟩:ByteArray).size=l.length:=by simp [ByteArray.size]
   have hbl:b<w.heap.size:=(Array.getElem?_eq_some_iff.1 hcell).1
   split at hs
   ·rename_i c ec
    cases hs
    have hp:p<l.length:=(List.getElem?_eq_some_iff.1 ec).1
    have hpc:l[p]=c:=(List.getElem?_eq_some_iff.1 ec).2
    have hdec:=decode_ascii (⟨(l.map UInt8.ofNat).toArray⟩:ByteArray) p (by rw [hsz];exact hp) (by
     have h1:((⟨(l.map UInt8.ofNat).toArray⟩:ByteArray)[p]'(by rw [hsz];exact hp))=UInt8.ofNat l[p]:=by simp [ByteArray.getElem_eq_getElem_data]
     rw [h1,hpc]
     have:(UInt8.ofNat c).toNat=c:=by simp;omega
     omega)
    have hcb:((⟨(l.map UInt8.ofNat).toArray⟩:ByteArray)[p]'(by rw [hsz];exact hp)).toNat=c:=by
     have h1:((⟨(l.map UInt8.ofNat).toArray⟩:ByteArray)[p]'(by rw [hsz];exact hp))=UInt8.ofNat l[p]:=by simp [ByteArray.getElem_eq_getElem_data]
     rw [h1,hpc]
     simp;omega
    rw [hcb] at hdec
    have hr:(Instr.next (a.eval x) true o.type).run P w = .ok (.tuple #[.bool true,.int .i64 p,.int .i32 c]) { w with heap:=w.heap.setIfInBounds b (.stringIter ⟨(l.map UInt8.ofNat).toArray⟩ (p+1)) }:=by
     rw [hv]
     unfold Instr.next
     simp only [Sem.run_bind,hget,Result.andThen_ok,hsz,hp,if_true,hdec,hset,goInt]
     simp
    refine⟨.tuple #[.bool true,.int .i64 p,.int .i32 c],{ w with heap:=w.heap.setIfInBounds b (.stringIter ⟨(l.map UInt8.ofNat).toArray⟩ (p+1)) },E,.inl ?_,?_,trivial⟩
    ·simp only [execOp,ho,Sem.run_bind,hr,Result.andThen_ok]
     rfl
    refine h.change (E':=E) n (some (.siter l (p+1))) (qKp σ.objs n (.siter l (p+1))) σ.used o.dst _ _ (fun m=>qQm _ _ _ _) (Hle.refl _) (fun _ _=>⟨rfl,rfl,rfl⟩) (fun _=>EExt.refl _ _) (fun _=>⟨_,eo⟩) (by simp) ⟨rfl,rfl,rfl⟩
     (fun b1 hlt hne=>⟨qZd w b b1 _ (fun e=>hne _ eo (by rw [e,hgn];rfl)),rfl⟩) ?_ ?_ ?_ (fun _ h=>h) ?_ (by simp [V.names]) hd
    ·intro b1 hb1
     have:b1≠b:=fun e=>hb1 (e ▸ hfree)
     obtain⟨c,T',fr,hc,hp⟩:=h.heap b1 hb1
     exact⟨c,T',fr,by rw [qZd w b b1 _ this];exact hc,hp⟩
    ·intro o' e
     cases e
     exact⟨⟨b,hgn,by simp [hbl],hfree,hlt⟩,(h.usedO n _ eo).1,by simp [Ob.names]⟩
    ·intro o' b1 e hb1
     exact .inr ⟨hb1,_,eo⟩
    ·simp only [RepV,RepP]
     exact⟨[.bool true,.int .i64 p,.int .i32 c],rfl,by simp,by simp [RepL,RepP]⟩
   ·rename_i ec
    cases hs
    have hp:¬ p<l.length:=by
     intro hlt
     rw [List.getElem?_eq_getElem hlt] at ec
     cases ec
    have hr:(Instr.next (a.eval x) true o.type).run P w = .ok (.tuple #[.bool false]) w:=by
     rw [hv]
     unfold Instr.next
     simp only [Sem.run_bind,hget,Result.andThen_ok,hsz,hp,if_false]
     simp
    refine Sound.pure h (v:=.tuple #[.bool false]) (.inl ?_) ?_ (by simp [V.names]) hd trivial
    ·simp only [execOp,ho,Sem.run_bind,hr,Result.andThen_ok]
     rfl
    ·exact⟨[.bool false],rfl,by simp,by simp [RepL,RepP]⟩
  ·cases hs
 ·cases hs
theorem qDx:∀ {es:List (List PV)} {l:List Nat},qBn es=some l→l.length=es.length∧(∀ e∈es,e.length=1) ∧ ∀ b∈l,b<256
 | [],_,h=>by cases h;simp
 | e::r,l,h=>by
  unfold qBn at h
  split at h
  ·simp_all
  ·rename_i b r' e1
   cases hb:Nat.blt b 256 with
   | false=>rw [hb] at h;cases h
   | true =>
    rw [hb] at h
    split at h
    ·rename_i l' e2
     cases h
     obtain⟨q1,q2,q3⟩:=qDx e2
     simp_all
    ·cases h
  ·cases h
theorem qDy {H:Hp} : ∀ {es:List (List PV)} {l:List Nat} {us:List Value},qBn es=some l→RepE H es us→∀ (j:Nat) (b:Nat),l[j]? = some b→us[j]? = some (.int .u8 (Int.ofNat b))
 | [],_,_,h,_,j,b,hj=>by cases h;simp at hj
 | e::r,l,us,h,hr,j,b,hj=>by
  unfold qBn at h
  split at h
  ·simp_all
  ·rename_i b' r' e1
   cases e1
   cases hb:Nat.blt b' 256 with
   | false=>rw [hb] at h;cases h
   | true =>
    rw [hb] at h
    split at h
    ·rename_i l' e2
     cases h
     cases us with
     | nil=>grind [RepE,RepL]
     | cons u us =>
      cases j with
      | zero=>simp at hj;subst hj;simp [hr.1.1.1]
      | succ j=>simpa using qDy e2 hr.2 j b (by simpa using hj)
    ·cases h
  ·cases h
theorem qBy (h:Ga C E σ a w) (hg:GOK gl C.E0.H) (hd:∀ d,o.dst=some d→d<C.nt) (hT:TOK P T) {s t:Nat} {x:Operand} (ho:o.op = .convert s t x) {r:R} (hc:r.cond)
  (hs:qQb T note (σ.val gl) (qQc σ.objs) o.dst (.convert s t x)=some r):Sound P C E σ a w o r:=by
 have hx:=qQd h hg x
 simp only [qQb] at hs
 have key:∀ (si:TI) (k k':IntKind) (n:Int) (sz by_:Nat) (z:Value) (zc:List PV),T s=some si→T t=some ⟨.num k,sz,by_,z,zc⟩→a.eval x = .int k' n→Sound P C E σ a w o (R.of (.pv (.num k (k.wrap n)))):=by
  intro si k k' n sz by_ z zc es et ev
  obtain⟨d,hsd,_⟩:=(hT s _ es).desc
  obtain⟨d',hd',hk⟩:=(hT t _ et).desc
  simp only [qK9] at hk
  obtain⟨rfl,h1,h2⟩:=hk
  refine Sound.pure h (v:=.int k (k.wrap n)) (.inl ?_) (by simp only [RepV,RepP];simp_all) (by simp [V.names]) hd trivial
  simp [execOp,ho,ev,convert,run_underlying hsd,run_underlying hd',Conv.intToInt]
 have key2:∀ (si:TI) (k':IntKind) (n:Int) (sz by_:Nat) (z:Value) (zc:List PV),T s=some si→T t=some ⟨.int,sz,by_,z,zc⟩→a.eval x = .int k' n→Sound P C E σ a w o (R.of (.pv (.int (IntKind.i64.wrap n)))):=by
  intro si k' n sz by_ z zc es et ev
  obtain⟨d,hsd,_⟩:=(hT s _ es).desc
  obtain⟨d',hd',hk⟩:=(hT t _ et).desc
  simp only [qK9] at hk
  subst hk
  refine Sound.pure h (v:=.int .i64 (IntKind.i64.wrap n)) (.inl ?_) (by simp only [RepV,RepP]) (by simp [V.names]) hd trivial
  simp [execOp,ho,ev,convert,run_underlying hsd,run_underlying hd',Conv.intToInt]
 split at hs
 ·rename_i si k sz by_ z zc k' n es et e
  cases hs
  rw [e] at hx
  simp only [RepV,RepP] at hx
  exact key si k k' n _ _ _ _ es et hx.1
 ·rename_i si k sz by_ z zc n es et e
  cases hs
  rw [e] at hx
  simp only [RepV,RepP] at hx
  exact key si k .i64 n _ _ _ _ es et hx
 ·rename_i si sz by_ z zc k' n es et e
  cases hs
  rw [e] at hx
  simp only [RepV,RepP] at hx
  exact key2 si k' n _ _ _ _ es et hx.1
 ·rename_i si sz by_ z zc n es et e
  cases hs
  rw [e] at hx
  simp only [RepV,RepP] at hx
  exact key2 si .i64 n _ _ _ _ es et hx
 ·rename_i e s1 s2 s3 s4 u1 u2 u3 u4 ts es et ex
  split at hs
  ·rename_i v1 v2 v3 v4 b0 l0 ee el
   cases hs
   rw [ex] at hx
   obtain⟨d1,hd1,hk1⟩:=(hT s _ es).desc
   obtain⟨d2,hd2,hk2⟩:=(hT t _ et).desc
   obtain⟨d3,hd3,hk3⟩:=(hT e _ ee).desc
   simp only [qK9] at hk1 hk2 hk3
   subst hk1 hk2
   obtain⟨rfl,_⟩:=hk3
   obtain⟨q1,q2,q3⟩:=qDx el
   have hne:pvE ts≠[]:=by
    intro h0
    have:=congrArg List.length h0
    simp [pvE] at this
    simp [this] at q1
   rcases qW7 (y:=.pv (.slice ts)) (ys:=pvE ts) rfl hx with ⟨e0,_⟩|⟨b',off',c',hvv,hsr⟩
   ·exact absurd e0 hne
   obtain⟨news,_,hnr,hncell⟩:=qJc h hsr (fun e he=>by obtain⟨y,hy,rfl⟩:=List.mem_map.1 he;simpa [pvL] using q2 y hy) hne Nat.zero_lt_one
   have hr:=run_convert_bytes_back (P:=P) w s t e ⟨b',off',none⟩ c' ((b0::l0).map UInt8.ofNat) hd1 hd3 hd2 fun j hj=>by
    have hj':j<(b0::l0).length:=by simpa using hj
    rw [hncell j _ (qDy el (RepVE.toPv (qVq ts) hnr) j _ (List.getElem?_eq_getElem hj'))]
    rw [List.getElem_map]
    have:=q3 _ (List.getElem_mem hj')
    simp [Nat.mod_eq_of_lt this]
   rw [List.length_map,q1,show ts.length=(pvE ts).length by simp [pvE]] at hr
   refine Sound.pure h (v:=.string ⟨((b0::l0).map UInt8.ofNat).toArray⟩) (.inl ?_) (by simp only [RepV,RepP];exact⟨trivial,q3⟩) (by simp [V.names]) hd trivial
   simp only [execOp,ho,hvv,Sem.run_bind,hr,Result.andThen_ok]
   rfl
  ·cases hs
 ·cases hs
end
section
variable {P:Program} {C:Ctx} {E:Env} {σ:St} {a:Act} {w:World} {gl:Nat→Option (List PV)} {o:Oper} {T:Nat→Option TI} {note:qXa}
theorem qJo (hT:TOK P T) (hg:GOK gl C.E0.H) (h:Ga C E σ a w) (hd:∀ d,o.dst=some d→d<C.nt) {r:R}
  (hs:qQb T note (σ.val gl) (qQc σ.objs) o.dst o.op=some r) (hc:r.cond) (hn:∀ n x,r.wr=some (n,x)→r.new=true→n ∉ σ.used):Sound P C E σ a w o r:=by
 generalize hop:o.op=op at hs
 have hmove:∀ x,(op = .move x∨op = .assign x)→qQb T note (σ.val gl) (qQc σ.objs) o.dst op=some r→Sound P C E σ a w o r:=by
  intro x hx hs
  have hs':qJn note (σ.val gl) x=some r:=by
   rcases hx with rfl|rfl<;>simpa only [qQb] using hs
  unfold qJn at hs'
  split at hs'
  ·cases hs'
   exact qDt h hd (hn _ _ rfl rfl) (by rcases hx with rfl|rfl<;>simp [hop])
  ·cases hs'
   exact qIj h hg hd (by rcases hx with rfl|rfl<;>simp [hop])
 cases op with
 | move x=>simp_all
 | assign x=>simp_all
 | pick c x y=>grind [qIk]
 | alloc t=>grind [qFu]
 | box t x=>grind [qL6]
 | build t parts=>grind [qFv]
 | buildSlice t len parts=>grind [qXo]
 | load t x=>grind [qIn]
 | store t x y=>grind [qFx]
 | nilCheck x=>grind [qAf]
 | convert s t x=>grind [qBy]
 | binOp b t x y t'=>grind [qL4]
 | unOp u t x =>
  cases u
  case not=>grind [qL3]
  all_goals cases hs
 | makeInterface t x=>grind [qFn]
 | fieldAddr t x f=>grind [qYg]
 | field t x f=>grind [qFq]
 | indexAddr t x i=>grind [qFr]
 | extract x i=>grind [qBs]
 | slice t x lo hi mx=>grind [qFt]
 | typeAssert x t0 t b=>grind [qDp]
 | makeFunc fn first caps =>
  cases fn with
  | func f=>grind [qAj]
  | _=>cases hs
 | makeMap t r0 =>
  cases r0 with
  | none=>grind [qBx]
  | some _=>cases hs
 | mapUpdate t m k v=>grind [qYl]
 | lookup t m k ok=>grind [qF1]
 | insert t m k v=>grind [qDw]
 | index t x i=>grind [qDr]
 | range t x=>grind [qF2]
 | next x b =>
  cases b with
  | true=>grind [qIt]
  | false=>cases hs
 | call c =>
  obtain⟨callee,args,argTypes⟩:=c
  cases callee with
  | builtin b =>
   cases b
   case len=>grind [qL5]
   case append=>grind [qDv]
   case max=>grind [qL7]
   case min=>grind [qL8]
   all_goals cases hs
  | value f=>cases hs
  | invoke r m=>cases hs
 | _=>cases hs
end
def qQa (l:List (Nat × Ob)):List Nat:=l.map (·.1)
theorem qQe {l:List (Nat × Ob)} {n:Nat} {o:Ob} (h:qQc l n=some o):n∈qQa l:=by
 induction l with
 | nil=>grind [qQc]
 | cons p r ih =>
  grind [qQc,qQa]
theorem qQs {l:List (Nat × Ob)} {n:Nat} (h:n∈qQa l):∃ o,qQc l n=some o:=by
 induction l with
 | nil=>grind [qQa]
 | cons p r ih =>
  obtain⟨k,x⟩:=p
  by_cases e:k=n
  ·exact⟨x,by simp [qQc,e]⟩
  grind [qQa,absurd,qQc]
def qWu:List (Nat × Ob)→List (Nat × Ob)→Prop
 | [],_=>True
 | (n,o)::r,l=>qQc l n=some o∧qWu r l
def qDz:List Nat→List Nat→Prop
 | [],_=>True
 | n::r,u=>n ∉ u∧qDz r u
theorem qZ0:∀ {objs l:List (Nat × Ob)},qWu objs l→∀ n o,qQc objs n=some o→qQc l n=some o
 := by intro x;induction x<;>grind [qQc,qWu]
theorem qVa:∀ {l u:List Nat},qDz l u→∀ n∈l,n ∉ u
 | [],_,_,n,h=>by simp at h
 | k::r,u,hf,n,h=>by
  rcases List.mem_cons.1 h with rfl|h
  ·exact hf.1
  ·exact qVa hf.2 n h
def qJl:List (Nat × Ob)→List Nat
 | []=>[]
 | (_,o)::r=>o.names++qJl r
def qWv (args:List V) (objs:List (Nat × Ob)):List Nat:=qQg args++qJl objs
theorem qMd {objs l:List (Nat × Ob)} {n:Nat} (hs:qWu objs l) (h:n∈qJl objs):∃ m o,qQc l m=some o∧n∈o.names:=by
 induction objs with
 | nil=>grind [qJl]
 | cons p r ih =>
  grind [qWu,qJl]
theorem qKw {objs l l':List (Nat × Ob)} (h:∀ n∈qQa objs,qQc l n=qQc l' n) (hs:qWu objs l):qWu objs l':=by
 induction objs with
 | nil=>trivial
 | cons p r ih =>
  grind [qWu,qQa]
inductive Out where
 | ret (x:V)
 | panic (p:PV)
def Out.names:Out→List Nat
 | .ret x=>x.names
 | .panic _=>[]
def qD0 (E:Env):Out→Ending→Prop
 | .ret x,e => ∃ v,e = .returned v∧RepV E x v
 | .panic p,e => ∃ v,e = .panicked [{ v,recovered:=false }]∧RepP E.H p v
structure qMe (gl:Nat→Option (List PV)) (E:Env) (w:World) (objs:List (Nat × Ob)):Prop where
 heap:HeapOK E w
 glob:GOK gl E.H
 obs:∀ n o,qQc objs n=some o→ObOK E w n o
 apart:∀ n m o o',qQc objs n=some o→qQc objs m=some o'→n≠m→∀ b,blk (E.g n)=some b→blk (E.g m)≠some b
structure qPf (E:Env) (w:World) (objs:List (Nat × Ob)) (E':Env) (w':World) (objs':List (Nat × Ob)):Prop where
 heap:HeapOK E' w'
 obs:∀ n o,qQc objs' n=some o→ObOK E' w' n o
 apart:∀ n m o o',qQc objs' n=some o→qQc objs' m=some o'→n≠m→∀ b,blk (E'.g n)=some b→blk (E'.g m)≠some b
 hle:Hle E.H E'.H
 size:w.heap.size≤w'.heap.size
 rest:w'.os=w.os∧w'.tape=w.tape∧w'.output=w.output
 same:∀ b,b<w.heap.size→(∀ n o,qQc objs n=some o→blk (E.g n)≠some b)→(nf (E.H b)→w'.heap[b]? = w.heap[b]?)∧E'.H b=E.H b
 own:∀ n o b,qQc objs' n=some o→blk (E'.g n)=some b→w.heap.size≤b ∨ ∃ m o',qQc objs m=some o'∧blk (E.g m)=some b
 ext:∀ n o,qQc objs n=some o→EExt E E' n
 other:∀ n,qQc objs n=none→qQc objs' n=none→E'.g n=E.g n∧E'.ver n=E.ver n∧E'.sz n=E.sz n
def qHb (P : Program) (f : Nat) : Prop := ∃ fn, P.funcs[f]? = some fn ∧ (fn.name == "runtime.NumGoroutine") = false ∧ fn.body.isNone = false
structure AC (P:Program) (gl:Nat→Option (List PV)) (f:Nat) (args:List V) (objs:List (Nat × Ob)) (out:Out) (objs':List (Nat × Ob)):Prop where
 direct:qHb P f
 names:∀ n∈out.names,n∈qQa objs∨n∈qQa objs'∨n∈qWv args objs
 namesO:∀ m o,qQc objs' m=some o→∀ n∈o.names,n∈qQa objs∨n∈qQa objs'∨n∈qWv args objs
 calls:∀ (E:Env) (w:World) (vs:List Value),qMe gl E w objs→vs.length=args.length→RepVL E args vs →
  Calls P f vs.toArray w fun e w' => ∃ E',qPf E w objs E' w' objs'∧qD0 E' out e
structure Eff where
 x:V
 wr:List (Nat × Option Ob)
 nw:List Nat
 rd:List Nat
def zYz (l:List (Nat × Ob)) (n:Nat):Option Ob→List (Nat × Ob)
 | some o=>qKp l n o
 | none=>qPe l n
def qVn (l:List (Nat × Ob)):List (Nat × Option Ob)→List (Nat × Ob)
 | []=>l
 | (n,o)::r=>qVn (zYz l n o) r
def St.eff (σ:St) (dst:Option Nat) (e:Eff):St:=⟨qAd dst e.x σ.slots,qVn σ.objs e.wr,e.nw++σ.used⟩
theorem qMf (l:List (Nat × Ob)) (k n:Nat) (o:Option Ob):qQc (zYz l k o) n=if n=k then o else qQc l n:=by
 cases o with
 | none=>exact qVp l k n
 | some o=>exact qQm l k n o
def qJe:List (Nat × Option Ob)→Nat→Option (Option Ob)
 | [],_=>none
 | (k,o)::r,n=>match qJe r n with
  | some x=>some x
  | none=>if k=n then some o else none
theorem qQ6:∀ (wr:List (Nat × Option Ob)) (l:List (Nat × Ob)) (n:Nat),qQc (qVn l wr) n=match qJe wr n with|some o=>o|none=>qQc l n
 | [],l,n=>rfl
 | (k,o)::r,l,n=>by
  simp only [qVn,qJe]
  rw [qQ6 r]
  cases qJe r n with
  | some x=>rfl
  | none =>
   grind [qMf]
def qWk (objs objs':List (Nat × Ob)):List (Nat × Option Ob) :=
 ((qQa objs).filter (fun n=>(qQc objs' n).isNone)).map (fun n=>(n,none))++objs'.reverse.map (fun p=>(p.1,some p.2))
def qQz (x:V) (objs objs':List (Nat × Ob)):Eff :=
 ⟨x,qWk objs objs',(qQa objs').filter (fun n=>(qQc objs n).isNone),qQa objs⟩
def qJp (x:V) (ro objs objs':List (Nat × Ob)):Eff :=
 ⟨x,qWk objs objs',(qQa objs').filter (fun n=>(qQc objs n).isNone),qQa ro++qQa objs⟩
theorem qXc (a b:List (Nat × Option Ob)) (n:Nat):qJe (a++b) n=match qJe b n with|some x=>some x|none=>qJe a n:=by
 induction a with
 | nil=>simp [qJe];cases qJe b n<;>rfl
 | cons p r ih =>
  simp only [List.cons_append,qJe,ih]
  cases qJe b n<;>rfl
theorem qIu (l:List (Nat × Ob)) (n:Nat):qJe (l.reverse.map (fun p=>(p.1,some p.2))) n=(qQc l n).map some:=by
 induction l with
 | nil=>rfl
 | cons p r ih =>
  grind [List.reverse_cons,qXc,qJe,qQc]
theorem qIv (l:List Nat) (n:Nat):qJe (l.map (fun n=>(n,none))) n=if n∈l then some none else none:=by
 induction l with
 | nil=>rfl
 | cons k r ih =>
  grind [qJe]
theorem qQ7 (l objs objs':List (Nat × Ob)) (n:Nat):qQc (qVn l (qWk objs objs')) n =
  match qQc objs' n with|some o=>some o|none=>if n∈qQa objs then none else qQc l n:=by
 rw [qQ6,qWk,qXc,qIu,qIv]
 grind
section
variable {P:Program} {C:Ctx} {E:Env} {σ:St} {a:Act} {w:World} {gl:Nat→Option (List PV)}
theorem Ga.called (h:Ga C E σ a w) {E':Env} {w':World} {objs objs':List (Nat × Ob)} (hD:qPf E w objs E' w' objs') (hsub:∀ n o,qQc objs n=some o→qQc σ.objs n=some o)
  (hfresh:∀ n,n∈qQa objs'→n∈qQa objs∨n ∉ σ.used) {ment:List Nat} (hment:∀ n∈ment,n∈σ.used) (hno:∀ m o,qQc objs' m=some o→∀ n∈o.names,n∈qQa objs∨n∈qQa objs'∨n∈ment)
  {dst:Option Nat} {x:V} {v:Value} (hx:RepV E' x v) (hxn:∀ n∈x.names,n∈qQa objs∨n∈qQa objs'∨n∈ment) (hd:∀ d,dst=some d→d<C.nt) :
  Ga C E' (σ.eff dst (qQz x objs objs')) (a.put dst v) w':=by
 have hkey:∀ n∈qQa objs,n∈σ.used:=fun n hn=>by
  obtain⟨o,ho⟩:=qQs hn
  exact (h.usedO n o (hsub n o ho)).1
 have hused':∀ n,n∈qQa objs∨n∈qQa objs'∨n∈ment→n∈(qQz x objs objs').nw++σ.used:=by
  intro n hn
  rw [List.mem_append]
  by_cases hk:n∈qQa objs
  ·simp_all
  ·rcases hn with hn|hn|hn
   ·simp_all
   rotate_left
   ·simp_all
   ·left
    simp only [qQz,List.mem_filter]
    refine⟨hn,?_⟩
    cases e:qQc objs n with
    | none=>rfl
    | some o=>grind [absurd,qQe]
 have hee:∀ n∈σ.used,EExt E E' n:=by
  intro n hn
  by_cases hk:n∈qQa objs
  ·obtain⟨o,ho⟩:=qQs hk
   exact hD.ext n o ho
  ·have h1:qQc objs n=none:=by
    cases e:qQc objs n with
    | none=>rfl
    | some o=>grind [absurd,qQe]
   have h2:qQc objs' n=none:=by
    cases e:qQc objs' n with
    | none=>rfl
    | some o =>
     grind [qQe,absurd]
   obtain⟨e1,e2,e3⟩:=hD.other n h1 h2
   grind [EExt.of_eq]
 have hold:∀ t,RepV E' (qZi σ.slots t) (a.tmps.getD t undef):=fun t =>
  RepV.mono hD.hle _ _ (fun n hn=>hee n (h.usedS t n hn)) (h.slots t)
 have hkeep:∀ n o,qQc σ.objs n=some o→n ∉ qQa objs→qQc objs' n=none∧E'.g n=E.g n∧E'.ver n=E.ver n∧E'.sz n=E.sz n∧(∀ b,blk (E.g n)=some b→w'.heap[b]? = w.heap[b]? ∧ E'.H b=E.H b):=by
  intro n o hn hk
  have h1:qQc objs n=none:=by
   cases e:qQc objs n with
   | none=>rfl
   | some o=>grind [absurd,qQe]
  have h2:qQc objs' n=none:=by
   cases e:qQc objs' n with
   | none=>rfl
   | some o' =>
    rcases hfresh n (qQe e) with hf|hf
    ·simp_all
    ·exact absurd (h.usedO n o hn).1 hf
  obtain⟨e1,e2,e3⟩:=hD.other n h1 h2
  refine⟨h2,e1,e2,e3,fun b hb => ?_⟩
  have hh:=hD.same b ((h.objs n o hn).blk_lt hb) (by
   intro m o' hm hb'
   refine h.apart n m o o' hn (hsub m o' hm) ?_ b hb hb'
   grind)
  exact⟨hh.1 ((h.objs n o hn).nf hb),hh.2⟩
 constructor
 ·intro t
  cases dst with
  | none=>exact hold t
  | some d =>
   simp only [St.eff,qAd,qZi,Act.put]
   by_cases e:d=t
   ·subst e
    have hlt:d<a.tmps.size:=by rw [h.size];exact hd d rfl
    simp [hlt,qQz,hx]
   ·simp only [e,if_false]
    have:=hold t
    simpa [Array.getD_eq_getD_getElem?,Array.getElem?_setIfInBounds_ne e] using this
 ·cases dst<;>simp [Act.put,h.size]
 ·refine⟨?_,fun n hn=>List.mem_append.2 (.inr (h.defers.2 n hn))⟩
  have:=DefOK.mono hD.hle _ _ (fun n hn=>hee n (h.defers.2 n hn)) h.defers.1
  cases dst<;>simpa [Act.put] using this
 ·exact hD.heap
 ·intro n o hn
  simp only [St.eff,qQz,qQ7] at hn
  split at hn
  ·rename_i o' e
   cases hn
   exact hD.obs n _ e
  ·split at hn
   ·cases hn
   ·rename_i hk
    obtain⟨_,e1,e2,e3,e4⟩:=hkeep n o hn hk
    exact (h.objs n o hn).mono hD.hle e1 e2 e3 (fun m hm=>hee m ((h.usedO n o hn).2 m hm)) e4
 ·have key:∀ n o m o',qQc objs' n=some o→qQc σ.objs m=some o'→m ∉ qQa objs→∀ b,blk (E'.g n)=some b→blk (E'.g m)≠some b:=by
   intro n o m o' hn hm hk b hb hb'
   obtain⟨_,e1,_,_,_⟩:=hkeep m o' hm hk
   rw [e1] at hb'
   rcases hD.own n o b hn hb with hge|⟨q,oq,hq,hbq⟩
   ·have:=(h.objs m o' hm).blk_lt hb';omega
   ·refine h.apart m q o' oq hm (hsub q oq hq) ?_ b hb' hbq
    intro e
    subst e
    exact hk (qQe hq)
  intro n m o o' hn hm hne b hb hb'
  simp only [St.eff,qQz,qQ7] at hn hm
  split at hn
  ·rename_i on en
   cases hn
   split at hm
   ·rename_i om em
    cases hm
    exact hD.apart n m _ _ en em hne b hb hb'
   ·split at hm
    ·cases hm
    ·rename_i hk
     exact key n _ m o' en hm hk b hb hb'
  ·split at hn
   ·cases hn
   ·rename_i hkn
    split at hm
    ·rename_i om em
     cases hm
     exact key m _ n o em hn hkn b hb' hb
    ·split at hm
     ·cases hm
     ·rename_i hkm
      rw [(hkeep n o hn hkn).2.1] at hb
      rw [(hkeep m o' hm hkm).2.1] at hb'
      exact h.apart n m o o' hn hm hne b hb hb'
 ·intro t n hn
  cases dst with
  | none=>exact List.mem_append.2 (.inr (h.usedS t n hn))
  | some d =>
   simp only [St.eff,qAd,qZi] at hn
   split at hn
   ·exact hused' n (hxn n hn)
   ·exact List.mem_append.2 (.inr (h.usedS t n hn))
 ·intro n o hn
  simp only [St.eff,qQz,qQ7] at hn
  split at hn
  ·rename_i o' e
   cases hn
   exact⟨hused' n (.inr (.inl (qQe e))),fun m hm=>hused' m (hno n _ e m hm)⟩
  ·split at hn
   ·cases hn
   ·exact⟨List.mem_append.2 (.inr (h.usedO n o hn).1),fun m hm=>List.mem_append.2 (.inr ((h.usedO n o hn).2 m hm))⟩
 ·exact fun n o hn=>List.mem_append.2 (.inr (h.usedG n o hn))
 ·exact Nat.le_trans h.grown hD.size
 ·exact⟨hD.rest.1.trans h.rest.1,hD.rest.2.1.trans h.rest.2.1,hD.rest.2.2.trans h.rest.2.2⟩
 ·intro b hb hF
  obtain⟨h1,h2⟩:=h.same b hb hF
  obtain⟨h3,h4⟩:=hD.same b (Nat.lt_of_lt_of_le hb h.grown) (fun n o hn e=>hF (h.own n o b (hsub n o hn) e hb))
  exact⟨fun hn=>(h3 (by rw [h2];exact hn)).trans (h1 hn),h4.trans h2⟩
 ·exact h.hle.trans hD.hle
 ·intro n o b hn hb hlt
  simp only [St.eff,qQz,qQ7] at hn
  split at hn
  ·rename_i o' e
   cases hn
   rcases hD.own n _ b e hb with hge|⟨m,om,hm,hbm⟩
   ·have:=h.grown;omega
   ·exact h.own m om b (hsub m om hm) hbm hlt
  ·split at hn
   ·cases hn
   ·rename_i hk
    rw [(hkeep n o hn hk).2.1] at hb
    exact h.own n o b hn hb hlt
 ·intro n o hn
  exact (h.ext n o hn).trans (hee n (h.usedG n o hn))
 ·intro n hn
  obtain⟨k1,k2,k3,k4,k5⟩:=h.keep n hn
  have hk:n ∉ qQa objs:=by
   intro hk
   obtain⟨o,ho⟩:=qQs hk
   rw [hsub n o ho] at k2;cases k2
  have h1:qQc objs n=none:=by
   cases e:qQc objs n with
   | none=>rfl
   | some o=>exact absurd (qQe e) hk
  have h2:qQc objs' n=none:=by
   cases e:qQc objs' n with
   | none=>rfl
   | some o =>
    rcases hfresh n (qQe e) with hf|hf
    ·exact absurd hf hk
    ·exact absurd k1 hf
  obtain⟨e1,e2,e3⟩:=hD.other n h1 h2
  refine⟨List.mem_append.2 (.inr k1),?_,e1.trans k3,e2.trans k4,e3.trans k5⟩
  simp only [St.eff,qQz,qQ7,h2,hk,if_false]
  exact k2
end
def qF3:Op→Bool
 | .load _ _=>true
 | .store _ _ _=>true
 | .indexAddr _ _ _=>true
 | .slice _ _ _ _ _=>true
 | .call _=>true
 | .mapUpdate _ _ _ _=>true
 | .lookup _ _ _ _=>true
 | .insert _ _ _ _=>true
 | .next _ _=>true
 | _=>false
def rdN (val:Operand→V) (op:Op):List Nat:=bif qF3 op then qQg (op.operands.toList.map val) else []
theorem zQk {val:Operand→V} {op:Op} {x:Operand} (hl:qF3 op=true) (hx:x∈op.operands) {n:Nat} (hn:n∈(val x).names):n∈rdN val op:=by
 unfold rdN
 rw [hl]
 exact mem_namesL.2 ⟨val x,List.mem_map_of_mem (by simp_all),hn⟩
theorem qXp {ob ob':Nat→Option Ob} {m k v:V} (h:∀ n∈m.names,ob n=ob' n):qZ8 ob m k v=qZ8 ob' m k v:=by
 unfold qZ8
 split
 ·rename_i n ks cs
  rw [h n (by simp [V.names])]
 ·rfl
theorem qJ3 {s:Bool} {ob ob':Nat→Option Ob} {m k v:V} (h:∀ n∈m.names,ob n=ob' n):qQ0 s ob m k v=qQ0 s ob' m k v:=by
 unfold qQ0
 split
 ·rw [h _ (by simp [V.names])]
 ·rfl
theorem qYm {s ok:Bool} {z:PV} {ob ob':Nat→Option Ob} {m k:V} (h:∀ n∈m.names,ob n=ob' n):qZy s ok z ob m k=qZy s ok z ob' m k:=by
 unfold qZy
 split
 ·rw [h _ (by simp [V.names])]
 ·rfl
theorem qAk {ob ob':Nat→Option Ob} {x:V} (h:∀ n∈x.names,ob n=ob' n):qW4 ob x=qW4 ob' x:=by
 unfold qW4
 split
 ·rw [h _ (by simp [V.names])]
 ·rfl
theorem qAl {ti:TI} {ob ob':Nat→Option Ob} {x:V} (h:∀ n∈x.names,ob n=ob' n):qJ7 ti ob x=qJ7 ti ob' x:=by
 unfold qJ7
 split
 ·rfl
 ·rfl
 ·rw [h _ (by simp [V.names])]
 ·rw [h _ (by simp [V.names])]
 ·rfl
theorem qYn {ti:TI} {ob ob':Nat→Option Ob} {x y:V} (h:∀ n∈x.names,ob n=ob' n):qZ9 ti ob x y=qZ9 ti ob' x y:=by
 unfold qZ9
 split
 ·rfl
 ·split
  ·rw [h _ (by simp [V.names])]
  ·rfl
  ·rw [h _ (by simp [V.names])]
  ·rfl
theorem qYo {T:Nat→Option TI} {ob ob':Nat→Option Ob} {t:Nat} {x i:V} (h:∀ n∈x.names,ob n=ob' n):qJa T ob t x i=qJa T ob' t x i:=by
 unfold qJa
 split
 ·split
  ·split
   ·split
    ·rfl
    ·rw [h _ (by simp [V.names])]
    ·rfl
   ·rfl
  ·rfl
  ·rfl
 ·rfl
theorem qBz {ob ob':Nat→Option Ob} {x:V} (h:∀ n∈x.names,ob n=ob' n):qWt ob x=qWt ob' x:=by
 unfold qWt
 split
 ·rfl
 ·rfl
 ·rfl
 ·rw [h _ (by simp [V.names])]
 ·rfl
theorem qXq {e:Nat} {te:TI} {ob ob':Nat→Option Ob} {note:qXa} {xo:Operand} {x y:V} (h:∀ n∈x.names,ob n=ob' n):qQ4 e te ob note xo x y=qQ4 e te ob' note xo x y:=by
 unfold qQ4
 split
 ·rw [h _ (by simp [V.names])]
 ·rw [h _ (by simp [V.names])]
 ·rfl
 ·rfl
 ·rfl
theorem qYp {te:TI} {ob ob':Nat→Option Ob} {x:V} {lo hi mx:Option V} (h:∀ n∈x.names,ob n=ob' n):qJb te ob x lo hi mx=qJb te ob' x lo hi mx:=by
 unfold qJb
 split
 ·rfl
 ·rfl
 ·rw [h _ (by simp [V.names])]
 ·rfl
 ·rfl
 ·rfl
theorem qD1 {T:Nat→Option TI} {note:qXa} {val val':Operand→V} {ob ob':Nat→Option Ob} {dst:Option Nat} {op:Op} (hv:∀ x∈op.operands,val x=val' x) (ho:∀ n∈rdN val op,ob n=ob' n) :
  qQb T note val ob dst op=qQb T note val' ob' dst op:=by
 have hn:qF3 op=true→∀ x∈op.operands,∀ n∈(val x).names,ob n=ob' n:=fun hl x hx n hn=>ho n (zQk hl hx hn)
 cases op with
 | move x=>simp only [qQb,qJn];rw [hv x (by simp [Op.operands])]
 | assign x=>simp only [qQb,qJn];rw [hv x (by simp [Op.operands])]
 | pick c x y=>simp only [qQb];rw [hv c (by simp [Op.operands]),hv x (by simp [Op.operands]),hv y (by simp [Op.operands])]
 | alloc t=>rfl
 | box t x=>simp only [qQb];rw [hv x (by simp [Op.operands])]
 | build t parts =>
  simp only [qQb]
  have:(parts.toList.map fun p=>(p.1,val p.2))=(parts.toList.map fun p=>(p.1,val' p.2)):=List.map_congr_left fun p hp=>by
   rw [hv p.2 (by simp only [Op.operands,List.mem_toArray,List.mem_map];grind)]
  rw [this]
 | buildSlice t len parts =>
  simp only [qQb]
  have:(parts.toList.map fun p=>(p.1,val p.2))=(parts.toList.map fun p=>(p.1,val' p.2)):=List.map_congr_left fun p hp=>by
   rw [hv p.2 (by simp only [Op.operands,List.mem_toArray,List.mem_map];grind)]
  rw [this]
 | typeAssert x t0 t b =>
  have h1:=hv x (by simp [Op.operands])
  simp only [qQb,← h1]
 | makeFunc fn first caps =>
  cases fn with
  | func f =>
   simp only [qQb]
   have:caps.toList.map val=caps.toList.map val':=List.map_congr_left fun x hx=>hv x (by simp only [Op.operands,Array.mem_append];simp_all)
   have this2:first.toList.map val=first.toList.map val':=List.map_congr_left fun x hx=>hv x (by simp only [Op.operands,Array.mem_append];simp_all)
   rw [this,this2]
  | _=>simp only [qQb]
 | lookup t m k ok =>
  have h1:=hv m (by simp [Op.operands])
  have h2:=hv k (by simp [Op.operands])
  simp only [qQb,← h1,← h2]
  split
  ·split
   ·split
    ·exact qYm (hn rfl m (by simp [Op.operands]))
    ·rfl
   ·rfl
  ·rfl
 | range t x =>
  have h1:=hv x (by simp [Op.operands])
  simp only [qQb,← h1]
 | next x b =>
  cases b with
  | false=>rfl
  | true =>
   have h1:=hv x (by simp [Op.operands])
   simp only [qQb,← h1]
   unfold qV4
   split
   ·rename_i n e
    rw [hn rfl x (by simp [Op.operands]) n (by rw [e];simp [V.names])]
   ·rfl
 | index t x i =>
  have h1:=hv x (by simp [Op.operands])
  have h2:=hv i (by simp [Op.operands])
  simp only [qQb,← h1,← h2]
 | insert t m k v =>
  have h1:=hv m (by simp [Op.operands])
  have h2:=hv k (by simp [Op.operands])
  have h3:=hv v (by simp [Op.operands])
  simp only [qQb,← h1,← h2,← h3]
  split
  ·exact qJ3 (hn rfl m (by simp [Op.operands]))
  ·rfl
 | makeMap t r =>
  cases r with
  | none=>simp only [qQb]
  | some _=>simp only [qQb]
 | mapUpdate t m k v =>
  have h1:=hv m (by simp [Op.operands])
  have h2:=hv k (by simp [Op.operands])
  have h3:=hv v (by simp [Op.operands])
  simp only [qQb,← h1,← h2,← h3]
  split
  ·exact qJ3 (hn rfl m (by simp [Op.operands]))
  ·exact qXp (hn rfl m (by simp [Op.operands]))
  ·rfl
 | load t x =>
  have h1:=hv x (by simp [Op.operands])
  simp only [qQb,← h1]
  split
  ·exact qAl (hn rfl x (by simp [Op.operands]))
  ·rfl
 | store t x y =>
  have h1:=hv x (by simp [Op.operands])
  have h2:=hv y (by simp [Op.operands])
  simp only [qQb,← h1,← h2]
  split
  ·exact qYn (hn rfl x (by simp [Op.operands]))
  ·rfl
 | nilCheck x=>simp only [qQb];rw [hv x (by simp [Op.operands])]
 | convert s t x=>simp only [qQb];rw [hv x (by simp [Op.operands])]
 | binOp b t x y t'=>simp only [qQb];rw [hv x (by simp [Op.operands]),hv y (by simp [Op.operands])]
 | unOp u t x =>
  cases u
  case not=>simp only [qQb];rw [hv x (by simp [Op.operands])]
  all_goals simp only [qQb]
 | makeInterface t x=>simp only [qQb];rw [hv x (by simp [Op.operands])]
 | fieldAddr t x f=>simp only [qQb];rw [hv x (by simp [Op.operands])]
 | field t x f=>simp only [qQb];rw [hv x (by simp [Op.operands])]
 | indexAddr t x i =>
  have h1:=hv x (by simp [Op.operands])
  have h2:=hv i (by simp [Op.operands])
  simp only [qQb,← h1,← h2]
  exact qYo (hn rfl x (by simp [Op.operands]))
 | extract x i=>simp only [qQb];rw [hv x (by simp [Op.operands])]
 | slice t x lo hi mx =>
  have h1:=hv x (by simp [Op.operands])
  have hl:lo.map val=lo.map val':=by
   cases lo with
   | none=>rfl
   | some y=>simp [hv y (by simp [Op.operands])]
  have hh:hi.map val=hi.map val':=by
   cases hi with
   | none=>rfl
   | some y=>simp [hv y (by simp [Op.operands])]
  have hm:mx.map val=mx.map val':=by
   cases mx with
   | none=>rfl
   | some y=>simp [hv y (by simp [Op.operands])]
  simp only [qQb,← h1,← hl,← hh,← hm]
  split
  ·split
   ·exact qYp (hn rfl x (by simp [Op.operands]))
   ·rfl
  ·rfl
  ·rfl
 | call c =>
  obtain⟨callee,args,argTypes⟩:=c
  cases callee with
  | builtin b =>
   cases b
   case len =>
    simp only [qQb]
    split
    ·rename_i t x et ex
     have hx:x∈(Op.call { callee:=.builtin .len,args,argTypes }).operands:=by
      simp only [Op.operands,Call.operands,Array.mem_append]
      right
      rw [← Array.mem_toList_iff,ex]
      simp
     have h1:=hv x hx
     simp only [← h1]
     split
     ·exact qBz (hn rfl x hx)
     ·exact qAk (hn rfl x hx)
     ·rfl
     ·rfl
    ·rfl
   case append =>
    simp only [qQb]
    split
    ·rename_i t t' x y et ex
     have hx:x∈(Op.call { callee:=.builtin .append,args,argTypes }).operands:=by
      simp only [Op.operands,Call.operands,Array.mem_append]
      right
      rw [← Array.mem_toList_iff,ex]
      simp
     have hy:y∈(Op.call { callee:=.builtin .append,args,argTypes }).operands:=by
      simp only [Op.operands,Call.operands,Array.mem_append]
      right
      rw [← Array.mem_toList_iff,ex]
      simp
     have h1:=hv x hx
     have h2:=hv y hy
     simp only [← h1,← h2]
     split
     ·split
      ·split
       ·exact qXq (hn rfl x hx)
       ·rfl
      ·rfl
     ·rfl
    ·rfl
   case max =>
    simp only [qQb]
    split
    ·rename_i x y ex
     have hx:x∈(Op.call { callee:=.builtin .max,args,argTypes }).operands:=by
      simp only [Op.operands,Call.operands,Array.mem_append]
      right
      rw [← Array.mem_toList_iff,ex]
      simp
     have hy:y∈(Op.call { callee:=.builtin .max,args,argTypes }).operands:=by
      simp only [Op.operands,Call.operands,Array.mem_append]
      right
      rw [← Array.mem_toList_iff,ex]
      simp
     rw [hv x hx,hv y hy]
    ·rfl
   case min =>
    simp only [qQb]
    split
    ·rename_i x y ex
     have hx:x∈(Op.call { callee:=.builtin .min,args,argTypes }).operands:=by
      simp only [Op.operands,Call.operands,Array.mem_append]
      right
      rw [← Array.mem_toList_iff,ex]
      simp
     have hy:y∈(Op.call { callee:=.builtin .min,args,argTypes }).operands:=by
      simp only [Op.operands,Call.operands,Array.mem_append]
      right
      rw [← Array.mem_toList_iff,ex]
      simp
     rw [hv x hx,hv y hy]
    ·rfl
   all_goals simp only [qQb]
  | value f=>simp only [qQb]
  | invoke r m=>simp only [qQb]
 | _=>simp only [qQb]
def qQ1 (val:Operand→V):Op→Option (Nat × List V)
 | .call { callee:=.value f,args,.. } => match val f with
  | .fn g caps=>some (g,args.toList.map val++caps)
  | .bfn g bs=>some (g,bs++args.toList.map val)
  | .pv (.fnc g)=>some (g,args.toList.map val)
  | _=>none
 | _=>none
theorem qJu {val val':Operand→V} {op:Op} (hv:∀ x∈op.operands,val x=val' x):qQ1 val op=qQ1 val' op:=by
 unfold qQ1
 split
 ·rename_i f args at'
  rw [hv f (by simp [Op.operands,Call.operands])]
  have:args.toList.map val=args.toList.map val':=List.map_congr_left fun x hx=>hv x (by simp only [Op.operands,Call.operands,Array.mem_append];simp_all)
  rw [this]
 ·rfl
structure Env1 where
 P:Program
 T:Nat→Option TI
 gl:Nat→Option (List PV)
 nm:List (Nat × qXa)
 nt:Nat
 given:List Nat
 ok:TOK P T
 mix:P.follows .mixedOrders=true
def qTl:List (Nat × qXa)→Nat→qXa
 | [],_ => .none
 | (k,x)::r,t=>if k=t then x else qTl r t
def zY0 (l:List (Nat × qXa)) (dst:Option Nat):qXa:=match dst with
 | some d=>qTl l d
 | none => .none
def Env1.note (X:Env1) (dst:Option Nat):qXa:=zY0 X.nm dst
def R.eff (r:R) (rd:List Nat):Eff :=
 ⟨r.out,match r.wr with|some (n,o)=>[(n,some o)]|none=>[],match r.wr,r.new with|some (n,_),true=>[n]|_,_=>[],rd⟩
theorem qF4 (σ:St) (dst:Option Nat) (r:R) (rd:List Nat):σ.app dst r=σ.eff dst (r.eff rd):=by
 obtain⟨c,f,x,wr,nw⟩:=r
 cases wr with
 | none=>rfl
 | some p =>
  cases nw<;>rfl
def VLe (x y:V):Prop:=(∀ E v,RepV E x v→RepV E y v) ∧ ∀ n∈y.names,n∈x.names
inductive OpW (X:Env1) (o:Oper) (σ:St):Eff→Prop where
 | step (note:qXa) (r:R) (hs:qQb X.T note (σ.val X.gl) (qQc σ.objs) o.dst o.op=some r) (hc:r.cond) (hn:∀ n∈(r.eff []).nw,n ∉ σ.used):OpW X o σ (r.eff (rdN (σ.val X.gl) o.op))
 | call (f:Nat) (args:List V) (objs:List (Nat × Ob)) (x:V) (objs':List (Nat × Ob)) (hf:qQ1 (σ.val X.gl) o.op=some (f,args)) (hac:AC X.P X.gl f args objs (.ret x) objs')
   (hsub:qWu objs σ.objs) (hn:∀ n∈(qQz x objs objs').nw,n ∉ σ.used):OpW X o σ (qQz x objs objs')
 | callR (f:Nat) (args:List V) (ro objs:List (Nat × Ob)) (x:V) (objs':List (Nat × Ob)) (hf:qQ1 (σ.val X.gl) o.op=some (f,args)) (hac:AC X.P X.gl f args (ro++objs) (.ret x) (ro++objs'))
   (hro:∀ n∈qQa ro,n ∉ qQa objs∧n ∉ qQa objs') (hsub:qWu (ro++objs) σ.objs) (hn:∀ n∈(qJp x ro objs objs').nw,n ∉ σ.used):OpW X o σ (qJp x ro objs objs')
 | weak {x:V} {wr:List (Nat × Option Ob)} {nw rd:List Nat} (y:V) (h:OpW X o σ ⟨x,wr,nw,rd⟩) (hx:VLe x y):OpW X o σ ⟨y,wr,nw,rd⟩
theorem qVb (a b:List (Nat × Ob)) (k:Nat):qQc (a++b) k=match qQc a k with|some o=>some o|none=>qQc b k:=by
 induction a with
 | nil=>rfl
 | cons p r ih =>
  simp only [List.cons_append,qQc,ih]
  split<;>rfl
theorem Ga.congrO {C:Ctx} {E:Env} {s:List (Nat × V)} {O O':List (Nat × Ob)} {u:List Nat} {a:Act} {w:World} (h:Ga C E ⟨s,O,u⟩ a w) (ho:∀ n,qQc O' n=qQc O n):Ga C E ⟨s,O',u⟩ a w :=
 ⟨h.slots,h.size,h.defers,h.heap,fun n o hn=>h.objs n o (by rw [← ho];exact hn),fun n m o o' hn hm=>h.apart n m o o' (by rw [← ho];exact hn) (by rw [← ho];exact hm),h.usedS,fun n o hn=>h.usedO n o (by rw [← ho];exact hn),h.usedG,h.grown,h.rest,h.same,h.hle,
  fun n o b hn=>h.own n o b (by rw [← ho];exact hn),h.ext,fun n hn=>⟨(h.keep n hn).1,(ho n).trans (h.keep n hn).2.1,(h.keep n hn).2.2⟩⟩
theorem qYq {x:V} {ro objs objs':List (Nat × Ob)} (hro:∀ n∈qQa ro,n ∉ qQa objs∧n ∉ qQa objs'):(qJp x ro objs objs').nw=(qQz x (ro++objs) (ro++objs')).nw:=by
 have hnone:∀ {l:List (Nat × Ob)} {n:Nat},n ∉ qQa l→qQc l n=none:=by
  intro l n hn
  cases e:qQc l n with
  | none=>rfl
  | some o=>grind [absurd,qQe]
 simp only [qJp,qQz]
 have h1:(qQa ro).filter (fun n=>(qQc (ro++objs) n).isNone)=[]:=by
  rw [List.filter_eq_nil_iff]
  grind [qQs,qVb]
 grind [List.filter_congr,qQa,qVb]
theorem qD2 {l:List (Nat × Ob)} {ro objs objs':List (Nat × Ob)} (hro:∀ n∈qQa ro,n ∉ qQa objs∧n ∉ qQa objs') (hsub:qWu (ro++objs) l) (n:Nat):qQc (qVn l (qWk objs objs')) n=qQc (qVn l (qWk (ro++objs) (ro++objs'))) n:=by
 have hnone:∀ {l:List (Nat × Ob)} {n:Nat},n ∉ qQa l→qQc l n=none:=by
  intro l n hn
  cases e:qQc l n with
  | none=>rfl
  | some o=>grind [absurd,qQe]
 rw [qQ7,qQ7,qVb]
 have hk:qQa (ro++objs)=qQa ro++qQa objs:=by simp [qQa]
 by_cases h:n∈qQa ro
 ·obtain⟨o,ho⟩:=qQs h
  grind [qZ0,qVb]
 simp_all
structure zY1 (X:Env1) (o:Oper) (e:Eff) (σ σ':St):Prop where
 val:∀ x∈o.op.operands,σ.val X.gl x=σ'.val X.gl x
 ob:∀ n∈e.rd,qQc σ.objs n=qQc σ'.objs n
 new:∀ n∈e.nw,n ∉ σ'.used
theorem OpW.congr {X:Env1} {o:Oper} {σ σ':St} {e:Eff} (h:OpW X o σ e) (ha:zY1 X o e σ σ'):OpW X o σ' e:=by
 induction h with
 | step note r hs hc hn =>
  have hrd:rdN (σ.val X.gl) o.op=rdN (σ'.val X.gl) o.op:=by
   unfold rdN
   have:o.op.operands.toList.map (σ.val X.gl)=o.op.operands.toList.map (σ'.val X.gl):=List.map_congr_left fun x hx=>ha.val x (by simp_all)
   rw [this]
  have hs':=hs
  rw [qD1 ha.val ha.ob] at hs'
  rw [hrd]
  refine .step note r hs' hc ?_
  intro n hn'
  exact ha.new n hn'
 | call f args objs x objs' hf hac hsub hn =>
  refine .call f args objs x objs' (by rw [← qJu ha.val];exact hf) hac ?_ ha.new
  exact qKw (fun n hn'=>ha.ob n hn') hsub
 | callR f args ro objs x objs' hf hac hro hsub hn =>
  refine .callR f args ro objs x objs' (by rw [← qJu ha.val];exact hf) hac hro ?_ ha.new
  refine qKw (fun n hn'=>ha.ob n ?_) hsub
  grind [qJp,qQa]
 | weak y h hx ih=>exact .weak y (ih ⟨ha.val,ha.ob,ha.new⟩) hx
theorem qKx {P:Program} {E:Env} {a:Act} {w:World} {o:Oper} {gl:Nat→Option (List PV)} {σ:St} {C:Ctx} (h:Ga C E σ a w) (hg:GOK gl C.E0.H) {f:Nat} {args:List V} (hf:qQ1 (σ.val gl) o.op=some (f,args)) (hdir:qHb P f) :
  ∃ vs:List Value,vs.length=args.length∧RepVL E args vs∧(execOp a.eval o).run P w = .ok (.enter f vs.toArray) w ∧ ∀ n∈qQg args,n∈σ.used:=by
 unfold qQ1 at hf
 split at hf
 ·rename_i fo as ats ho
  split at hf
  ·rename_i g caps ev
   cases hf
   have hv:=qQd h hg fo
   rw [ev] at hv
   simp only [RepV] at hv
   obtain⟨cs,hv,hcl,hcr⟩:=hv
   obtain⟨fn,hfn,hname,hbody⟩:=hdir
   have hargs:RepVL E (as.toList.map (σ.val gl)) (as.toList.map a.eval):=by
    have:∀ l:List Operand,RepVL E (l.map (σ.val gl)) (l.map a.eval):=by
     intro l
     induction l with
     | nil=>simp [RepVL]
     | cons x l ih=>grind [RepVL,qQd]
    simp_all
   have hnm:∀ n∈qQg (as.toList.map (σ.val gl)++caps),n∈σ.used:=by
    intro n hn
    obtain⟨c,hc,hn⟩:=mem_namesL.1 hn
    rcases List.mem_append.1 hc with hc|hc
    ·obtain⟨x,_,rfl⟩:=List.mem_map.1 hc
     grind [qQi]
    ·refine qQi (gl:=gl) h fo n ?_
     rw [ev]
     simp only [V.names]
     exact mem_namesL.2 ⟨c,hc,hn⟩
   refine⟨as.toList.map a.eval++cs,by simp [hcl],RepVL.append (by simp) hargs hcr,?_,hnm⟩
   have hb:¬ fn.body=none:=by grind
   have hname' : ¬ fn.name = "runtime.NumGoroutine" := by simp_all
   simp [execOp,ho,resolve,hv,Deferred.ofValue,invoke,callFunc,hfn,hname',hb]
  ·rename_i g bs ev
   cases hf
   have hv:=qQd h hg fo
   rw [ev] at hv
   simp only [RepV] at hv
   obtain⟨cs,hv,hcl,hcr⟩:=hv
   obtain⟨fn,hfn,hname,hbody⟩:=hdir
   have hargs:RepVL E (as.toList.map (σ.val gl)) (as.toList.map a.eval):=by
    have:∀ l:List Operand,RepVL E (l.map (σ.val gl)) (l.map a.eval):=by
     intro l
     induction l with
     | nil=>simp [RepVL]
     | cons x l ih=>grind [RepVL,qQd]
    simp_all
   have hnm:∀ n∈qQg (bs++as.toList.map (σ.val gl)),n∈σ.used:=by
    intro n hn
    obtain⟨c,hc,hn⟩:=mem_namesL.1 hn
    rcases List.mem_append.1 hc with hc|hc
    ·refine qQi (gl:=gl) h fo n ?_
     rw [ev]
     simp only [V.names]
     exact mem_namesL.2 ⟨c,hc,hn⟩
    ·obtain⟨x,_,rfl⟩:=List.mem_map.1 hc
     grind [qQi]
   refine⟨cs++as.toList.map a.eval,by simp [hcl],RepVL.append (by omega) hcr hargs,?_,hnm⟩
   have hb:¬ fn.body=none:=by grind
   have hname' : ¬ fn.name = "runtime.NumGoroutine" := by simp_all
   simp [execOp,ho,resolve,hv,Deferred.ofValue,invoke,callFunc,hfn,hname',hb]
  ·rename_i g ev
   cases hf
   have hv:=qQd h hg fo
   rw [ev] at hv
   simp only [RepV,RepP] at hv
   obtain⟨fn,hfn,hname,hbody⟩:=hdir
   have hargs:RepVL E (as.toList.map (σ.val gl)) (as.toList.map a.eval):=by
    have:∀ l:List Operand,RepVL E (l.map (σ.val gl)) (l.map a.eval):=by
     intro l
     induction l with
     | nil=>simp [RepVL]
     | cons x l ih=>simp only [List.map_cons,RepVL];exact⟨qQd h hg x,ih⟩
    exact this _
   have hnm:∀ n∈qQg (as.toList.map (σ.val gl)),n∈σ.used:=by
    intro n hn
    obtain⟨c,hc,hn⟩:=mem_namesL.1 hn
    obtain⟨x,_,rfl⟩:=List.mem_map.1 hc
    exact qQi h x n hn
   refine⟨as.toList.map a.eval,by simp,hargs,?_,hnm⟩
   have hb:¬ fn.body=none:=by intro e;rw [e] at hbody;cases hbody
   have hname' : ¬ fn.name = "runtime.NumGoroutine" := by simpa using hname
   simp [execOp,ho,resolve,hv,Deferred.ofValue,invoke,callFunc,hfn,hname',hb]
   apply Array.ext'
   simp
  ·cases hf
 ·cases hf
theorem qYr {C:Ctx} {E:Env} {σ:St} {a:Act} {w:World} (h:Ga C E σ a w) {args:List V} {objs:List (Nat × Ob)} (hn:∀ n∈qQg args,n∈σ.used) (hs:qWu objs σ.objs):∀ n∈qWv args objs,n∈σ.used:=by
 intro n hm
 rcases List.mem_append.1 hm with hm|hm
 ·simp_all
 ·obtain⟨m,o,ho,hm⟩:=qMd hs hm
  exact (h.usedO m o ho).2 n hm
theorem OpW.sound_call {X:Env1} {o:Oper} {σ:St} {f:Nat} {args:List V} {objs:List (Nat × Ob)} {x:V} {objs':List (Nat × Ob)} (hf:qQ1 (σ.val X.gl) o.op=some (f,args)) (hac:AC X.P X.gl f args objs (.ret x) objs') (hsub:qWu objs σ.objs) (hn:∀ n∈(qQz x objs objs').nw,n ∉ σ.used)
  {C:Ctx} {E:Env} {a:Act} {w:World} (hg:GOK X.gl C.E0.H) (hG:Ga C E σ a w) (hd:∀ d,o.dst=some d→d<C.nt)
  {K:Act→World→Prop} {Q:Exit→Act→World→Prop} (hK:∀ E' a' w',Ga C E' (σ.eff o.dst (qQz x objs objs')) a' w'→K a' w'):o.wp X.P a w K Q:=by
 obtain⟨vs,hl,hr,hrun,hnm⟩:=qKx hG hg hf hac.direct
 have hsub0:=hsub
 have hsub:=qZ0 hsub
 unfold Oper.wp
 rw [hrun]
 have hbase:qMe X.gl E w objs:=⟨hG.heap,hg.mono hG.hle,fun n o hn=>hG.objs n o (hsub n o hn),fun n m o o' hn hm=>hG.apart n m o o' (hsub n o hn) (hsub m o' hm)⟩
 refine (hac.calls E w vs hbase hl hr).mono ?_
 rintro e' w' ⟨E',hD,v,rfl,hv⟩
 refine hK E' _ _ (hG.called hD hsub ?_ (qYr hG hnm hsub0) hac.namesO hv hac.names hd)
 intro n hn'
 by_cases hk:n∈qQa objs
 ·simp_all
 ·right
  refine hn n ?_
  simp only [qQz,List.mem_filter]
  refine⟨hn',?_⟩
  cases e:qQc objs n with
  | none=>rfl
  | some o=>grind [absurd,qQe]
theorem qWa (d:Option Nat) (x:V) (l:List (Nat × V)) (t:Nat):qZi (qAd d x l) t=if d=some t then x else qZi l t:=by
 cases d with
 | none=>rfl
 | some d =>
  simp only [qAd,qZi]
  by_cases e:d=t
  ·simp
  ·rw [if_neg e,if_neg (fun h=>e (by cases h;rfl))]
theorem Ga.weakS {C:Ctx} {E:Env} {σ:St} {d:Option Nat} {x y:V} {wr:List (Nat × Option Ob)} {nw rd:List Nat} {a:Act} {w:World} (h:Ga C E (σ.eff d ⟨x,wr,nw,rd⟩) a w) (hx:VLe x y):Ga C E (σ.eff d ⟨y,wr,nw,rd⟩) a w:=by
 refine⟨fun t => ?_,h.size,h.defers,h.heap,h.objs,h.apart,fun t n hn => ?_,h.usedO,h.usedG,h.grown,h.rest,h.same,h.hle,h.own,h.ext,h.keep⟩
 ·have h1:=h.slots t
  simp only [St.eff,qWa] at h1 ⊢
  split
  ·rename_i e;rw [if_pos e] at h1;exact hx.1 _ _ h1
  simp_all
 ·have h1:=h.usedS t
  simp only [St.eff,qWa] at h1 hn
  split at hn
  ·rename_i e;rw [if_pos e] at h1;exact h1 n (hx.2 n hn)
  ·rename_i e;rw [if_neg e] at h1;exact h1 n hn
theorem OpW.sound {X:Env1} {o:Oper} {σ:St} {e:Eff} (h:OpW X o σ e) (hT:TOK X.P X.T) {C:Ctx} {E:Env} {a:Act} {w:World} (hg:GOK X.gl C.E0.H) (hG:Ga C E σ a w) (hd:∀ d,o.dst=some d→d<C.nt)
  {K:Act→World→Prop} {Q:Exit→Act→World→Prop} (hK:∀ E' a' w',Ga C E' (σ.eff o.dst e) a' w'→K a' w'):o.wp X.P a w K Q:=by
 induction h with
 | step note r hs hc hn =>
  obtain⟨v,w',E',hres,hG',_⟩:=qJo hT hg hG hd hs hc (by
   grind [R.eff])
  rw [qF4 σ o.dst r (rdN (σ.val X.gl) o.op)] at hG'
  exact hres.wp (hK E' _ _ hG')
 | call f args objs x objs' hf hac hsub hn=>grind [OpW.sound_call]
 | callR f args ro objs x objs' hf hac hro hsub hn =>
  have hnw:=qYq (x:=x) hro
  refine OpW.sound_call hf hac hsub (by rw [← hnw];exact hn) hg hG hd ?_
  intro E' a' w' hG'
  refine hK E' a' w' ?_
  have:=hG'.congrO (O':=qVn σ.objs (qWk objs objs')) (qD2 hro hsub)
  rw [← hnw] at this
  exact this
 | weak y h hx ih=>exact ih fun E' a' w' hG'=>hK E' a' w' (hG'.weakS hx)
def qXr:Eff:=⟨.pv (.tuple []),[],[],[]⟩
def Eff.wn (e:Eff):List Nat:=e.wr.map (·.1)
def qQl (S:Nat→Bool):Nat→List (Option Nat × Eff)→St→St
 | _,[],σ=>σ
 | k,(d,e)::r,σ=>qQl S (k+1) r (if S k then σ.eff d e else σ)
theorem qJf (dst:Option Nat) (x:V) (l:List (Nat × V)) (t:Nat):qZi (qAd dst x l) t=if dst=some t then x else qZi l t:=by
 cases dst with
 | none=>simp [qAd]
 | some d=>simp [qAd,qZi]
theorem qJ4 {S S':Nat→Bool} (t:Nat):∀ (l:List (Option Nat × Eff)) (k:Nat) (σ σ':St),(∀ i d e,l[i]? = some (d,e)→d=some t→S (k+i)=S' (k+i))→qZi σ.slots t=qZi σ'.slots t →
  qZi (qQl S k l σ).slots t=qZi (qQl S' k l σ').slots t
 | [],_,_,_,_,h=>h
 | (d,e)::r,k,σ,σ',hw,h=>by
  simp only [qQl]
  refine qJ4 t r (k+1) _ _ (fun i d' e' hi hd=>by have:=hw (i+1) d' e' (by simpa using hi) hd;rwa [show k+(i+1)=k+1+i by omega] at this) ?_
  have h0:=hw 0 d e rfl
  simp only [Nat.add_zero] at h0
  by_cases hd:d=some t
  ·have hs:=h0 hd
   rw [hs]
   split
   ·simp [St.eff,qJf,hd]
   ·exact h
  ·have e1:∀ s:St,qZi (if S k then s.eff d e else s).slots t=qZi s.slots t:=by
    intro s;split<;>simp [St.eff,qJf,hd]
   have e2:∀ s:St,qZi (if S' k then s.eff d e else s).slots t=qZi s.slots t:=by
    intro s;split<;>simp [St.eff,qJf,hd]
   rw [e1,e2,h]
theorem qYs {wr:List (Nat × Option Ob)} {n:Nat} (h:n ∉ wr.map (·.1)):qJe wr n=none:=by
 induction wr with
 | nil=>rfl
 | cons p r ih =>
  grind [qJe]
theorem qVu {S S':Nat→Bool} (n:Nat):∀ (l:List (Option Nat × Eff)) (k:Nat) (σ σ':St),(∀ i d e,l[i]? = some (d,e)→n∈e.wn→S (k+i)=S' (k+i))→qQc σ.objs n=qQc σ'.objs n →
  qQc (qQl S k l σ).objs n=qQc (qQl S' k l σ').objs n
 | [],_,_,_,_,h=>h
 | (d,e)::r,k,σ,σ',hw,h=>by
  simp only [qQl]
  refine qVu n r (k+1) _ _ (fun i d' e' hi hd=>by have:=hw (i+1) d' e' (by simpa using hi) hd;rwa [show k+(i+1)=k+1+i by omega] at this) ?_
  have h0:=hw 0 d e rfl
  simp only [Nat.add_zero] at h0
  by_cases hd:n∈e.wn
  ·have hs:=h0 hd
   rw [hs]
   split
   ·simp only [St.eff,qQ6,h]
   ·exact h
  ·have hno:=qYs (wr:=e.wr) hd
   have e1:∀ s:St,qQc (if S k then s.eff d e else s).objs n=qQc s.objs n:=by
    intro s;split<;>simp [St.eff,qQ6,hno]
   have e2:∀ s:St,qQc (if S' k then s.eff d e else s).objs n=qQc s.objs n:=by
    intro s;split<;>simp [St.eff,qQ6,hno]
   rw [e1,e2,h]
theorem qZv {S:Nat→Bool} (n:Nat):∀ (l:List (Option Nat × Eff)) (k:Nat) (σ:St),n∈(qQl S k l σ).used↔n∈σ.used ∨ ∃ i d e,l[i]? = some (d,e)∧S (k+i)=true∧n∈e.nw
 | [],_,σ=>by simp [qQl]
 | (d,e)::r,k,σ=>by
  simp only [qQl]
  rw [qZv n r (k+1)]
  constructor
  ·rintro (h|⟨i,d',e',hi,hs,hn⟩)
   ·by_cases hs:S k=true
    ·simp only [hs,if_true,St.eff,List.mem_append] at h
     rcases h with h|h
     ·exact .inr ⟨0,d,e,rfl,by omega,h⟩
     simp_all
    simp_all
   ·exact .inr ⟨i+1,d',e',by simp_all,by rwa [show k+(i+1)=k+1+i by omega],hn⟩
  ·rintro (h|⟨i,d',e',hi,hs,hn⟩)
   ·grind [St.eff]
   ·cases i with
    | zero =>
     grind [St.eff]
    | succ i=>grind
theorem qWl {S:Nat→Bool} (t:Nat):∀ (l:List (Option Nat × Eff)) (k i:Nat) (d:Option Nat) (e:Eff) (σ:St),l[i]? = some (d,e)→S (k+i)=false →
  (d=some t→∀ j d' e',i<j→l[j]? = some (d',e')→S (k+j)=true→d'≠some t) →
  qZi (qQl (fun m=>m == k+i || S m) k l σ).slots t=if d=some t then e.x else qZi (qQl S k l σ).slots t
 | [],_,_,_,_,_,hi,_,_=>by simp at hi
 | (d0,e0)::r,k,0,d,e,σ,hi,hs,hl=>by
  obtain⟨rfl,rfl⟩:=hi
  simp only [qQl,Nat.add_zero,beq_self_eq_true,Bool.true_or,if_true,hs]
  by_cases hd:d0=some t
  ·rw [qJ4 (S':=fun _=>false) t r (k+1) _ (σ.eff d0 e0) ?_ (by rw [hd])]
   ·have hf:∀ (r:List (Option Nat × Eff)) (k:Nat) (s:St),qQl (fun _=>false) k r s=s:=by
     intro r;induction r with
     | nil=>intro k s;rfl
     | cons p r ih=>grind [qQl]
    rw [hf]
    simp [St.eff,qJf,hd]
   ·intro i d' e' hi hd'
    have:=hl hd (i+1) d' e' (by omega) (by simp_all)
    grind
  ·grind [qJ4,St.eff,qJf]
 | (d0,e0)::r,k,i+1,d,e,σ,hi,hs,hl=>by
  simp only [qQl]
  have hk:(k == k+(i+1))=false:=by simp
  simp only [hk,Bool.false_or]
  have:=qWl (S:=S) t r (k+1) i d e (if S k then σ.eff d0 e0 else σ) (by simp_all) (by rwa [show k+1+i=k+(i+1) by omega]) (fun hd j d' e' hj hl' hs'=>hl hd (j+1) d' e' (by omega) (by simp_all) (by rwa [show k+(j+1)=k+1+j by omega]))
  rw [show k+(i+1)=k+1+i by omega]
  exact this
theorem qKc {S:Nat→Bool} (n:Nat):∀ (l:List (Option Nat × Eff)) (k i:Nat) (d:Option Nat) (e:Eff) (σ:St),l[i]? = some (d,e)→S (k+i)=false →
  (n∈e.wn→∀ j d' e',i<j→l[j]? = some (d',e')→S (k+j)=true→n ∉ e'.wn) →
  qQc (qQl (fun m=>m == k+i || S m) k l σ).objs n=match qJe e.wr n with|some o=>o|none=>qQc (qQl S k l σ).objs n
 | [],_,_,_,_,_,hi,_,_=>by simp at hi
 | (d0,e0)::r,k,0,d,e,σ,hi,hs,hl=>by
  simp only [List.getElem?_cons_zero,Option.some.injEq,Prod.mk.injEq] at hi
  obtain⟨rfl,rfl⟩:=hi
  simp only [Nat.add_zero] at hs
  simp only [qQl,Nat.add_zero,beq_self_eq_true,Bool.true_or,if_true,hs]
  by_cases hd:n∈e0.wn
  ·rw [qVu (S':=fun _=>false) n r (k+1) _ (σ.eff d0 e0) ?_ rfl]
   ·have hf:∀ (r:List (Option Nat × Eff)) (k:Nat) (s:St),qQl (fun _=>false) k r s=s:=by
     intro r;induction r with
     | nil=>intro k s;rfl
     | cons p r ih=>grind [qQl]
    rw [hf]
    simp only [St.eff,qQ6]
    have:∃ o,qJe e0.wr n=some o:=by
     have key:∀ wr:List (Nat × Option Ob),n∈wr.map (·.1)→∃ o,qJe wr n=some o:=by
      intro wr
      induction wr with
      | nil=>simp
      | cons p r ih =>
       simp only [qJe]
       cases hr:qJe r n with
       | some x=>simp
       | none =>
        simp_all
     exact key _ hd
    grind
   ·intro i d' e' hi hd'
    have:=hl hd (i+1) d' e' (by omega) (by simp_all)
    grind
  ·have hno:=qYs (wr:=e0.wr) hd
   grind [qVu,St.eff,qQ6]
 | (d0,e0)::r,k,i+1,d,e,σ,hi,hs,hl=>by
  simp only [qQl]
  have hk:(k == k+(i+1))=false:=by simp
  simp only [hk,Bool.false_or]
  have:=qKc (S:=S) n r (k+1) i d e (if S k then σ.eff d0 e0 else σ) (by simp_all) (by rwa [show k+1+i=k+(i+1) by omega]) (fun hd j d' e' hj hl' hs'=>hl hd (j+1) d' e' (by omega) (by simp_all) (by rwa [show k+(j+1)=k+1+j by omega]))
  rw [show k+(i+1)=k+1+i by omega]
  exact this
theorem Ga.of_ext {C:Ctx} {E:Env} {σ σ':St} {a:Act} {w:World} (h:Ga C E σ a w) (h1:∀ t,qZi σ'.slots t=qZi σ.slots t) (h2:∀ n,qQc σ'.objs n=qQc σ.objs n) (h3:∀ n,n∈σ.used→n∈σ'.used):Ga C E σ' a w :=
 ⟨fun t=>by rw [h1];exact h.slots t,h.size,⟨h.defers.1,fun n hn=>h3 n (h.defers.2 n hn)⟩,h.heap,fun n o hn=>h.objs n o (by rwa [h2] at hn),fun n m o o' hn hm=>h.apart n m o o' (by rwa [h2] at hn) (by rwa [h2] at hm),
  fun t n hn=>h3 n (h.usedS t n (by rwa [h1] at hn)),fun n o hn=>⟨h3 n (h.usedO n o (by rwa [h2] at hn)).1,fun m hm=>h3 m ((h.usedO n o (by rwa [h2] at hn)).2 m hm)⟩,fun n o hn=>h3 n (h.usedG n o hn),
  h.grown,h.rest,h.same,h.hle,fun n o b hn=>h.own n o b (by rwa [h2] at hn),h.ext,
  fun n hn=>⟨h3 n (h.keep n hn).1,by rw [h2];exact (h.keep n hn).2.1,(h.keep n hn).2.2⟩⟩
def gv (ops:List Oper) (σ:St) (j:Nat):V:=match ops[j]? with
 | some o=>match o.dst with
  | some d=>qZi σ.slots d
  | none => .undef
 | none => .undef
def qP2 (X:Env1) (dst:Option Nat):Prop:=match dst with
 | some d=>d<X.nt
 | none=>True
def qP3 (o:Option R) (K:R→Prop):Prop:=match o with
 | some r=>K r
 | none=>False
def qP4 (X:Env1) (draw:Bool) (Qp:PV→St→Prop) (f:Nat) (args:List V) (σ:St) (next:Eff→Prop):Prop :=
 ∃ objs out objs',AC X.P X.gl f args objs out objs'∧qWu objs σ.objs∧qDz ((qQa objs').filter (fun n=>(qQc objs n).isNone)) σ.used ∧
   match out with
   | .ret x=>next (qQz x objs objs') ∨ ∃ ro o1 o1',objs=ro++o1∧objs'=ro++o1'∧(∀ n∈qQa ro,n ∉ qQa o1∧n ∉ qQa o1')∧next (qJp x ro o1 o1')
   | .panic p=>draw=false∧Qp p (σ.eff none (qQz .undef objs objs'))
def zQl (c:Option (Nat × List V)) (yes:Nat→List V→Prop) (no:Prop):Prop:=match c with
 | some (f,args)=>yes f args
 | none=>no
def qTm (x:V) (Q:PV→Prop):Prop:=match x with
 | .pv (.iface t p)=>Q (.iface t p)
 | _=>False
def zQm (X:Env1) (draw:Bool) (o:Oper) (σ:St) (t:Nat) (m k:V) (ok:Bool) (next:Eff→Prop):Prop:=match X.T t with
 | some ⟨.map _ vt,_,_,_,_⟩=>match X.T vt,m,k with
  | some tv,.map n,.pv (.ptr ks)=>match qQc σ.objs n,qVm tv with
   | some (.cache D F),some z=>draw=false∧ok=true∧ks.any PV.nonint=true ∧
    ((D (.ptr ks) ∧ ∀ b:Bool,next ⟨.pv (.tuple [bif b then F (.ptr ks) else z,.bool b]),[],[],[]⟩) ∨
     ((∀ (H:Hp) (p:PV) (v:Value),D p→RepP H p v→RepP H (.ptr ks) v→False)∧next ⟨.pv (.tuple [z,.bool false]),[],[],[]⟩))
   | _,_=>False
  | _,_,_=>False
 | _=>qP3 (qQb X.T (X.note o.dst) (σ.val X.gl) (qQc σ.objs) o.dst o.op) fun r =>
    r.cond∧qDz (r.eff []).nw σ.used∧((draw=false→r.fact)→next (r.eff (rdN (σ.val X.gl) o.op)))
def qHc (X:Env1) (draw:Bool) (Qp:PV→St→Prop) (o:Oper) (σ:St) (next:Eff→Prop):Prop :=
 zQl (qQ1 (σ.val X.gl) o.op) (fun f args=>qP4 X draw Qp f args σ next)
  (match o.op with
  | .panic x=>qTm (σ.val X.gl x) (fun p=>draw=false∧Qp p σ)
  | .lookup t m k ok=>zQm X draw o σ t (σ.val X.gl m) (σ.val X.gl k) ok next
  | op=>qP3 (qQb X.T (X.note o.dst) (σ.val X.gl) (qQc σ.objs) o.dst op) fun r =>
    r.cond∧qDz (r.eff []).nw σ.used∧((draw=false→r.fact)→next (r.eff (rdN (σ.val X.gl) op))))
theorem qB0 {C:Ctx} {E:Env} {σ:St} {a:Act} {w:World} (h:Ga C E σ a w) {dst:Option Nat} (hd:∀ d,dst=some d→d<C.nt):Ga C E (σ.eff dst qXr) (a.put dst undef) w:=by
 have:=h.pure E.H dst (.pv (.tuple [])) undef (Hle.refl _) (Nat.le_refl _) ⟨rfl,rfl,rfl⟩ (fun _ _=>⟨rfl,rfl⟩) h.heap (by exact⟨[],rfl,rfl,by simp [RepL]⟩) (by simp [V.names]) hd
 exact this
theorem qA4 {C:Ctx} {E:Env} {σ:St} {a:Act} {w:World} {ops:List Oper} (h:Ga C E σ a w) {j:Nat} (hg:gv ops σ j = .pv (.tuple [])):yielded ops.toArray a.tmps j=none:=by
 unfold gv at hg
 split at hg
 ·rename_i o ho
  split at hg
  ·rename_i d hd
   have hr:=h.slots d
   rw [hg] at hr
   obtain⟨vs,hv,hl,_⟩:=hr
   rw [Array.getD_eq_getD_getElem?] at hv
   cases e:a.tmps[d]? with
   | none=>simp [yielded,ho,hd,e]
   | some v =>
    rw [e] at hv
    subst hv
    simp [yielded,ho,hd,e]
  ·cases hg
 ·cases hg
theorem qB1 {C:Ctx} {E:Env} {σ:St} {a:Act} {w:World} {ops:List Oper} (h:Ga C E σ a w) {j:Nat} {b:Bool} (hg:gv ops σ j = .pv (.bool b)):yielded ops.toArray a.tmps j=some b:=by
 unfold gv at hg
 split at hg
 ·rename_i o ho
  split at hg
  ·rename_i d hd
   have hr:=h.slots d
   rw [hg] at hr
   have hr:=qZe hr
   have hs:a.tmps[d]? = some (.bool b):=by
    rw [Array.getD_eq_getD_getElem?] at hr
    cases e:a.tmps[d]? with
    | none=>rw [e] at hr;simp [undef] at hr
    | some v=>simp_all
   simp [yielded,ho,hd,hs]
  ·cases hg
 ·cases hg
theorem qMg {P:Program} {w:World} {t:Nat} {v:Value} : (Instr.panic (.iface t v)).run P w = .halt (.panic (.iface t v)) w:=by
 rfl
section
variable {X:Env1} {C:Ctx}
theorem qD3 (hT:TOK X.P X.T) (hg:GOK X.gl C.E0.H) {Qp:PV→St→Prop} {Q:Exit→Act→World→Prop} {K:Act→World→Prop} {o:Oper} {σ:St} {next:Eff→Prop} {E:Env} {a:Act} {w:World} (hG:Ga C E σ a w) (hd:∀ d,o.dst=some d→d<C.nt)
  (hK:∀ e E' a' w',next e→Ga C E' (σ.eff o.dst e) a' w'→K a' w')
  (hQ:∀ E σ p v a w,Ga C E σ a w→Qp p σ→RepP E.H p v→Q (.panic [{ v,recovered:=false }]) a w) (h:qHc X false Qp o σ next):o.wp X.P a w K Q:=by
 unfold qHc zQl at h
 split at h
 ·rename_i f args hf
  obtain⟨objs,out,objs',hac,hsub0,hfr,hout⟩:=h
  have hsub:=qZ0 hsub0
  have hfr:=qVa hfr
  cases out with
  | ret x =>
   simp only at hout
   rcases hout with hout|⟨ro,o1,o1',rfl,rfl,hro,hout⟩
   ·exact (OpW.call (X:=X) f args objs x objs' hf hac hsub0 hfr).sound hT hg hG hd (fun E' a' w' hG'=>hK _ E' a' w' hout hG')
   ·exact (OpW.callR (X:=X) f args ro o1 x o1' hf hac hro hsub0 (by rw [qYq hro];exact hfr)).sound hT hg hG hd (fun E' a' w' hG'=>hK _ E' a' w' hout hG')
  | panic p =>
   simp only at hout
   obtain⟨vs,hl,hrv,hrun,hnm⟩:=qKx hG hg hf hac.direct
   unfold Oper.wp
   rw [hrun]
   simp only [Oper.upon]
   have hbase:qMe X.gl E w objs:=⟨hG.heap,hg.mono hG.hle,fun n o hn=>hG.objs n o (hsub n o hn),fun n m o o' hn hm=>hG.apart n m o o' (hsub n o hn) (hsub m o' hm)⟩
   refine (hac.calls E w vs hbase hl hrv).mono ?_
   rintro e' w' ⟨E',hD,v,rfl,hv⟩
   have hG':=hG.called (dst:=none) (x:=.undef) (v:=undef) hD hsub (by
    intro n hn'
    by_cases hk:n∈qQa objs
    ·simp_all
    ·right
     refine hfr n ?_
     simp only [List.mem_filter]
     refine⟨hn',?_⟩
     cases e:qQc objs n with
     | none=>rfl
     | some o=>grind [absurd,qQe]) (qYr hG hnm hsub0) hac.namesO (by simp [RepV]) (by simp [V.names]) (by simp)
   exact hQ E' _ p v a w' hG' hout.2 hv
 ·split at h
  ·rename_i x hx
   unfold qTm at h
   split at h
   ·rename_i t p hv
    have hr:=qQd hG hg x
    rw [hv] at hr
    have hr':=hr
    obtain⟨u,hu,hru⟩:=hr
    unfold Oper.wp
    have:(execOp a.eval o).run X.P w = .halt (.panic (.iface t u)) w:=by
     simp [execOp,hx,hu,qMg]
    simp only [Oper.upon]
    grind [RepV]
   ·cases h
  ·rename_i t m k ok hx'
   have hm:=qQd hG hg m
   have hk:=qQd hG hg k
   unfold zQm at h
   split at h
   ·rename_i kt vt s1 s2 s3 s4 et
    obtain⟨d,hde,hkk⟩:=(hT t _ et).desc
    simp only [qK9] at hkk
    obtain⟨rfl,e,hu,hei⟩:=hkk
    obtain⟨i,hi,hsz⟩:=qG5 hei
    split at h
    ·rename_i tv n ks ev em ek
     rw [em] at hm;rw [ek] at hk
     split at h
     ·rename_i D F z eo ez
      obtain⟨_,rfl,hni,hnext⟩:=h
      have htv:=hT vt _ ev
      simp only [RepV] at hk
      obtain⟨hcoh,u,b,hrun,h1,h2⟩:=qIs hde hu hi hsz htv hG eo hm hk hni
      have hz:RepP E.H z tv.zero:=by
       unfold qVm at ez
       split at ez
       ·rename_i zz e0
        cases ez
        simp only [RepP]
        have hz:=htv.zcells
        have h3:=htv.zlen
        have h4:=htv.zc
        rw [e0] at hz h3 ⊢
        simp only [Value.cells] at hz h3
        refine⟨zz.toList,by simp,?_,RepL.mono (Hle.zero _) _ _ _ List.prefix_rfl hz⟩
        simp;omega
       ·unfold zYy at ez
        split at ez<;>cases ez
        all_goals
         rename_i e0
         rw [e0]
         first|(simp [RepP];done)|(simp only [RepP];exact⟨by rw [qWs],qKq _⟩)
      have fin:∀ (x:PV) (c:Bool),next ⟨.pv (.tuple [x,.bool c]),[],[],[]⟩→RepP E.H x u→c=b→o.wp X.P a w K Q:=by
       intro x c hn hx hc
       subst hc
       have hres:OpRes X.P o a w (.tuple #[u,.bool c]) w:=.inl (by simp [execOp,hx',hrun])
       refine hres.wp (hK _ E _ _ hn ?_)
       exact hG.pure E.H o.dst _ _ (Hle.refl _) (Nat.le_refl _) ⟨rfl,rfl,rfl⟩ (fun _ _=>⟨rfl,rfl⟩) hG.heap (by
        simp only [RepV]
        rw [RepP]
        exact⟨[u,.bool c],rfl,rfl,by rw [RepL,RepL,RepL];exact⟨hx,by simp [RepP],trivial⟩⟩) (by simp [V.names]) hd
      rcases hnext with ⟨hD,hnext⟩|⟨hN,hnext⟩
      ·refine fin _ b (hnext b) ?_ rfl
       cases b with
       | true =>
        obtain⟨p,hp,hpk,hpv⟩:=h1 rfl
        have:F p=F (.ptr ks):=hcoh E.H p (.ptr ks) _ hp hD hpk hk
        rw [← this]
        exact hpv
       | false =>
        rw [h2 rfl]
        exact hz
      ·cases b with
       | true =>
        obtain⟨p,hp,hpk,hpv⟩:=h1 rfl
        exact (hN E.H p _ hp hpk hk).elim
       | false =>
        refine fin _ false hnext ?_ rfl
        rw [h2 rfl]
        exact hz
     ·cases h
    ·cases h
   ·unfold qP3 at h
    split at h
    ·rename_i r hs
     obtain⟨hc,hfr,hrest⟩:=h
     obtain⟨v,w',E',hres,hG',hfact⟩:=qJo hT hg hG hd hs hc (by
      intro n x hw hnew
      refine qVa hfr n ?_
      simp [R.eff,hw,hnew])
     rw [qF4 σ o.dst r (rdN (σ.val X.gl) o.op)] at hG'
     exact hres.wp (hK _ E' _ _ (hrest (fun _=>hfact)) hG')
    ·cases h
  ·unfold qP3 at h
   split at h
   ·rename_i r hs
    obtain⟨hc,hfr,hrest⟩:=h
    obtain⟨v,w',E',hres,hG',hfact⟩:=qJo hT hg hG hd hs hc (by
     intro n x hw hnew
     refine qVa hfr n ?_
     simp [R.eff,hw,hnew])
    rw [qF4 σ o.dst r (rdN (σ.val X.gl) o.op)] at hG'
    exact hres.wp (hK _ E' _ _ (hrest (fun _=>hfact)) hG')
   ·cases h
end
def qB2 (o:Oper):List Nat:=(o.after.toList.filter (Region.binds .any)).map (·.on)
def qMh (ms:List Nat) (l:List Nat):Nat:=l.foldl (fun m i=>m ||| (1 <<< i) ||| ms.getD i 0) 0
def qWj:List Oper→List Nat→List Nat
 | [],ms=>ms
 | o::r,ms=>qWj r (ms++[qMh ms (qB2 o)])
def qQq (ops:Array Oper) (o1:Oper) (e1:Eff) (o2:Oper) (e2:Eff):Bool :=
 (match o1.dst with|some d=>(o2.looksAt ops).contains d || o2.dst == some d|none=>false) ||
 (match o2.dst with|some d=>(o1.looksAt ops).contains d|none=>false) ||
 e1.wn.any (fun n=>e2.rd.contains n || e2.wn.contains n) || e2.wn.any (fun n=>e1.rd.contains n)
def qJ5 (ops:List Oper) (es:List Eff):Bool :=
 (List.range ops.length).all fun j=>match ops[j]?,es[j]? with
  | some oj,some ej=>(qB2 oj).all (fun i=>decide (i<j)) && (List.range j).all fun i=>match ops[i]?,es[i]? with
   | some oi,some ei => !qQq ops.toArray oi ei oj ej || ((qWj ops []).getD j 0).testBit i
   | _,_=>false
  | _,_=>false
theorem qA5 (ms:List Nat) (i:Nat):∀ (l:List Nat) (m:Nat),(l.foldl (fun m i=>m ||| (1 <<< i) ||| ms.getD i 0) m).testBit i=true→m.testBit i=true ∨ ∃ d∈l,d=i∨(ms.getD d 0).testBit i=true
 | [],m,h => .inl h
 | d::l,m,h=>by
  rcases qA5 ms i l _ h with h|⟨d',hd',h⟩
  ·simp only [Nat.testBit_or,Bool.or_eq_true] at h
   rcases h with (h|h)|h
   ·exact .inl h
   ·right
    refine⟨d,by simp,.inl ?_⟩
    simp only [Nat.testBit_shiftLeft,Bool.and_eq_true,decide_eq_true_eq] at h
    obtain⟨h1,h2⟩:=h
    have:i-d=0:=by
     cases hq:i-d with
     | zero=>rfl
     | succ k=>rw [hq] at h2;simp [Nat.testBit_succ] at h2
    omega
   ·exact .inr ⟨d,by simp,.inr h⟩
  ·exact .inr ⟨d',by simp [hd'],h⟩
theorem qYt:∀ (l:List Oper) (ms:List Nat) (j:Nat),j<ms.length→(qWj l ms)[j]? = ms[j]?
 | [],_,_,_=>rfl
 | o::r,ms,j,h=>by
  simp only [qWj]
  rw [qYt r _ j (by simp;omega),List.getElem?_append_left h]
theorem qHd:∀ (l:List Oper) (ms:List Nat) (i:Nat) (o:Oper),l[i]? = some o→∃ ms',(qWj l ms)[ms.length+i]? = some (qMh ms' (qB2 o)) ∧ ∀ d,(ms'.getD d 0=0∨ms'.getD d 0=(qWj l ms).getD d 0)
 | [],_,_,_,h=>by simp at h
 | o'::r,ms,0,o,h=>by
  simp only [List.getElem?_cons_zero,Option.some.injEq] at h
  subst h
  simp only [qWj]
  refine⟨ms,?_,fun d => ?_⟩
  ·rw [qYt r _ _ (by simp)]
   simp
  grind [qYt]
 | o'::r,ms,i+1,o,h=>by
  simp only [qWj]
  have:=qHd r (ms++[qMh ms (qB2 o')]) i o (by simp_all)
  grind
def Txt (X:Env1) (ops:List Oper) (o:Oper) (σ:St) (e:Eff):Prop :=
 qP2 X o.dst∧((o.guard=none∧OpW X o σ e)∨(∃ j want b,o.guard=some (j,want)∧gv ops σ j = .pv (.bool b)∧((b=want∧OpW X o σ e)∨(b≠want∧e=qXr))) ∨ ∃ j want,o.guard=some (j,want)∧gv ops σ j = .pv (.tuple [])∧e=qXr)
def qVc (X:Env1) (ops:List Oper):List Oper→List Eff→St→Prop
 | [],[],_=>True
 | o::l,e::es,σ=>Txt X ops o σ e∧qVc X ops l es (σ.eff o.dst e)
 | _,_,_=>False
def qWm (l:List Oper) (es:List Eff):List (Option Nat × Eff):=(l.map (·.dst)).zip es
theorem qMi {X:Env1} {ops:List Oper} : ∀ (l:List Oper) (es:List Eff) (k:Nat) (σ:St),qVc X ops l es σ→∀ i o e,l[i]? = some o→es[i]? = some e →
  Txt X ops o (qQl (fun m=>decide (m<k+i)) k (qWm l es) σ) e
 | [],_,_,_,_,i,o,e,h,_=>by simp at h
 | o'::l,[],_,_,h,_,_,_,_,_=>by simp_all
 | o'::l,e'::es,k,σ,h,0,o,e,ho,he=>by
  simp only [List.getElem?_cons_zero,Option.some.injEq] at ho he
  subst ho he
  have hf:∀ (l:List (Option Nat × Eff)) (j:Nat) (s:St),k≤j→qQl (fun m=>decide (m<k+0)) j l s=s:=by
   intro l
   induction l with
   | nil=>intro j s _;rfl
   | cons p r ih =>
    grind [qQl,decide_false]
  rw [hf _ k σ (Nat.le_refl _)]
  exact h.1
 | o'::l,e'::es,k,σ,h,i+1,o,e,ho,he=>by
  have:=qMi l es (k+1) _ h.2 i o e (by simp_all) (by simp_all)
  grind [qWm,List.zip_cons_cons,qQl]
theorem qMj:∀ (l:List Bool) (i:Nat),l[i]? = some false→(l.set i true).count false+1=l.count false
 := by grind
section
variable {X:Env1} {C:Ctx}
theorem qP5 (hT:TOK X.P X.T) (hg:GOK X.gl C.E0.H) (hnt:C.nt=X.nt) {ops:List Oper} {es:List Eff} {σ:St} {Q:Exit→Act→World→Prop} (hlen:es.length=ops.length) {L:Nat→Bool} {jp:Nat}
  (hL:∀ i o,ops[i]? = some o→(L i=true↔i≠jp ∧ ∀ d∈qB2 o,L d=true))
  (htext:∀ i o e,L i=true→ops[i]? = some o→es[i]? = some e→Txt X ops o (qQl (fun m=>L m && decide (m<i)) 0 (qWm ops es) σ) e) (hcheck:qJ5 ops es=true)
  (hQ:ops.length≤jp→∀ E a w,Ga C E (qQl (fun _=>true) 0 (qWm ops es) σ) a w→Q .normal a w)
  (hp:∀ op,ops[jp]? = some op→op.guard=none ∧ ∃ f args objs p,qQ1 ((qQl (fun m=>L m && decide (m<jp)) 0 (qWm ops es) σ).val X.gl) op.op=some (f,args)∧AC X.P X.gl f args objs (.panic p) [] ∧
   qWu objs (qQl (fun m=>L m && decide (m<jp)) 0 (qWm ops es) σ).objs∧es[jp]? = some ⟨.undef,[],[],qQa objs⟩ ∧ ∀ E τ a w v,Ga C E τ a w→RepP E.H p v→Q (.panic [{ v,recovered:=false }]) a w) :
  ∀ (fuel:Nat) (listed:Array Bool) (E:Env) (a:Act) (w:World),listed.size=ops.length→listed.toList.count false≤fuel→(∀ j,listed.getD j false=true→L j=true) →
   (∀ j,listed.getD j false=true→∀ i,((qWj ops []).getD j 0).testBit i=true→listed.getD i false=true) →
   Ga C E (qQl (fun m=>listed.getD m false) 0 (qWm ops es) σ) a w→wpAny X.P .any ops.toArray Q fuel listed a w:=by
 -- what the check says
 have hck:∀ (j:Nat) (oj:Oper) (ej:Eff),ops[j]? = some oj→es[j]? = some ej→(∀ d∈qB2 oj,d<j) ∧ ∀ (i:Nat) (oi:Oper) (ei:Eff),i<j→ops[i]? = some oi→es[i]? = some ei→qQq ops.toArray oi ei oj ej=true→((qWj ops []).getD j 0).testBit i=true:=by
  intro j oj ej hoj hej
  have hjl:j<ops.length:=(List.getElem?_eq_some_iff.1 hoj).1
  unfold qJ5 at hcheck
  rw [List.all_eq_true] at hcheck
  have hj:=hcheck j (by simp_all)
  grind
 have hget:∀ (i:Nat) (o:Oper) (e:Eff),ops[i]? = some o→es[i]? = some e→(qWm ops es)[i]? = some (o.dst,e):=by
  intro i o e ho he
  simp [qWm,List.getElem?_zip_eq_some,ho,he]
 have hget':∀ (i:Nat) (d:Option Nat) (e:Eff),(qWm ops es)[i]? = some (d,e)→∃ o,ops[i]? = some o∧o.dst=d∧es[i]? = some e:=by
  intro i d e h
  simp only [qWm,List.getElem?_zip_eq_some,List.getElem?_map,Option.map_eq_some_iff] at h
  obtain⟨⟨o,ho,hd⟩,he⟩:=h
  exact⟨o,ho,hd,he⟩
 -- the bits of an operation that is ready
 have hready:∀ (S:Nat→Bool) (j:Nat) (oj:Oper),ops[j]? = some oj→(∀ d∈qB2 oj,S d=true)→(∀ k,S k=true→∀ i,((qWj ops []).getD k 0).testBit i=true→S i=true)→∀ i,((qWj ops []).getD j 0).testBit i=true→S i=true:=by
  intro S j oj hoj hed hcl i hbit
  obtain⟨ms',h1,h2⟩:=qHd ops [] j oj hoj
  simp only [List.length_nil,Nat.zero_add] at h1
  rw [List.getD_eq_getElem?_getD,h1] at hbit
  simp only [Option.getD_some] at hbit
  rcases qA5 ms' i _ 0 hbit with h0|⟨d,hd,h0⟩
  ·simp at h0
  ·rcases h0 with rfl|h0
   ·exact hed d hd
   ·rcases h2 d with h3|h3
    ·rw [h3] at h0;simp at h0
    ·rw [h3] at h0
     exact hcl d (hed d hd) i h0
 have hallQ:∀ (listed:Array Bool) (E:Env) (a:Act) (w:World),listed.size=ops.length→(∀ i,i<ops.length→listed.getD i false=true)→(∀ j,listed.getD j false=true→L j=true)→Ga C E (qQl (fun m=>listed.getD m false) 0 (qWm ops es) σ) a w→Q .normal a w:=by
  intro listed E a w hs hall hunp hG
  refine hQ (Nat.le_of_not_lt fun h=>((hL jp _ (List.getElem?_eq_getElem h)).1 (hunp jp (hall jp h))).1 rfl) E a w (hG.of_ext ?_ ?_ ?_)
  ·intro t
   refine qJ4 t _ 0 σ σ (fun i d e hi _ => ?_) rfl
   obtain⟨o,ho,_⟩:=hget' i d e hi
   rw [Nat.zero_add,hall i (List.getElem?_eq_some_iff.1 ho).1]
  ·intro n
   refine qVu n _ 0 σ σ (fun i d e hi _ => ?_) rfl
   obtain⟨o,ho,_⟩:=hget' i d e hi
   rw [Nat.zero_add,hall i (List.getElem?_eq_some_iff.1 ho).1]
  ·intro n hn
   rw [qZv] at hn ⊢
   rcases hn with hn|⟨i,d,e,hi,_,hne⟩
   ·exact .inl hn
   ·exact .inr ⟨i,d,e,hi,rfl,hne⟩
 have hnil:∀ (listed:Array Bool),listed.size=ops.length→Region.ready .any ops.toArray listed=[]→∀ i,i<ops.length→listed.getD i false=true:=by
  intro listed hs hnil i
  induction i using Nat.strongRecOn with
  | _ i ih =>
   intro hi
   cases hb:listed.getD i false with
   | true=>rfl
   | false =>
    exfalso
    have hoi:ops[i]? = some ops[i]:=List.getElem?_eq_getElem hi
    have hei:es[i]? = some es[i]:=List.getElem?_eq_getElem (by omega)
    have hmem:i∈Region.ready .any ops.toArray listed:=by
     unfold Region.ready
     rw [List.mem_filter]
     refine⟨by simpa using hi,?_⟩
     have h1:listed.getD i true=false:=by
      rw [Array.getD_eq_getD_getElem?] at hb ⊢
      rw [Array.getElem?_eq_getElem (by omega)] at hb ⊢
      simpa using hb
     simp only [h1,Bool.not_false,Bool.true_and,List.getElem?_toArray,hoi,Option.map_some,Option.getD_some]
     rw [Array.all_eq_true']
     intro ed hed
     by_cases hbd:Region.binds .any ed=true
     ·have hlt:=(hck i _ _ hoi hei).1 ed.on (List.mem_map_of_mem (List.mem_filter.2 ⟨by simpa using hed,hbd⟩))
      rw [ih ed.on hlt (by omega)]
      simp
     ·simp [hbd]
    rw [hnil] at hmem
    simp at hmem
 intro fuel
 induction fuel with
 | zero =>
  intro listed E a w hs hcnt hunp hcl hG
  have hall:∀ i,i<ops.length→listed.getD i false=true:=by
   intro i hi
   have h0:listed.toList.count false=0:=by omega
   rw [List.count_eq_zero] at h0
   rw [Array.getD_eq_getD_getElem?,Array.getElem?_eq_getElem (by omega)]
   simp only [Option.getD_some]
   cases hb:listed[i] with
   | true=>rfl
   | false=>exact absurd (by rw [← hb];simp) h0
  refine⟨?_,hallQ listed E a w hs hall hunp hG⟩
  unfold Region.ready
  rw [List.filter_eq_nil_iff]
  intro i hi
  have hi':i<ops.length:=by simpa using hi
  have:=hall i hi'
  have h1:listed.getD i true=true:=by
   rw [Array.getD_eq_getD_getElem?] at this ⊢
   rw [Array.getElem?_eq_getElem (by omega)] at this ⊢
   simpa using this
  simp [h1]
 | succ fuel ih =>
  intro listed E a w hs hcnt hunp hcl hG
  refine⟨fun hn=>hallQ listed E a w hs (hnil listed hs hn) hunp hG,?_⟩
  intro i hi
  unfold Region.ready at hi
  rw [List.mem_filter] at hi
  obtain⟨hi,hrd⟩:=hi
  have hi:i<ops.length:=by simpa using hi
  have hoi:ops[i]? = some ops[i]:=List.getElem?_eq_getElem hi
  have hei:es[i]? = some es[i]:=List.getElem?_eq_getElem (by omega)
  generalize ops[i]=o at hoi hrd
  generalize es[i]=e at hei
  simp only [List.getElem?_toArray,hoi,Option.map_some,Option.getD_some,Bool.and_eq_true,Bool.not_eq_true'] at hrd
  obtain⟨hun,hpre⟩:=hrd
  have hSi:listed.getD i false=false:=by
   rw [Array.getD_eq_getD_getElem?] at hun ⊢
   rw [Array.getElem?_eq_getElem (by omega)] at hun ⊢
   simpa using hun
  have hed:∀ d∈qB2 o,listed.getD d false=true:=by
   intro d hd
   obtain⟨ed,hed,rfl⟩:=List.mem_map.1 hd
   obtain⟨hed,hbd⟩:=List.mem_filter.1 hed
   rw [Array.all_eq_true'] at hpre
   have:=hpre ed (by simpa using hed)
   simpa [hbd] using this
  have hbits:=hready (fun m=>listed.getD m false) i o hoi hed hcl
  -- conflicts
  have hbefore:∀ (j:Nat) (oj:Oper) (ej:Eff),j<i→ops[j]? = some oj→es[j]? = some ej→qQq ops.toArray oj ej o e=true→listed.getD j false=true :=
   fun j oj ej hj hoj hej hc=>hbits j ((hck i o e hoi hei).2 j oj ej hj hoj hej hc)
  have hafter:∀ (j:Nat) (oj:Oper) (ej:Eff),i<j→ops[j]? = some oj→es[j]? = some ej→qQq ops.toArray o e oj ej=true→listed.getD j false=false:=by
   intro j oj ej hj hoj hej hc
   cases hb:listed.getD j false with
   | false=>rfl
   | true =>
    have:=hcl j hb i ((hck j oj ej hoj hej).2 i o e hj hoi hei hc)
    rw [hSi] at this
    cases this
  -- slots that are read
  have hslot:∀ t,t∈o.looksAt ops.toArray→qZi (qQl (fun m=>L m && decide (m<i)) 0 (qWm ops es) σ).slots t=qZi (qQl (fun m=>listed.getD m false) 0 (qWm ops es) σ).slots t:=by
   intro t ht
   refine qJ4 t _ 0 σ σ (fun j d e' hj hd => ?_) rfl
   rw [Nat.zero_add]
   obtain⟨oj,hoj,hdj,hej⟩:=hget' j d e' hj
   rw [hd] at hdj
   rcases Nat.lt_trichotomy j i with hlt|heq|hgt
   ·have hc:qQq ops.toArray oj e' o e=true:=by
     simp only [qQq,hdj,List.contains_eq_mem,ht,decide_true,Bool.true_or]
    rw [hbefore j oj e' hlt hoj hej hc,hunp j (hbefore j oj e' hlt hoj hej hc)]
    simp [hlt]
   ·subst heq
    rw [hSi]
    simp
   ·have hc:qQq ops.toArray o e oj e'=true:=by
     simp only [qQq,hdj,List.contains_eq_mem,ht,decide_true,Bool.or_true,Bool.true_or]
    rw [hafter j oj e' hgt hoj hej hc,decide_eq_false (show ¬j<i by omega),Bool.and_false]
  have hobj:∀ n,n∈e.rd→qQc (qQl (fun m=>L m && decide (m<i)) 0 (qWm ops es) σ).objs n=qQc (qQl (fun m=>listed.getD m false) 0 (qWm ops es) σ).objs n:=by
   intro n hn
   refine qVu n _ 0 σ σ (fun j d e' hj hd => ?_) rfl
   rw [Nat.zero_add]
   obtain⟨oj,hoj,hdj,hej⟩:=hget' j d e' hj
   rcases Nat.lt_trichotomy j i with hlt|heq|hgt
   ·have hc:qQq ops.toArray oj e' o e=true:=by
     simp only [qQq,Bool.or_eq_true,List.any_eq_true]
     exact .inl (.inr ⟨n,hd,.inl (by simpa using hn)⟩)
    rw [hbefore j oj e' hlt hoj hej hc,hunp j (hbefore j oj e' hlt hoj hej hc)]
    simp [hlt]
   ·subst heq
    rw [hSi]
    simp
   ·have hc:qQq ops.toArray o e oj e'=true:=by
     simp only [qQq,Bool.or_eq_true,List.any_eq_true]
     exact .inr ⟨n,hd,by simpa using hn⟩
    rw [hafter j oj e' hgt hoj hej hc,decide_eq_false (show ¬j<i by omega),Bool.and_false]
  have hval:∀ x∈o.op.operands,(qQl (fun m=>L m && decide (m<i)) 0 (qWm ops es) σ).val X.gl x=(qQl (fun m=>listed.getD m false) 0 (qWm ops es) σ).val X.gl x:=by
   intro x hx
   cases x with
   | tmp t =>
    refine hslot t ?_
    simp only [Oper.looksAt,List.mem_append,List.mem_filterMap]
    exact .inl ⟨.tmp t,by simpa using hx,rfl⟩
   | const v=>rfl
   | func f=>rfl
   | global g=>rfl
  by_cases hij:i=jp
  ·subst hij
   obtain⟨hgd,f,args,objs,p,hf,hac,hsub,hep,hQp⟩:=hp o hoi
   rw [hep] at hei
   cases hei
   unfold wpOp
   simp only [List.getElem?_toArray,hoi]
   rw [if_pos (by simp [Region.wanted,hgd])]
   left
   rw [qJu hval] at hf
   have hsub:=qKw (fun n hn=>hobj n hn) hsub
   obtain⟨vs,hl,hrv,hrun,hnm⟩:=qKx hG hg hf hac.direct
   unfold Oper.wp
   rw [hrun]
   simp only [Oper.upon]
   have hsub2:=qZ0 hsub
   refine (hac.calls E w vs ⟨hG.heap,hg.mono hG.hle,fun n o hn=>hG.objs n o (hsub2 n o hn),fun n m o o' hn hm=>hG.apart n m o o' (hsub2 n o hn) (hsub2 m o' hm)⟩ hl hrv).mono ?_
   rintro e' w' ⟨E',hD,v,rfl,hv⟩
   exact hQp E' _ a w' v (hG.called (dst:=none) (x:=.undef) (v:=undef) hD hsub2 (by simp [qQa]) (qYr hG hnm hsub) hac.namesO (by simp [RepV]) (by simp [V.names]) (by simp)) hv
  have hLi:L i=true:=(hL i o hoi).2 ⟨hij,fun d hd=>hunp d (hed d hd)⟩
  have htx:=htext i o e hLi hoi hei
  have hnw:∀ (j:Nat) (oj:Oper) (ej:Eff),L j=true→ops[j]? = some oj→es[j]? = some ej→∀ n∈ej.nw,n ∉ (qQl (fun m=>L m && decide (m<j)) 0 (qWm ops es) σ).used:=by
   intro j oj ej hLj hoj hej n hn
   have:=htext j oj ej hLj hoj hej
   have key:∀ s,OpW X oj s ej→∀ n∈ej.nw,n ∉ s.used:=by
    intro s hw
    clear this
    clear hn hej
    induction hw with
    | weak y h hx ih=>exact ih
    | step note r hs hc hnn=>exact hnn
    | call f args objs x objs' hf hac hsub hnn=>exact hnn
    | callR f args ro objs x objs' hf hac hro hsub hnn=>exact hnn
   rcases this.2 with ⟨_,hw⟩|⟨_,_,_,_,_,⟨_,hw⟩|⟨_,rfl⟩⟩|⟨_,_,_,_,rfl⟩
   ·exact key _ hw n hn
   ·exact key _ hw n hn
   ·simp [qXr] at hn
   ·simp [qXr] at hn
  have hnew:∀ n∈e.nw,n ∉ (qQl (fun m=>listed.getD m false) 0 (qWm ops es) σ).used:=by
   intro n hn hu
   rw [qZv] at hu
   have h0:=hnw i o e hLi hoi hei n hn
   rw [qZv] at h0
   simp only [not_or,not_exists,not_and] at h0
   rcases hu with hu|⟨j,d,ej,hj,hSj,hnj⟩
   ·exact h0.1 hu
   ·rw [Nat.zero_add] at hSj
    obtain⟨oj,hoj,hdj,hej⟩:=hget' j d ej hj
    rcases Nat.lt_trichotomy j i with hlt|heq|hgt
    ·exact h0.2 j d ej hj (by simp [hlt,hunp j hSj]) hnj
    ·subst heq;rw [hSi] at hSj;cases hSj
    ·have h1:=hnw j oj ej (hunp j hSj) hoj hej n hnj
     rw [qZv] at h1
     simp only [not_or,not_exists,not_and] at h1
     exact h1.2 i o.dst e (hget i o e hoi hei) (by simp [hgt,hLi]) hn
  have hd:∀ d,o.dst=some d→d<C.nt:=by
   intro d hd'
   have:=htx.1
   rw [hd'] at this
   rw [hnt]
   exact this
  -- the state behind it
  have hnext:∀ E' a' w',Ga C E' ((qQl (fun m=>listed.getD m false) 0 (qWm ops es) σ).eff o.dst e) a' w'→wpAny X.P .any ops.toArray Q fuel (listed.setIfInBounds i true) a' w':=by
   intro E' a' w' hG'
   have hS':(fun m=>(listed.setIfInBounds i true).getD m false)=fun m=>m == 0+i || listed.getD m false:=by
    funext m
    rw [Nat.zero_add,Array.getD_eq_getD_getElem?,Array.getD_eq_getD_getElem?]
    by_cases e1:m=i
    ·subst e1
     rw [Array.getElem?_setIfInBounds_self_of_lt (by omega)]
     simp
    ·rw [Array.getElem?_setIfInBounds_ne (fun h=>e1 h.symm)]
     simp [e1]
   have e1:∀ m,(listed.setIfInBounds i true).getD m false=(m == 0+i || listed.getD m false):=fun m=>congrFun hS' m
   refine ih (listed.setIfInBounds i true) E' a' w' (by simpa using hs) ?_ ?_ ?_ ?_
   ·have:=qMj listed.toList i (by
     rw [Array.getElem?_toList,Array.getElem?_eq_getElem (by omega)]
     rw [Array.getD_eq_getD_getElem?,Array.getElem?_eq_getElem (by omega)] at hSi
     simpa using hSi)
    rw [Array.toList_setIfInBounds]
    omega
   ·intro j hj
    rw [e1] at hj
    simp only [Nat.zero_add,Bool.or_eq_true,beq_iff_eq] at hj
    rcases hj with rfl|hj
    ·exact hLi
    ·exact hunp j hj
   ·intro j hj k hk
    rw [e1] at hj ⊢
    simp only [Nat.zero_add,Bool.or_eq_true,beq_iff_eq] at hj ⊢
    right
    rcases hj with rfl|hj
    ·exact hbits k hk
    ·exact hcl j hj k hk
   ·rw [hS']
    refine hG'.of_ext ?_ ?_ ?_
    ·intro t
     rw [qWl t _ 0 i o.dst e σ (hget i o e hoi hei) (by simpa using hSi)]
     ·simp [St.eff,qJf]
     ·intro hdt j d' e' hij hj hSj hd'
      rw [Nat.zero_add] at hSj
      obtain⟨oj,hoj,hdj,hej⟩:=hget' j d' e' hj
      rw [hd'] at hdj
      have hc:qQq ops.toArray o e oj e'=true:=by simp [qQq,hdt,hdj]
      have:=hafter j oj e' hij hoj hej hc
      rw [hSj] at this
      cases this
    ·intro n
     rw [qKc n _ 0 i o.dst e σ (hget i o e hoi hei) (by simpa using hSi)]
     ·simp only [St.eff,qQ6]
      all_goals (cases qJe e.wr n<;>rfl)
     ·intro hdt j d' e' hij hj hSj hd'
      rw [Nat.zero_add] at hSj
      obtain⟨oj,hoj,hdj,hej⟩:=hget' j d' e' hj
      have hc:qQq ops.toArray o e oj e'=true:=by
       simp only [qQq,Bool.or_eq_true,List.any_eq_true]
       exact .inl (.inr ⟨n,hdt,.inr (by simpa using hd')⟩)
      have:=hafter j oj e' hij hoj hej hc
      rw [hSj] at this
      cases this
    ·intro n hn
     simp only [St.eff,List.mem_append] at hn
     rw [qZv]
     rw [qZv] at hn
     rcases hn with hn|hn|⟨j,d,ej,hj,hSj,hnj⟩
     ·exact .inr ⟨i,o.dst,e,hget i o e hoi hei,by simp,hn⟩
     ·exact .inl hn
     ·exact .inr ⟨j,d,ej,hj,by rw [hSj];simp,hnj⟩
  unfold wpOp
  simp only [List.getElem?_toArray,hoi]
  have hrun:OpW X o (qQl (fun m=>L m && decide (m<i)) 0 (qWm ops es) σ) e→o.wp X.P a w (wpAny X.P .any ops.toArray Q fuel (listed.setIfInBounds i true)) Q:=fun hw =>
   (hw.congr ⟨hval,hobj,hnew⟩).sound hT hg hG hd hnext
  rcases htx.2 with ⟨hgn,hw⟩|⟨j,want,b,hgs,hgv,hor⟩|⟨j,want,hgs,hgv,rfl⟩
  ·rw [if_pos (by simp [Region.wanted,hgn])]
   exact .inl (hrun hw)
  ·have hgv':gv ops (qQl (fun m=>listed.getD m false) 0 (qWm ops es) σ) j = .pv (.bool b):=by
    rw [← hgv]
    unfold gv
    split
    ·rename_i oj hoj
     split
     ·rename_i d hdj
      refine (hslot d ?_).symm
      simp only [Oper.looksAt,List.mem_append]
      right
      simp [hgs,hoj,hdj]
     ·rfl
    ·rfl
   have hy:=qB1 hG hgv'
   rcases hor with ⟨hbw,hw⟩|⟨hbw,rfl⟩
   ·rw [if_pos (by simp [Region.wanted,hgs,hy,hbw])]
    exact .inl (hrun hw)
   ·rw [if_neg (by simp [Region.wanted,hgs,hy,hbw])]
    exact hnext E _ w (qB0 hG hd)
  ·have hgv':gv ops (qQl (fun m=>listed.getD m false) 0 (qWm ops es) σ) j = .pv (.tuple []):=by
    rw [← hgv]
    unfold gv
    split
    ·rename_i oj hoj
     split
     ·rename_i d hdj
      refine (hslot d ?_).symm
      simp only [Oper.looksAt,List.mem_append]
      simp [hgs,hoj,hdj]
     ·rfl
    ·rfl
   have hy:=qA4 hG hgv'
   rw [if_neg (by simp [Region.wanted,hgs,hy])]
   exact hnext E _ w (qB0 hG hd)
theorem qP6 (hT:TOK X.P X.T) (hg:GOK X.gl C.E0.H) (hnt:C.nt=X.nt) {ops:List Oper} {es:List Eff} {σ:St} {Q:Exit→Act→World→Prop} (hlen:es.length=ops.length)
  (htext:qVc X ops ops es σ) (hcheck:qJ5 ops es=true)
  (hQ:∀ E a w,Ga C E (qQl (fun _=>true) 0 (qWm ops es) σ) a w→Q .normal a w) (fuel:Nat) (listed:Array Bool) (E:Env) (a:Act) (w:World) (h1:listed.size=ops.length) (h2:listed.toList.count false≤fuel)
  (h3:∀ j,listed.getD j false=true→∀ i,((qWj ops []).getD j 0).testBit i=true→listed.getD i false=true)
  (h4:Ga C E (qQl (fun m=>listed.getD m false) 0 (qWm ops es) σ) a w):wpAny X.P .any ops.toArray Q fuel listed a w:=by
 refine qP5 hT hg hnt hlen (L:=fun _=>true) (jp:=ops.length) (fun i o h => ?_) (fun i o e _ ho he => ?_) hcheck (fun _=>hQ) (fun op h => ?_) fuel listed E a w h1 h2 (fun _ _=>rfl) h3 h4
 ·grind
 ·have:=qMi ops es 0 σ htext i o e ho he
  simp_all
 simp_all
end
end Go.Lg
