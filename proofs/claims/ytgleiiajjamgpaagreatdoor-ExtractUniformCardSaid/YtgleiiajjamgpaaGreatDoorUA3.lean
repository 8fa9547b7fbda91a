/- The logic of contracts; no conditions. -/
import Derived.Test.YtgleiiajjamgpaaGreatDoorUA2
import Derived.Laws.StructEq
import Derived.Laws.RangeString
import Derived.Laws.IdiomStrings
import Derived.Test.YtgleiiajjamgpaaGreatDoorUA1
import Derived.ChangeKeysEq
set_option linter.all false
namespace Go.Lg
section
variable {P:Program} {C:Ctx} {E:Env} {σ:St} {a:Act} {w:World} {gl:Nat→Option (List PV)} {o:Oper} {T:Nat→Option TI} {note:qCw}
theorem qCn (h:Ga C E σ a w) (hg:GOK gl C.E0.H) (hd:∀ d,o.dst=some d→d<C.nt) {f:Nat} {first caps:Array Operand} (ho:o.op = .makeFunc (.func f) first caps) {r:R} {ob:Nat→Option Ob}
  (hs:qQb T note (σ.val gl) ob o.dst (.makeFunc (.func f) first caps)=some r):Sound P C E σ a w o r:=by
 simp only [qQb] at hs
 split at hs
 ·rename_i h0
  cases hs
  have hf:first = #[]:=Array.eq_empty_of_size_eq_zero h0
  subst hf
  have hrep:∀ l:List Operand,RepVL E (l.map (σ.val gl)) (l.map a.eval):=by
   intro l
   induction l with
   | nil=>simp [RepVL]
   | cons x l ih=>simp only [List.map_cons,RepVL];exact⟨qQg h hg x,ih⟩
  have hmf:∀ (fn:Fn) (first cap:Array Value),(Instr.makeFunc fn first cap).run P w = .ok (.func fn first cap) w:=fun _ _ _=>rfl
  refine Sound.pure h (v:=.func (.func f) #[] (caps.toList.map a.eval).toArray) (.inl ?_) ?_ ?_ hd trivial
  ·have:Array.map a.eval caps=(List.map a.eval caps.toList).toArray:=by rw [← Array.toList_map]
   simp [execOp,ho,hmf,this]
  ·simp only [RepV]
   exact⟨_,rfl,by simp,hrep _⟩
  ·intro n hn
   simp only [V.names] at hn
   obtain⟨c,hc,hn⟩:=mem_namesL.1 hn
   obtain⟨x,_,rfl⟩:=List.mem_map.1 hc
   exact qQl h x n hn
 ·split at hs
  ·rename_i h0 h1
   cases hs
   have hf:caps = #[]:=Array.eq_empty_of_size_eq_zero h1
   subst hf
   have hrep:∀ l:List Operand,RepVL E (l.map (σ.val gl)) (l.map a.eval):=by
    intro l
    induction l with
    | nil=>simp [RepVL]
    | cons x l ih=>simp only [List.map_cons,RepVL];exact⟨qQg h hg x,ih⟩
   have hmf:∀ (fn:Fn) (first cap:Array Value),(Instr.makeFunc fn first cap).run P w = .ok (.func fn first cap) w:=fun _ _ _=>rfl
   refine Sound.pure h (v:=.func (.func f) (first.toList.map a.eval).toArray #[]) (.inl ?_) ?_ ?_ hd trivial
   ·have:Array.map a.eval first=(List.map a.eval first.toList).toArray:=by rw [← Array.toList_map]
    simp [execOp,ho,hmf,this]
   ·simp only [RepV]
    exact⟨_,rfl,by simp,hrep _⟩
   ·intro n hn
    simp only [V.names] at hn
    obtain⟨c,hc,hn⟩:=mem_namesL.1 hn
    obtain⟨x,_,rfl⟩:=List.mem_map.1 hc
    exact qQl h x n hn
  ·cases hs
theorem qEa (h:Ga C E σ a w) (hd:∀ d,o.dst=some d→d<C.nt) {t:Nat} (ho:o.op = .makeMap t none) {r:R} {ob:Nat→Option Ob} {val:Operand→V} (hc:r.cond)
  (hs:qQb T note val ob o.dst (.makeMap t none)=some r) (hn:∀ n x,r.wr=some (n,x)→r.new=true→n ∉ σ.used):Sound P C E σ a w o r:=by
 simp only [qQb] at hs
 split at hs
 ·rename_i n D F
  cases hs
  have hn:=hn n _ rfl rfl
  let E':Env:={ E with g:=fun m=>if m=n then .map (some w.heap.size) else E.g m }
  have hg':E'.g n = .map (some w.heap.size):=by simp [E']
  have hE:∀ m,m≠n→E'.g m=E.g m∧E'.ver m=E.ver m∧E'.sz m=E.sz m:=fun m hm=>⟨by simp [E',hm],rfl,rfl⟩
  refine⟨.map (some w.heap.size),w.alloc (.map #[] 0),E',.inl ?_,?_,trivial⟩
  ·have:(Instr.makeMap t none).run P w = .ok (.map (some w.heap.size)) (w.alloc (.map #[] 0)):=rfl
   simp [execOp,ho,this]
  refine h.change (E':=E') n (some (.cache D F)) (qVa σ.objs n (.cache D F)) (n::σ.used) o.dst (.map n) _ (fun m=>qQo _ _ _ _) (Hle.refl _) hE (fun hk=>absurd hk hn) (fun hk=>absurd hk hn)
   (by simp) ⟨rfl,rfl,rfl⟩ (fun b hb _=>⟨heap_alloc_old w _ b hb,rfl⟩) (qZg h.heap _ E' rfl) ?_ ?_ (fun m hm=>by simp [hm]) ?_ ?_ hd
  ·intro o' e
   cases e
   exact⟨⟨hc,w.heap.size,#[],0,hg',heap_alloc_new w _,h.heap.lt (Nat.le_refl _),by simp⟩,by simp,by simp [Ob.names]⟩
  ·intro o' b e hb
   rw [hg'] at hb
   simp [blk] at hb
   omega
  ·exact⟨_,hg',rfl⟩
  ·simp [V.names]
 ·rename_i n
  cases hs
  have hn:=hn n _ rfl rfl
  let E':Env:={ E with g:=fun m=>if m=n then .map (some w.heap.size) else E.g m }
  have hg':E'.g n = .map (some w.heap.size):=by simp [E']
  have hE:∀ m,m≠n→E'.g m=E.g m∧E'.ver m=E.ver m∧E'.sz m=E.sz m:=fun m hm=>⟨by simp [E',hm],rfl,rfl⟩
  refine⟨.map (some w.heap.size),w.alloc (.map #[] 0),E',.inl ?_,?_,trivial⟩
  ·have:(Instr.makeMap t none).run P w = .ok (.map (some w.heap.size)) (w.alloc (.map #[] 0)):=rfl
   simp [execOp,ho,this]
  refine h.change (E':=E') n (some (.imap [])) (qVa σ.objs n (.imap [])) (n::σ.used) o.dst (.map n) _ (fun m=>qQo _ _ _ _) (Hle.refl _) hE (fun hk=>absurd hk hn) (fun hk=>absurd hk hn)
   (by simp) ⟨rfl,rfl,rfl⟩ (fun b hb _=>⟨heap_alloc_old w _ b hb,rfl⟩) (qZg h.heap _ E' rfl) ?_ ?_ (fun m hm=>by simp [hm]) ?_ ?_ hd
  ·intro o' e
   cases e
   exact⟨⟨w.heap.size,#[],0,hg',heap_alloc_new w _,h.heap.lt (Nat.le_refl _),by simp [EntsOK]⟩,by simp,by simp [Ob.names]⟩
  ·intro o' b e hb
   rw [hg'] at hb
   simp [blk] at hb
   omega
  ·exact⟨_,hg',rfl⟩
  ·simp [V.names]
 ·rename_i n sk
  cases hs
  have hn:=hn n _ rfl rfl
  let E':Env:={ E with g:=fun m=>if m=n then .map (some w.heap.size) else E.g m }
  have hg':E'.g n = .map (some w.heap.size):=by simp [E']
  have hE:∀ m,m≠n→E'.g m=E.g m∧E'.ver m=E.ver m∧E'.sz m=E.sz m:=fun m hm=>⟨by simp [E',hm],rfl,rfl⟩
  refine⟨.map (some w.heap.size),w.alloc (.map #[] 0),E',.inl ?_,?_,trivial⟩
  ·have:(Instr.makeMap t none).run P w = .ok (.map (some w.heap.size)) (w.alloc (.map #[] 0)):=rfl
   simp [execOp,ho,this]
  refine h.change (E':=E') n (some (.smap sk [])) (qVa σ.objs n (.smap sk [])) (n::σ.used) o.dst (.map n) _ (fun m=>qQo _ _ _ _) (Hle.refl _) hE (fun hk=>absurd hk hn) (fun hk=>absurd hk hn)
   (by simp) ⟨rfl,rfl,rfl⟩ (fun b hb _=>⟨heap_alloc_old w _ b hb,rfl⟩) (qZg h.heap _ E' rfl) ?_ ?_ (fun m hm=>by simp [hm]) ?_ ?_ hd
  ·intro o' e
   cases e
   exact⟨⟨w.heap.size,#[],0,hg',heap_alloc_new w _,h.heap.lt (Nat.le_refl _),by simp [EntsS],by simp [StampOK]⟩,by simp,by simp [Ob.names,qZd]⟩
  ·intro o' b e hb
   rw [hg'] at hb
   simp [blk] at hb
   omega
  ·exact⟨_,hg',rfl⟩
  ·simp [V.names]
 ·cases hs
def qXe (w:World) (a:Addr):Prop:=∃ c T,w.heap[a.block]? = some (.cells c T (0,0))
theorem qTp {a b:Addr} (ha:qXe w a) (hb:qXe w b):(sameAddr a b).run P w = .ok (decide (a=b)) w:=by
 obtain⟨ca,ta,ha⟩:=ha
 obtain⟨cb,tb,hb⟩:=hb
 by_cases hbl:a.block=b.block
 ·have:(a == b)=decide (a=b):=by by_cases e:a=b<;>simp [e]
  simp [sameAddr,hbl,this]
 ·have hne:¬ a=b:=fun e=>hbl (by rw [e])
  simp [sameAddr,hbl,World.frozen?,ha,hb,noView,viewAt,World.shape?,mayBeOne,stringish,hne]
theorem zVv {kt e:Nat} {i:TypeInfo} (hk:P.underlying kt=some (.pointer e)) (hi:P.info? e=some i) (hs:i.size≠0) {x y:Addr} (hx:qXe w x) (hy:qXe w y) :
  (Op.equal kt (.pointer (some x)) (.pointer (some y))).run P w = .ok (decide (x=y)) w:=by
 refine qQ4 fun d => ?_
 simp [Op.equalIn,run_underlying hk,sizeOf,typeInfo,hi,hs,qTp hx hy]
theorem qA3 {kt e:Nat} {i:TypeInfo} (hk:P.underlying kt=some (.pointer e)) (hi:P.info? e=some i) (hs:i.size≠0) {x:Addr} (hx:qXe w x):∀ (es:List MapEntry) (k:Nat),(∀ e∈es,∃ b,e.key = .pointer (some b)∧qXe w b) →
  ∃ r,(Instr.findAsking kt (.pointer (some x)) es k).run P w = .ok r w ∧ ∀ j v,r=some (j,v)→∃ e,k≤j∧es[j-k]? = some e∧e.key = .pointer (some x)∧e.val=v
 | [],k,_=>⟨none,rfl,fun j v e=>by cases e⟩
 | m::es,k,h=>by
  obtain⟨b,hb,hok⟩:=h m (by simp)
  unfold Instr.findAsking
  simp only [Sem.run_bind,hb,zVv hk hi hs hx hok,Result.andThen_ok]
  by_cases hxb:x=b
  ·subst hxb
   refine⟨some (k,m.val),by simp,?_⟩
   intro j v e
   cases e
   exact⟨m,Nat.le_refl _,by simp,hb,rfl⟩
  ·obtain⟨r,hr,hp⟩:=qA3 hk hi hs hx es (k+1) (fun e he=>h e (by simp [he]))
   refine⟨r,by simp [hxb,hr],?_⟩
   intro j v e
   obtain⟨e',h1,h2,h3⟩:=hp j v e
   refine⟨e',by omega,?_,h3⟩
   have:j-k=(j-(k+1))+1:=by omega
   rw [this]
   simpa using h2
theorem qTq {kt e:Nat} {i:TypeInfo} (hk:P.underlying kt=some (.pointer e)) (hi:P.info? e=some i) (hs:i.size≠0) {x:Addr} (hx:qXe w x) (es:List MapEntry) (h:∀ e∈es,∃ b,e.key = .pointer (some b)∧qXe w b) :
  ∃ r,(Instr.findKey kt (.pointer (some x)) es).run P w = .ok r w ∧ ∀ j v,r=some (j,v)→∃ e,es[j]? = some e∧e.key = .pointer (some x)∧e.val=v:=by
 unfold Instr.findKey
 simp only [Sem.run_bind,run_underlying hk,Result.andThen_ok]
 cases es with
 | nil=>exact⟨none,rfl,fun j v e=>by cases e⟩
 | cons m es =>
  obtain⟨r,hr,hp⟩:=qA3 hk hi hs hx (m::es) 0 h
  refine⟨r,?_,fun j v e => ?_⟩
  ·simp only [Instr.findNow,Instr.sameNow]
   exact hr
  ·obtain⟨e',_,h2,h3⟩:=hp j v e
   exact⟨e',by simpa using h2,h3⟩
theorem qF3 (hh:HeapOK E w) {x off:Nat} {v:Value} (hv:v∈E.H x) (hn:∀ k n,v ≠ .int k n):qXe w ⟨x,off,none⟩:=by
 obtain⟨c,T,fr,hc,_,hfr⟩:=hh x (List.ne_nil_of_mem hv)
 rcases hfr with rfl|hfr
 ·exact⟨c,T,hc⟩
 ·obtain⟨k,n,e,_⟩:=hfr v hv
  exact absurd e (hn k n)
theorem qC5 {H:Hp} : ∀ {ks:List PV} {vs:List Value},RepL H ks vs→ks.any PV.nonint=true→∃ v∈vs,∀ k n,v ≠ .int k n
 | [],_,_,h=>by simp at h
 | k::ks,[],r,_=>by simp [RepL] at r
 | k::ks,v::vs,r,h=>by
  simp only [RepL] at r
  simp only [List.any_cons,Bool.or_eq_true] at h
  rcases h with h|h
  ·refine⟨v,by simp,?_⟩
   intro kk n e
   subst e
   cases k<;>simp [PV.nonint] at h<;>simp [RepP] at r
  ·obtain⟨u,hu,hn⟩:=qC5 r.2 h
   exact⟨u,by simp [hu],hn⟩
theorem zVw {H:Hp} {ks:List PV} {v:Value} (hr:RepP H (.ptr ks) v) (hn:ks.any PV.nonint=true):∃ x off u,v = .pointer (some ⟨x,off,none⟩)∧u∈H x ∧ ∀ k n,u ≠ .int k n:=by
 simp only [RepP] at hr
 obtain⟨b,off,hv,hr⟩:=hr
 obtain⟨u,hu,hn⟩:=qC5 hr hn
 exact⟨b,off,u,hv,List.mem_of_mem_drop hu,hn⟩
theorem qYj {kt e:Nat} (hk:P.underlying kt=some (.pointer e)) (emp:Bool) (v:Value):(Instr.checkKey emp 10000 kt v).run P w = .ok () w:=by
 have:(10000:Nat)=9999+1:=rfl
 rw [this]
 unfold Instr.checkKey
 simp only [Sem.run_bind,run_underlying hk,Result.andThen_ok]
 rfl
theorem qQ0 (w:World) (r b:Nat) (ob:Obj) (h:b≠r):({ w with heap:=w.heap.setIfInBounds r ob } : World).heap[b]? = w.heap[b]?:=by
 simp [Array.getElem?_setIfInBounds_ne (fun e=>h e.symm)]
theorem qC6 {H:Hp} : ∀ {ks:List PV} {is:List Int} {vs:List Value},qAx ks=some is→vs.length=ks.length→RepL H ks vs→vs=is.map (Value.int .i64)
 | [],is,[],h,_,_=>by simp [qAx] at h;simp [← h]
 | [],_,_::_,_,hl,_=>by simp at hl
 | k::ks,is,[],_,hl,_=>by simp at hl
 | k::ks,is,v::vs,h,hl,r=>by
  cases k<;>simp [qAx] at h
  rename_i n
  obtain⟨is',h1,rfl⟩:=h
  simp only [RepL,RepP] at r
  rw [r.1,qC6 h1 (by simpa using hl) r.2]
  rfl
theorem zZq {H:Hp} {ks:List PV} {is:List Int} {v:Value} (h:qAx ks=some is) (hr:RepP H (.agg ks) v):v=qYz is:=by
 simp only [RepP] at hr
 obtain⟨vs,rfl,hl,hr⟩:=hr
 rw [qC6 h hl hr]
 rfl
theorem qA4 {k len:Nat} (hk:zVs P k len) {ks:List Int} (hl:ks.length=len) {H:Hp} : ∀ (es:List (List Int × PV)) (ms:List MapEntry) (i:Nat),EntsOK H es ms→(∀ e∈es,e.1.length=len) →
  (qCi es ks=none→(Instr.findAsking k (qYz ks) ms i).run P w = .ok none w∧qAy es ks=fun p=>es++[(ks,p)]) ∧
  (∀ p,qCi es ks=some p→∃ j e,(Instr.findAsking k (qYz ks) ms i).run P w = .ok (some (i+j,e.val)) w∧ms[j]? = some e∧e.key=qYz ks∧RepP H p e.val ∧ ∀ q v,RepP H q v→EntsOK H (qAy es ks q) (ms.modify j fun e => { e with key:=qYz ks,val:=v }))
 | [],[],i,_,_=>by
  refine⟨fun _=>⟨rfl,by funext p;rfl⟩,fun p h=>by cases h⟩
 | (k0,p0)::es,m::ms,i,r,ha=>by
  have h0:k0.length=len:=ha _ (List.mem_cons_self ..)
  have ih:=qA4 hk hl es ms (i+1) r.2 (fun e he=>ha e (List.mem_cons_of_mem _ he))
  have hrun:=hk.1 w ks k0 hl h0
  by_cases e:ks=k0
  ·subst e
   refine⟨fun h=>by simp [qCi] at h,fun p h => ?_⟩
   simp only [qCi,if_true,Option.some.injEq] at h
   subst h
   refine⟨0,m,?_,rfl,r.1.1,r.1.2,fun q v hq => ?_⟩
   ·unfold Instr.findAsking
    simp [Sem.run_bind,r.1.1,hrun]
   ·simp only [qAy,if_true,List.modify_zero_cons]
    exact⟨⟨rfl,hq⟩,r.2⟩
  ·refine⟨fun h => ?_,fun p h => ?_⟩
   ·simp only [qCi,if_neg e] at h
    obtain⟨h1,h2⟩:=ih.1 h
    refine⟨?_,?_⟩
    ·unfold Instr.findAsking
     simp [Sem.run_bind,r.1.1,hrun,e,h1]
    ·funext p
     simp only [qAy,if_neg e,h2]
     rfl
   ·simp only [qCi,if_neg e] at h
    obtain⟨j,e',h1,h2,h3,h4,h5⟩:=ih.2 p h
    refine⟨j+1,e',?_,by simpa using h2,h3,h4,fun q v hq => ?_⟩
    ·unfold Instr.findAsking
     simp only [Sem.run_bind,r.1.1,hrun,e,Result.andThen_ok]
     simp [h1]
     omega
    ·simp only [qAy,if_neg e,List.modify_succ_cons]
     exact⟨r.1,h5 q v hq⟩
 | [],_::_,_,r,_=>r.elim
 | (_,_)::_,[],_,r,_=>r.elim
theorem qF4 {d:TypeDesc} (hd:∀ a b:List Int,Instr.sameNow d (qYz a) (qYz b)=none) {H:Hp} {ks:List Int} : ∀ {es:List (List Int × PV)} {ms:List MapEntry} (i:Nat),EntsOK H es ms→Instr.findNow d (qYz ks) ms i=none∨(ms=[]∧Instr.findNow d (qYz ks) ms i=some none)
 | [],[],i,_ => .inr ⟨rfl,rfl⟩
 | (k0,p0)::es,m::ms,i,r=>by
  left
  unfold Instr.findNow
  rw [r.1.1,hd]
 | [],_::_,_,r=>r.elim
 | (_,_)::_,[],_,r=>r.elim
theorem qYk {k len:Nat} (hk:zVs P k len) {ks:List Int} {H:Hp} {es:List (List Int × PV)} {ms:List MapEntry} (r:EntsOK H es ms):(Instr.findKey k (qYz ks) ms).run P w=(Instr.findAsking k (qYz ks) ms 0).run P w:=by
 obtain⟨_,_,d,hd,hs⟩:=hk
 unfold Instr.findKey
 simp only [Sem.run_bind,run_underlying hd,Result.andThen_ok]
 rcases qF4 hs (ks:=ks) 0 r with h|⟨rfl,h⟩
 ·rw [h]
 ·rw [h];rfl
theorem EntsOK.app {H:Hp} {k:List Int} {p:PV} {v:Value} {c:Nat} (hv:RepP H p v):∀ {es:List (List Int × PV)} {ms:List MapEntry},EntsOK H es ms→EntsOK H (es++[(k,p)]) (ms++[⟨qYz k,v,c⟩])
 | [],[],_=>⟨⟨rfl,hv⟩,trivial⟩
 | (_,_)::_,_::_,r=>⟨r.1,EntsOK.app hv r.2⟩
 | [],_::_,r=>r.elim
 | (_,_)::_,[],r=>r.elim
theorem qXf (n:Nat):∀ l:List Int,((l.map (Value.int .i64)).zip (l.map (Value.int .i64))).all (fun (x,y)=>Instr.sameBits n x y)=true
 | []=>rfl
 | a::l=>by
  have h1:Instr.sameBits n (.int .i64 a) (.int .i64 a)=true:=by
   cases n<;>simp [Instr.sameBits]
  simp only [List.map_cons,List.zip_cons_cons,List.all_cons,qXf n l,Bool.and_true]
  exact h1
theorem qF5 (l:List Int):Instr.sameBits 10000 (qYz l) (qYz l)=true:=by
 have e:(10000:Nat)=9999+1:=rfl
 rw [e]
 unfold qYz Instr.sameBits
 simp only [beq_self_eq_true,Bool.true_and]
 exact qXf 9999 l
def zYt (E:Env) (D:PV→Prop) (F:PV→PV) (e:MapEntry):Prop :=
 ∃ p,D p∧RepP E.H p e.key∧RepP E.H (F p) e.val ∧ ∃ x off v,e.key = .pointer (some ⟨x,off,none⟩)∧v∈E.H x ∧ ∀ k n,v ≠ .int k n
def kdS (s:Bool):TypeDesc:=match s with
 | true => .string
 | false => .int .i64
theorem qOw {x y:List Nat} (hx:∀ b∈x,b<256) (hy:∀ b∈y,b<256):((⟨(x.map UInt8.ofNat).toArray⟩:ByteArray) == ⟨(y.map UInt8.ofNat).toArray⟩)=eqL x y:=by
 rw [beq_toListBytes,ByteArray.toList_mk,ByteArray.toList_mk,qFw hx hy]
theorem qOx {a b:SK} {s:Bool} (ha:a.kind=s) (hb:b.kind=s) (oa:a.ok) (ob:b.ok):Instr.sameNow (kdS s) a.v b.v=some (SK.eqB a b):=by
 subst ha
 cases a with
 | int n =>
  cases b with
  | int m =>
   simp only [SK.kind,kdS,SK.v,Instr.sameNow,SK.eqB]
   by_cases e:n=m<;>simp [e]
  | str y=>cases hb
 | str x =>
  cases b with
  | int m=>cases hb
  | str y =>
   simp only [SK.kind,kdS,SK.v,Instr.sameNow,SK.eqB,qOw oa ob]
theorem qA5 {s:Bool} {a:SK} (ha:a.kind=s) (oa:a.ok) {E:Env} : ∀ (es:List (SK × V)) (ms:List MapEntry) (i:Nat),EntsS E s es ms →
  (qLi es a=none→Instr.findNow (kdS s) a.v ms i=some none∧qFs es a=fun x=>es++[(a,x)]) ∧
  (∀ x,qLi es a=some x→∃ j e,Instr.findNow (kdS s) a.v ms i=some (some (i+j,e.val))∧ms[j]? = some e∧e.key=a.v∧RepV E x e.val ∧ ∀ y v,RepV E y v→EntsS E s (qFs es a y) (ms.modify j fun e => { e with key:=a.v,val:=v }))
 | [],[],i,_=>by
  refine⟨fun _=>⟨rfl,by funext p;rfl⟩,fun p h=>by cases h⟩
 | (k0,p0)::es,m::ms,i,r=>by
  have ih:=qA5 ha oa es ms (i+1) r.2
  have hsame:=qOx ha r.1.2.1 oa r.1.2.2.1
  cases e:SK.eqB a k0 with
  | true =>
   have e':=(SK.eqB_iff a k0).1 e
   refine⟨fun h=>by simp [qLi,e] at h,fun x h => ?_⟩
   simp only [qLi,e,cond_true,Option.some.injEq] at h
   subst h
   refine⟨0,m,?_,rfl,by rw [e'];exact r.1.1,r.1.2.2.2,fun y v hy => ?_⟩
   ·unfold Instr.findNow
    rw [r.1.1,hsame,e]
    rfl
   ·simp only [qFs,e,cond_true,List.modify_zero_cons]
    exact⟨⟨rfl,ha,oa,hy⟩,r.2⟩
  | false =>
   refine⟨fun h => ?_,fun x h => ?_⟩
   ·simp only [qLi,e,cond_false] at h
    obtain⟨h1,h2⟩:=ih.1 h
    refine⟨?_,?_⟩
    ·unfold Instr.findNow
     rw [r.1.1,hsame,e]
     exact h1
    ·funext x
     simp only [qFs,e,cond_false,h2]
     rfl
   ·simp only [qLi,e,cond_false] at h
    obtain⟨j,e',h1,h2,h3,h4,h5⟩:=ih.2 x h
    refine⟨j+1,e',?_,by simpa using h2,h3,h4,fun y v hy => ?_⟩
    ·unfold Instr.findNow
     rw [r.1.1,hsame,e]
     simp only [h1]
     congr 3
     omega
    ·simp only [qFs,e,cond_false,List.modify_succ_cons]
     exact⟨r.1,h5 y v hy⟩
 | [],_::_,_,r=>r.elim
 | (_,_)::_,[],_,r=>r.elim
theorem EntsS.app {E:Env} {s:Bool} {k:SK} {x:V} {v:Value} {c:Nat} (hk:k.kind=s) (ho:k.ok) (hv:RepV E x v):∀ {es:List (SK × V)} {ms:List MapEntry},EntsS E s es ms→EntsS E s (es++[(k,x)]) (ms++[⟨k.v,v,c⟩])
 | [],[],_=>⟨⟨rfl,hk,ho,hv⟩,trivial⟩
 | (_,_)::_,_::_,r=>⟨r.1,EntsS.app hk ho hv r.2⟩
 | [],_::_,r=>r.elim
 | (_,_)::_,[],r=>r.elim
theorem qC7 {a:SK} {x:V} : ∀ {es:List (SK × V)} {n:Nat},n∈qZd (qFs es a x)→n∈x.names∨n∈qZd es
 | [],n,h=>by simpa [qFs,qZd] using h
 | (k,y)::r,n,h=>by
  unfold qFs at h
  cases e:SK.eqB a k with
  | true =>
   rw [e] at h
   simp only [cond_true,qZd,List.mem_append] at h ⊢
   rcases h with h|h
   ·exact .inl h
   ·exact .inr (.inr h)
  | false =>
   rw [e] at h
   simp only [cond_false,qZd,List.mem_append] at h ⊢
   rcases h with h|h
   ·exact .inr (.inl h)
   ·rcases qC7 h with h|h
    ·exact .inl h
    ·exact .inr (.inr h)
theorem qC8 {a:SK} {x:V} : ∀ {es:List (SK × V)},qLi es a=some x→∀ n∈x.names,n∈qZd es
 | [],h,_,_=>by cases h
 | (k,y)::r,h,n,hn=>by
  unfold qLi at h
  cases e:SK.eqB a k with
  | true=>rw [e] at h;cases h;simp [qZd,hn]
  | false=>rw [e] at h;simp only [qZd,List.mem_append];exact .inr (qC8 h n hn)
theorem qOy {E:Env} {k:V} {a:SK} {v:Value} (h:zX0 k=some a) (hr:RepV E k v):v=a.v∧a.ok:=by
 unfold zX0 at h
 split at h
 ·cases h;exact⟨by simpa [RepV,RepP,SK.v] using hr,trivial⟩
 ·cases h;simp only [RepV,RepP] at hr;exact⟨hr.1,hr.2⟩
 ·cases h
theorem qM7 (a:SK) (ho:a.ok):Instr.sameBits 10000 a.v a.v=true:=by
 have e:(10000:Nat)=9999+1:=rfl
 rw [e]
 cases a with
 | int n=>simp [SK.v,Instr.sameBits]
 | str l=>simp only [SK.v,Instr.sameBits,qOw ho ho];exact (qAs l l).2 rfl
theorem qC9 {kt:Nat} {s:Bool} (hu:P.underlying kt=some (kdS s)) (b:Bool) (v:Value):(Instr.checkKey b 10000 kt v).run P w = .ok () w:=by
 have e:(10000:Nat)=9999+1:=rfl
 rw [e]
 unfold Instr.checkKey
 cases s<;>simp only [kdS] at hu<;>simp [Sem.run_bind,run_underlying hu]
theorem qXg {kt:Nat} {s:Bool} (hu:P.underlying kt=some (kdS s)) {v:Value} {ms:List MapEntry} {q:Option (Nat × Value)} (h:Instr.findNow (kdS s) v ms 0=some q):(Instr.findKey kt v ms).run P w = .ok q w:=by
 unfold Instr.findKey
 simp only [Sem.run_bind,run_underlying hu,Result.andThen_ok,h]
 rfl
theorem StampOK.push {ms:List MapEntry} {ck:Nat} (h:StampOK ms ck) (k v:Value):StampOK (ms++[⟨k,v,ck⟩]) (ck+1):=by
 refine⟨fun x hx => ?_,?_⟩
 ·rcases List.mem_append.1 hx with hx|hx
  ·exact Nat.lt_succ_of_lt (h.1 x hx)
  ·simp at hx;subst hx;exact Nat.lt_succ_self _
 ·rw [List.map_append,List.nodup_append]
  refine⟨h.2,by simp,fun a ha b hb => ?_⟩
  obtain⟨x,hx,rfl⟩:=List.mem_map.1 ha
  simp at hb
  subst hb
  exact Nat.ne_of_lt (h.1 x hx)
theorem qX2 {f:MapEntry→MapEntry} (hf:∀ e,(f e).born=e.born):∀ (l:List MapEntry) (j:Nat),(l.modify j f).map (·.born)=l.map (·.born)
 | [],j=>by simp
 | e::r,0=>by simp [hf]
 | e::r,j+1=>by simp [qX2 hf r j]
theorem StampOK.modify {ms:List MapEntry} {ck:Nat} (h:StampOK ms ck) (j:Nat) (f:MapEntry→MapEntry) (hf:∀ e,(f e).born=e.born):StampOK (ms.modify j f) ck:=by
 refine⟨fun x hx => ?_,by rw [qX2 hf];exact h.2⟩
 have:x.born∈(ms.modify j f).map (·.born):=List.mem_map.2 ⟨x,hx,rfl⟩
 rw [qX2 hf] at this
 obtain⟨y,hy,e⟩:=List.mem_map.1 this
 rw [← e]
 exact h.1 y hy
theorem qXh (h:Ga C E σ a w) (hg:GOK gl C.E0.H) {t kt vt:Nat} {s:Bool} {m k v:Operand} (hde:P.underlying t=some (.map kt vt)) (hu:P.underlying kt=some (kdS s)) (ho:o.op = .mapUpdate t m k v∨o.op = .insert t m k v) (hdst:o.dst=none) {r:R} (hc:r.cond)
  (hs:qQ9 s (qQc σ.objs) (σ.val gl m) (σ.val gl k) (σ.val gl v)=some r):Sound P C E σ a w o r:=by
 have hm:=qQg h hg m
 have hk:=qQg h hg k
 have hv:=qQg h hg v
 have nv:=qQl (gl:=gl) h v
 unfold qQ9 at hs
 split at hs
 ·rename_i n ak em ek
  rw [em] at hm
  obtain⟨hkv,hok⟩:=qOy ek hk
  split at hs
  ·rename_i s' es eo
   cases hs
   obtain⟨rfl,hkind,_⟩:=hc
   simp only [RepV] at hm
   obtain⟨b,hgn,hmv⟩:=hm
   obtain⟨b',ms,ck,hgn',hcell,hfree,hents,hst⟩:=h.objs n _ eo
   rw [hgn] at hgn'
   cases hgn'
   obtain⟨hf1,hf2⟩:=qA5 hkind hok es ms.toList 0 hents
   have key:∀ ms' ck',EntsS E s' (qFs es ak (σ.val gl v)) ms'.toList→StampOK ms'.toList ck'→(Instr.mapUpdate t (a.eval m) (a.eval k) (a.eval v)).run P w = .ok () { w with heap:=w.heap.setIfInBounds b (.map ms' ck') } →
     Sound P C E σ a w o ⟨s'=s'∧ak.kind=s'∧(σ.val gl v).one=true,True,.undef,some (n,.smap s' (qFs es ak (σ.val gl v))),false⟩:=by
    intro ms' ck' hents' hst' hr
    refine⟨undef,{ w with heap:=w.heap.setIfInBounds b (.map ms' ck') },E,.inr ⟨?_,rfl⟩,?_,trivial⟩
    ·rcases ho with ho|ho<;>simp only [execOp,ho,Sem.run_bind,hr,Result.andThen_ok]<;>rfl
    have hbl:b<w.heap.size:=(Array.getElem?_eq_some_iff.1 hcell).1
    refine h.change (E':=E) n (some (.smap s' (qFs es ak (σ.val gl v)))) (qVa σ.objs n (.smap s' (qFs es ak (σ.val gl v)))) σ.used o.dst .undef undef (fun m=>qQo _ _ _ _) (Hle.refl _) (fun _ _=>⟨rfl,rfl,rfl⟩) (fun _=>EExt.refl _ _) (fun _=>⟨_,eo⟩) (by simp) ⟨rfl,rfl,rfl⟩
     (fun b1 hlt hne=>⟨qQ0 w b b1 _ (fun e=>hne _ eo (by rw [e,hgn];rfl)),rfl⟩) ?_ ?_ ?_ (fun _ h=>h) (by simp [RepV]) (by simp [V.names]) (by rw [hdst];simp)
    ·intro b1 hb1
     have:b1≠b:=fun e=>hb1 (e ▸ hfree)
     obtain⟨c,T',fr,hc,hp⟩:=h.heap b1 hb1
     exact⟨c,T',fr,by rw [qQ0 w b b1 _ this];exact hc,hp⟩
    ·intro o' e
     cases e
     refine⟨⟨b,ms',ck',hgn,by simp [hbl],hfree,hents',hst'⟩,(h.usedO n _ eo).1,fun q hq => ?_⟩
     rcases qC7 hq with hq|hq
     ·exact nv q hq
     ·exact (h.usedO n _ eo).2 q hq
    ·intro o' b1 e hb1
     exact .inr ⟨hb1,_,eo⟩
   have hget:(getObj b).run P w = .ok (.map ms ck) w:=by simp [getObj,Sem.run,hcell]
   have hset:∀ ob:Obj,(setObj b ob).run P w = .ok () { w with heap:=w.heap.setIfInBounds b ob }:=by intro ob;simp [setObj,Sem.run,hcell]
   have hck:=fun c v=>qC9 (w:=w) hu c v
   cases hg1:qLi es ak with
   | none =>
    obtain⟨h1,h2⟩:=hf1 hg1
    have hfk:=qXg (w:=w) hu h1
    refine key (ms.push ⟨ak.v,a.eval v,ck⟩) (ck+1) ?_ ?_ ?_
    ·rw [h2]
     simp only [Array.toList_push]
     exact hents.app hkind hok hv
    ·simp only [Array.toList_push]
     exact hst.push _ _
    ·unfold Instr.mapUpdate
     simp only [Sem.run_bind,run_underlying hde,Result.andThen_ok,hmv,hget,hkv,hck,hfk,hset]
   | some q =>
    obtain⟨j,e0,h1,h2,h3,h4,h5⟩:=hf2 q hg1
    rw [Nat.zero_add] at h1
    have hfk:=qXg (w:=w) hu h1
    refine key (ms.modify j fun e => { e with key:=ak.v,val:=a.eval v }) ck ?_ ?_ ?_
    ·rw [Array.toList_modify]
     exact h5 _ _ hv
    ·rw [Array.toList_modify]
     exact hst.modify j _ fun _=>rfl
    ·have hkk:((ms[j]?).map (·.key)).getD ak.v=ak.v:=by
      have:ms[j]? = some e0:=by simpa using h2
      rw [this]
      simpa using h3
     unfold Instr.mapUpdate
     simp only [Sem.run_bind,run_underlying hde,Result.andThen_ok,hmv,hget,hkv,hck,hfk,hset,hkk,Instr.keyThatStays,qM7 _ hok]
     simp [hset]
  ·cases hs
 ·cases hs
theorem qIa (h:Ga C E σ a w) (hg:GOK gl C.E0.H) (hd:∀ d,o.dst=some d→d<C.nt) {t kt vt:Nat} {s ok:Bool} {m k:Operand} (hde:P.underlying t=some (.map kt vt)) (hu:P.underlying kt=some (kdS s)) (ho:o.op = .lookup t m k ok) {r:R} (hc:r.cond)
  {ti:TI} (hv:TIOK P vt ti) {z:PV} (ez:zZp ti.zero=some z) (hs:qJf s ok z (qQc σ.objs) (σ.val gl m) (σ.val gl k)=some r):Sound P C E σ a w o r:=by
 have hm:=qQg h hg m
 have hk:=qQg h hg k
 unfold qJf at hs
 split at hs
 ·rename_i n ak em ek
  rw [em] at hm
  obtain⟨hkv,hok⟩:=qOy ek hk
  split at hs
  ·rename_i s' es eo
   cases hs
   obtain⟨rfl,hkind⟩:=hc
   simp only [RepV] at hm
   obtain⟨b,hgn,hmv⟩:=hm
   obtain⟨b',ms,ck,hgn',hcell,hfree,hents,_⟩:=h.objs n _ eo
   rw [hgn] at hgn'
   cases hgn'
   obtain⟨hf1,hf2⟩:=qA5 hkind hok es ms.toList 0 hents
   have hget:(getObj b).run P w = .ok (.map ms ck) w:=by simp [getObj,Sem.run,hcell]
   have hck:=fun c v=>qC9 (w:=w) hu c v
   have hz:RepP E.H z ti.zero:=by
    unfold zZp at ez
    split at ez<;>cases ez<;>first|(rename_i e;rw [e];simp [RepP];done)|(rename_i b e;rw [e];simp only [RepP];exact⟨by rw [qVy],qW7 b⟩)
   have fin:∀ (u:Value) (x:V) (c:Bool),RepV E x u→(∀ n∈x.names,n∈σ.used)→(Instr.lookup t (a.eval m) (a.eval k) ok).run P w = .ok (if ok then .tuple #[u,.bool c] else u) w →
     Sound P C E σ a w o ⟨s'=s'∧ak.kind=s',True,(match ok with|true => .tuple [x,.pv (.bool c)]|false=>x),.none,false⟩:=by
    intro u x c hx hn hr
    cases ok with
    | true =>
     refine Sound.pure h (v:=.tuple #[u,.bool c]) (.inl ?_) ?_ (by simpa [V.names,qQj] using hn) hd trivial
     ·simp only [execOp,ho,Sem.run_bind,hr,Result.andThen_ok];rfl
     ·simp only [RepV]
      exact⟨[u,.bool c],rfl,by simp,by simp only [RepVL];exact⟨hx,by simp [RepV,RepP],trivial⟩⟩
    | false =>
     refine Sound.pure h (v:=u) (.inl ?_) hx hn hd trivial
     simp only [execOp,ho,Sem.run_bind,hr,Result.andThen_ok];rfl
   cases hg1:qLi es ak with
   | none =>
    obtain⟨h1,_⟩:=hf1 hg1
    have hfk:=qXg (w:=w) hu h1
    have hr:(Instr.lookup t (a.eval m) (a.eval k) ok).run P w = .ok (if ok then .tuple #[ti.zero,.bool false] else ti.zero) w:=by
     unfold Instr.lookup
     simp only [Sem.run_bind,run_underlying hde,Result.andThen_ok,hmv,hget,hkv,hck,hfk,hv.run_zero]
     cases ok<;>simp [hck,hfk,hv.run_zero]
    have:=fin ti.zero (.pv z) false (by simpa only [RepV] using hz) (by simp [V.names]) hr
    cases ok with
    | true =>
     exact Sound.pure h (v:=.tuple #[ti.zero,.bool false]) (.inl (by simp only [execOp,ho,Sem.run_bind,hr,Result.andThen_ok];rfl)) (by
      simp only [RepV,RepP]
      exact⟨[ti.zero,.bool false],rfl,by simp,by simp only [RepL,RepP];exact⟨hz,by simp⟩⟩) (by simp [V.names]) hd trivial
    | false=>exact this
   | some x =>
    obtain⟨j,e0,h1,h2,h3,h4,_⟩:=hf2 x hg1
    have hfk:=qXg (w:=w) hu h1
    have hr:(Instr.lookup t (a.eval m) (a.eval k) ok).run P w = .ok (if ok then .tuple #[e0.val,.bool true] else e0.val) w:=by
     unfold Instr.lookup
     simp only [Sem.run_bind,run_underlying hde,Result.andThen_ok,hmv,hget,hkv,hck,hfk]
     cases ok<;>simp [hck,hfk]
    have:=fin e0.val x true h4 (fun q hq=>(h.usedO n _ eo).2 q (qC8 hg1 q hq)) hr
    cases ok with
    | true=>exact this
    | false=>exact this
  ·cases hs
 ·cases hs
theorem qA6 (h:Ga C E σ a w) (hg:GOK gl C.E0.H) (hT:TOK P T) {t:Nat} {m k v:Operand} (ho:o.op = .mapUpdate t m k v) {r:R} (hc:r.cond)
  (hs:qQb T note (σ.val gl) (qQc σ.objs) o.dst (.mapUpdate t m k v)=some r):Sound P C E σ a w o r:=by
 have hm:=qQg h hg m
 have hk:=qQg h hg k
 have hv:=qQg h hg v
 simp only [qQb] at hs
 split at hs
 ·rename_i kt vt s1 s2 s3 s4 hdst et
  obtain⟨d,hde,hkk⟩:=(hT t _ et).desc
  simp only [qKl] at hkk
  obtain⟨rfl,e,hu,hei⟩:=hkk
  obtain⟨i,hi,hsz⟩:=qTn hei
  unfold qVm at hs
  split at hs
  ·rename_i n ks cs em ek ev
   rw [em] at hm;rw [ek] at hk;rw [ev] at hv
   split at hs
   ·rename_i D F eo
    cases hs
    obtain⟨hD,hF,hni⟩:=hc
    simp only [RepV] at hm hk hv
    obtain⟨b,hgn,hmv⟩:=hm
    obtain⟨hcoh,b',es,ck,hgn',hcell,hfree,hes⟩:=h.objs n _ eo
    rw [hgn] at hgn'
    cases hgn'
    obtain⟨x,off,u,hkv,hux,hun⟩:=zVw hk hni
    have hok:=qF3 (off:=off) h.heap hux hun
    obtain⟨rr,hrun,hfound⟩:=qTq hu hi hsz hok es.toList (by
     intro e he
     obtain⟨p,_,_,_,y,off',u',hy,hy1,hy2⟩:=hes e (by simpa using he)
     exact⟨_,hy,qF3 h.heap hy1 hy2⟩)
    have hnew:zYt E D F ⟨a.eval k,a.eval v,ck⟩:=⟨.ptr ks,hD,hk,by rw [← hF];exact hv,x,off,u,hkv,hux,hun⟩
    have key:∀ es' ck',(∀ e∈es',zYt E D F e)→(Instr.mapUpdate t (a.eval m) (a.eval k) (a.eval v)).run P w = .ok () { w with heap:=w.heap.setIfInBounds b (.map es' ck') } →
      Sound P C E σ a w o ⟨D (.ptr ks)∧cs=F (.ptr ks)∧ks.any PV.nonint=true,True,.undef,some (n,.cache D F),false⟩:=by
     intro es' ck' hes' hr
     refine⟨undef,{ w with heap:=w.heap.setIfInBounds b (.map es' ck') },E,.inr ⟨?_,rfl⟩,?_,trivial⟩
     ·simp only [execOp,ho,Sem.run_bind,hr,Result.andThen_ok]
      rfl
     have hbl:b<w.heap.size:=(Array.getElem?_eq_some_iff.1 hcell).1
     refine h.change (E':=E) n (some (.cache D F)) (qVa σ.objs n (.cache D F)) σ.used o.dst .undef undef (fun m=>qQo _ _ _ _) (Hle.refl _) (fun _ _=>⟨rfl,rfl,rfl⟩) (fun _=>EExt.refl _ _) (fun _=>⟨_,eo⟩) (by simp) ⟨rfl,rfl,rfl⟩
      (fun b1 hlt hne=>⟨qQ0 w b b1 _ (fun e=>hne _ eo (by rw [e,hgn];rfl)),rfl⟩) ?_ ?_ ?_ (fun _ h=>h) (by simp [RepV]) (by simp [V.names]) (by rw [hdst];simp)
     ·intro b1 hb1
      have:b1≠b:=fun e=>hb1 (e ▸ hfree)
      obtain⟨c,T',fr,hc,hp⟩:=h.heap b1 hb1
      exact⟨c,T',fr,by rw [qQ0 w b b1 _ this];exact hc,hp⟩
     ·intro o' e
      cases e
      exact⟨⟨hcoh,b,es',ck',hgn,by simp [hbl],hfree,hes'⟩,h.usedO n _ eo⟩
     ·intro o' b1 e hb1
      exact .inr ⟨hb1,_,eo⟩
    have hget:(getObj b).run P w = .ok (.map es ck) w:=by simp [getObj,Sem.run,hcell]
    have hset:∀ ob:Obj,(setObj b ob).run P w = .ok () { w with heap:=w.heap.setIfInBounds b ob }:=by intro ob;simp [setObj,Sem.run,hcell]
    cases hrr:rr with
    | none =>
     subst hrr
     refine key (es.push ⟨a.eval k,a.eval v,ck⟩) (ck+1) ?_ ?_
     ·intro e he
      rcases Array.mem_push.1 he with he|rfl
      ·exact hes e he
      ·exact hnew
     ·unfold Instr.mapUpdate
      simp only [Sem.run_bind,run_underlying hde,Result.andThen_ok,hmv,hget,hkv,qYj hu,hrun,hset]
    | some q =>
     obtain⟨j,v0⟩:=q
     subst hrr
     obtain⟨e0,he0,hk0,_⟩:=hfound j v0 rfl
     refine key (es.modify j fun e => { e with key:=a.eval k,val:=a.eval v }) ck ?_ ?_
     ·intro e he
      obtain⟨q,hq,heq⟩:=Array.getElem_of_mem he
      rw [Array.getElem_modify] at heq
      split at heq
      ·subst heq
       obtain⟨p,h1,h2,h3,x',off',v',h4,h5,h6⟩:=hnew
       exact⟨p,h1,h2,h3,x',off',v',h4,h5,h6⟩
      ·subst heq
       exact hes _ (Array.getElem_mem _)
     ·have hkk:((es[j]?).map (·.key)).getD (Value.pointer (some ⟨x,off,none⟩)) = .pointer (some ⟨x,off,none⟩):=by
       have:es[j]? = some e0:=by simpa using he0
       rw [this]
       simpa using hk0
      unfold Instr.mapUpdate
      simp only [Sem.run_bind,run_underlying hde,Result.andThen_ok,hmv,hget,hkv,qYj hu,hrun,hset,hkk,Instr.keyThatStays,Instr.sameBits]
      simp [hset]
   ·cases hs
  ·cases hs
 ·rename_i kt vt len s1 s2 s3 s4 hdst et
  obtain⟨d,hde,hkk⟩:=(hT t _ et).desc
  simp only [qKl] at hkk
  obtain⟨rfl,hkey⟩:=hkk
  unfold qJu at hs
  split at hs
  ·rename_i n ks p em ek ev
   rw [em] at hm;rw [ek] at hk;rw [ev] at hv
   split at hs
   ·rename_i es is eo ei
    cases hs
    obtain⟨hl,hall⟩:=hc
    simp only [RepV] at hm hk hv
    obtain⟨b,hgn,hmv⟩:=hm
    obtain⟨b',ms,ck,hgn',hcell,hfree,hents⟩:=h.objs n _ eo
    rw [hgn] at hgn'
    cases hgn'
    have hkv:=zZq ei hk
    obtain⟨hf1,hf2⟩:=qA4 (w:=w) hkey hl es ms.toList 0 hents hall
    have key:∀ ms' ck',EntsOK E.H (qAy es is p) ms'.toList→(Instr.mapUpdate t (a.eval m) (a.eval k) (a.eval v)).run P w = .ok () { w with heap:=w.heap.setIfInBounds b (.map ms' ck') } →
      Sound P C E σ a w o ⟨is.length=len ∧ ∀ e∈es,e.1.length=len,True,.undef,some (n,.imap (qAy es is p)),false⟩:=by
     intro ms' ck' hents' hr
     refine⟨undef,{ w with heap:=w.heap.setIfInBounds b (.map ms' ck') },E,.inr ⟨?_,rfl⟩,?_,trivial⟩
     ·simp only [execOp,ho,Sem.run_bind,hr,Result.andThen_ok]
      rfl
     have hbl:b<w.heap.size:=(Array.getElem?_eq_some_iff.1 hcell).1
     refine h.change (E':=E) n (some (.imap (qAy es is p))) (qVa σ.objs n (.imap (qAy es is p))) σ.used o.dst .undef undef (fun m=>qQo _ _ _ _) (Hle.refl _) (fun _ _=>⟨rfl,rfl,rfl⟩) (fun _=>EExt.refl _ _) (fun _=>⟨_,eo⟩) (by simp) ⟨rfl,rfl,rfl⟩
      (fun b1 hlt hne=>⟨qQ0 w b b1 _ (fun e=>hne _ eo (by rw [e,hgn];rfl)),rfl⟩) ?_ ?_ ?_ (fun _ h=>h) (by simp [RepV]) (by simp [V.names]) (by rw [hdst];simp)
     ·intro b1 hb1
      have:b1≠b:=fun e=>hb1 (e ▸ hfree)
      obtain⟨c,T',fr,hc,hp⟩:=h.heap b1 hb1
      exact⟨c,T',fr,by rw [qQ0 w b b1 _ this];exact hc,hp⟩
     ·intro o' e
      cases e
      exact⟨⟨b,ms',ck',hgn,by simp [hbl],hfree,hents'⟩,(h.usedO n _ eo).1,by simp [Ob.names]⟩
     ·intro o' b1 e hb1
      exact .inr ⟨hb1,_,eo⟩
    have hget:(getObj b).run P w = .ok (.map ms ck) w:=by simp [getObj,Sem.run,hcell]
    have hset:∀ ob:Obj,(setObj b ob).run P w = .ok () { w with heap:=w.heap.setIfInBounds b ob }:=by intro ob;simp [setObj,Sem.run,hcell]
    have hck:=hkey.2.1 w false is hl
    have hfk:=qYk (P:=P) (w:=w) hkey (ks:=is) hents
    cases hg1:qCi es is with
    | none =>
     obtain⟨h1,h2⟩:=hf1 hg1
     refine key (ms.push ⟨qYz is,a.eval v,ck⟩) (ck+1) ?_ ?_
     ·rw [h2]
      simp only [Array.toList_push]
      exact hents.app hv
     ·unfold Instr.mapUpdate
      simp only [Sem.run_bind,run_underlying hde,Result.andThen_ok,hmv,hget,hkv,hck,hfk,h1,hset]
    | some q =>
     obtain⟨j,e0,h1,h2,h3,h4,h5⟩:=hf2 q hg1
     rw [Nat.zero_add] at h1
     refine key (ms.modify j fun e => { e with key:=qYz is,val:=a.eval v }) ck ?_ ?_
     ·rw [Array.toList_modify]
      exact h5 _ _ hv
     ·have hkk:((ms[j]?).map (·.key)).getD (qYz is)=qYz is:=by
       have:ms[j]? = some e0:=by simpa using h2
       rw [this]
       simpa using h3
      unfold Instr.mapUpdate
      simp only [Sem.run_bind,run_underlying hde,Result.andThen_ok,hmv,hget,hkv,hck,hfk,h1,hset,hkk,Instr.keyThatStays,qF5]
      simp [hset]
   ·cases hs
  ·cases hs
 ·rename_i kt vt sk s1 s2 s3 s4 hdst et
  obtain⟨d,hde,hkk⟩:=(hT t _ et).desc
  simp only [qKl] at hkk
  obtain⟨rfl,hu⟩:=hkk
  exact qXh h hg hde (by cases sk<;>exact hu) (.inl ho) hdst hc hs
 ·cases hs
theorem qF6 (h:Ga C E σ a w) (hg:GOK gl C.E0.H) (hT:TOK P T) {t:Nat} {m k v:Operand} (ho:o.op = .insert t m k v) {r:R} (hc:r.cond)
  (hs:qQb T note (σ.val gl) (qQc σ.objs) o.dst (.insert t m k v)=some r):Sound P C E σ a w o r:=by
 simp only [qQb] at hs
 split at hs
 ·rename_i kt vt sk s1 s2 s3 s4 hdst et
  obtain⟨d,hde,hkk⟩:=(hT t _ et).desc
  simp only [qKl] at hkk
  obtain⟨rfl,hu⟩:=hkk
  exact qXh h hg hde (by cases sk<;>exact hu) (.inr ho) hdst hc hs
 ·cases hs
theorem qIb (h:Ga C E σ a w) (hg:GOK gl C.E0.H) (hd:∀ d,o.dst=some d→d<C.nt) (hT:TOK P T) {t:Nat} {m k:Operand} {ok:Bool} (ho:o.op = .lookup t m k ok) {r:R} (hc:r.cond)
  (hs:qQb T note (σ.val gl) (qQc σ.objs) o.dst (.lookup t m k ok)=some r):Sound P C E σ a w o r:=by
 have hm:=qQg h hg m
 have hk:=qQg h hg k
 simp only [qQb] at hs
 split at hs
 ·rename_i kt vt len s1 s2 s3 s4 et
  obtain⟨d,hde,hkk⟩:=(hT t _ et).desc
  simp only [qKl] at hkk
  obtain⟨rfl,hkey⟩:=hkk
  split at hs
  ·rename_i k1 sv bv z0 zc0 evt
   have hv:=hT vt _ evt
   split at hs
   rotate_left
   ·cases hs
   rename_i z ez
   unfold qWm at hs
   split at hs
   ·rename_i n ks em ek
    rw [em] at hm;rw [ek] at hk
    split at hs
    ·rename_i es is eo ei
     cases hs
     obtain⟨hl,hall⟩:=hc
     simp only [RepV] at hm hk
     obtain⟨b,hgn,hmv⟩:=hm
     obtain⟨b',ms,ck,hgn',hcell,hfree,hents⟩:=h.objs n _ eo
     rw [hgn] at hgn'
     cases hgn'
     have hkv:=zZq ei hk
     obtain⟨hf1,hf2⟩:=qA4 (w:=w) hkey hl es ms.toList 0 hents hall
     have hget:(getObj b).run P w = .ok (.map ms ck) w:=by simp [getObj,Sem.run,hcell]
     have hck:=hkey.2.1 w ms.isEmpty is hl
     have hfk:=qYk (P:=P) (w:=w) hkey (ks:=is) hents
     have hz:RepP E.H z z0:=by
      unfold zZp at ez
      split at ez<;>cases ez<;>first|(simp [RepP];done)|(rename_i b;simp only [RepP];exact⟨by rw [qVy],qW7 b⟩)
     have hrun:∀ u c,(Instr.lookup t (a.eval m) (a.eval k) true).run P w = .ok (.tuple #[u,.bool c]) w→(∀ x:PV,RepP E.H x u→Sound P C E σ a w o ⟨is.length=len∧(∀ e∈es,e.1.length=len),True,.pv (.tuple [x,.bool c]),.none,false⟩):=by
      intro u c hr x hx
      refine Sound.pure h (v:=.tuple #[u,.bool c]) (.inl ?_) ?_ (by simp [V.names]) hd trivial
      ·simp [execOp,ho,hr]
      ·simp only [RepV,RepP]
       exact⟨[u,.bool c],rfl,by simp,by simp only [RepL,RepP];exact⟨hx,by simp⟩⟩
     cases hg1:qCi es is with
     | none =>
      obtain⟨h1,_⟩:=hf1 hg1
      have hr:(Instr.lookup t (a.eval m) (a.eval k) true).run P w = .ok (.tuple #[z0,.bool false]) w:=by
       unfold Instr.lookup
       simp only [Sem.run_bind,run_underlying hde,Result.andThen_ok,hmv,hget,hkv,hck,hfk,h1,hv.run_zero]
       simp [hck,hfk,h1,hv.run_zero]
      simpa only [hg1] using hrun z0 false hr z hz
     | some q =>
      obtain⟨j,e0,h1,h2,h3,h4,_⟩:=hf2 q hg1
      have hr:(Instr.lookup t (a.eval m) (a.eval k) true).run P w = .ok (.tuple #[e0.val,.bool true]) w:=by
       unfold Instr.lookup
       simp only [Sem.run_bind,run_underlying hde,Result.andThen_ok,hmv,hget,hkv,hck,hfk,h1]
       simp [hck,hfk,h1]
      simpa only [hg1] using hrun e0.val true hr q h4
    ·cases hs
   ·cases hs
  ·cases hs
 ·rename_i kt vt sk s1 s2 s3 s4 et
  obtain⟨d,hde,hkk⟩:=(hT t _ et).desc
  simp only [qKl] at hkk
  obtain⟨rfl,hu⟩:=hkk
  split at hs
  ·rename_i k1 sv bv z0 zc0 evt
   have hv:=hT vt _ evt
   split at hs
   ·rename_i z ez
    exact qIa h hg hd hde (by cases sk<;>exact hu) ho hc hv ez hs
   ·cases hs
  ·cases hs
 ·cases hs
theorem qIc (h:Ga C E σ a w) (hg:GOK gl C.E0.H) (hd:∀ d,o.dst=some d→d<C.nt) (hT:TOK P T) {t:Nat} {x:Operand} (ho:o.op = .range t x) {r:R}
  (hs:qQb T note (σ.val gl) (qQc σ.objs) o.dst (.range t x)=some r) (hn:∀ n x,r.wr=some (n,x)→r.new=true→n ∉ σ.used):Sound P C E σ a w o r:=by
 have hx:=qQg h hg x
 simp only [qQb] at hs
 split at hs
 ·rename_i s1 s2 s3 s4 et
  obtain⟨d,hde,hk⟩:=(hT t _ et).desc
  simp only [qKl] at hk
  subst hk
  unfold qAz at hs
  split at hs
  ·rename_i n l ex
   rw [ex] at hx
   simp only [RepV,RepP] at hx
   cases hs
   have hn:=hn n _ rfl rfl
   let E':Env:={ E with g:=fun m=>if m=n then .pointer (some ⟨w.heap.size,0,none⟩) else E.g m }
   have hg':E'.g n = .pointer (some ⟨w.heap.size,0,none⟩):=by simp [E']
   have hE:∀ m,m≠n→E'.g m=E.g m∧E'.ver m=E.ver m∧E'.sz m=E.sz m:=fun m hm=>⟨by simp [E',hm],rfl,rfl⟩
   refine⟨.pointer (some ⟨w.heap.size,0,none⟩),w.alloc (.stringIter ⟨(l.map UInt8.ofNat).toArray⟩ 0),E',.inl ?_,?_,trivial⟩
   ·have hr:(Instr.range t (a.eval x)).run P w = .ok (.pointer (some ⟨w.heap.size,0,none⟩)) (w.alloc (.stringIter ⟨(l.map UInt8.ofNat).toArray⟩ 0)):=by
     rw [hx.1]
     simp [Instr.range,Sem.run_bind,run_underlying hde]
    simp only [execOp,ho,Sem.run_bind,hr,Result.andThen_ok]
    rfl
   refine h.change (E':=E') n (some (.siter l 0)) (qVa σ.objs n (.siter l 0)) (n::σ.used) o.dst (.loc n 0) _ (fun m=>qQo _ _ _ _) (Hle.refl _) hE (fun hk=>absurd hk hn) (fun hk=>absurd hk hn)
    (by simp) ⟨rfl,rfl,rfl⟩ (fun b hb _=>⟨heap_alloc_old w _ b hb,rfl⟩) (qZg h.heap _ E' rfl) ?_ ?_ (fun m hm=>by simp [hm]) ?_ ?_ hd
   ·intro o' e
    cases e
    exact⟨⟨w.heap.size,hg',heap_alloc_new w _,h.heap.lt (Nat.le_refl _),hx.2⟩,by simp,by simp [Ob.names]⟩
   ·intro o' b e hb
    rw [hg'] at hb
    simp [blk] at hb
    omega
   ·exact⟨_,hg',rfl⟩
   ·simp [V.names]
  ·cases hs
 ·cases hs
theorem qM8 (h:Ga C E σ a w) (hg:GOK gl C.E0.H) (hd:∀ d,o.dst=some d→d<C.nt) {x:Operand} (ho:o.op = .next x true) {r:R} (hc:r.cond)
  (hs:qQb T note (σ.val gl) (qQc σ.objs) o.dst (.next x true)=some r):Sound P C E σ a w o r:=by
 have hx:=qQg h hg x
 simp only [qQb] at hs
 unfold qW9 at hs
 split at hs
 ·rename_i n ex
  rw [ex] at hx
  simp only [RepV] at hx
  obtain⟨b,hgn,hv⟩:=hx
  split at hs
  ·rename_i l p eo
   obtain⟨b',hgn',hcell,hfree,hlt⟩:=h.objs n _ eo
   rw [hgn] at hgn'
   cases hgn'
   have hget:(getObj b).run P w = .ok (.stringIter ⟨(l.map UInt8.ofNat).toArray⟩ p) w:=by simp [getObj,Sem.run,hcell]
   have hset:∀ ob:Obj,(setObj b ob).run P w = .ok () { w with heap:=w.heap.setIfInBounds b ob }:=by intro ob;simp [setObj,Sem.run,hcell]
   have hsz:(⟨(l.map UInt8.ofNat).toArray⟩:ByteArray).size=l.length:=by simp [ByteArray.size]
   have hbl:b<w.heap.size:=(Array.getElem?_eq_some_iff.1 hcell).1
   split at hs
   ·rename_i c ec
    cases hs
    have hp:p<l.length:=(List.getElem?_eq_some_iff.1 ec).1
    have hpc:l[p]=c:=(List.getElem?_eq_some_iff.1 ec).2
    have hdec:=decode_ascii (⟨(l.map UInt8.ofNat).toArray⟩:ByteArray) p (by rw [hsz];exact hp) (by
     have h1:((⟨(l.map UInt8.ofNat).toArray⟩:ByteArray)[p]'(by rw [hsz];exact hp))=UInt8.ofNat l[p]:=by simp [ByteArray.getElem_eq_getElem_data]
     rw [h1,hpc]
     have hc':c<128:=hc
     have:(UInt8.ofNat c).toNat=c:=by simp [Nat.mod_eq_of_lt (show c<256 by omega)]
     omega)
    have hcb:((⟨(l.map UInt8.ofNat).toArray⟩:ByteArray)[p]'(by rw [hsz];exact hp)).toNat=c:=by
     have h1:((⟨(l.map UInt8.ofNat).toArray⟩:ByteArray)[p]'(by rw [hsz];exact hp))=UInt8.ofNat l[p]:=by simp [ByteArray.getElem_eq_getElem_data]
     rw [h1,hpc]
     have hc':c<128:=hc
     simp [Nat.mod_eq_of_lt (show c<256 by omega)]
    rw [hcb] at hdec
    have hr:(Instr.next (a.eval x) true o.type).run P w = .ok (.tuple #[.bool true,.int .i64 p,.int .i32 c]) { w with heap:=w.heap.setIfInBounds b (.stringIter ⟨(l.map UInt8.ofNat).toArray⟩ (p+1)) }:=by
     rw [hv]
     unfold Instr.next
     simp only [Sem.run_bind,hget,Result.andThen_ok,hsz,hp,if_true,hdec,hset,goInt]
     simp [hset,hp,hdec,goInt]
    refine⟨.tuple #[.bool true,.int .i64 p,.int .i32 c],{ w with heap:=w.heap.setIfInBounds b (.stringIter ⟨(l.map UInt8.ofNat).toArray⟩ (p+1)) },E,.inl ?_,?_,trivial⟩
    ·simp only [execOp,ho,Sem.run_bind,hr,Result.andThen_ok]
     rfl
    refine h.change (E':=E) n (some (.siter l (p+1))) (qVa σ.objs n (.siter l (p+1))) σ.used o.dst _ _ (fun m=>qQo _ _ _ _) (Hle.refl _) (fun _ _=>⟨rfl,rfl,rfl⟩) (fun _=>EExt.refl _ _) (fun _=>⟨_,eo⟩) (by simp) ⟨rfl,rfl,rfl⟩
     (fun b1 hlt hne=>⟨qQ0 w b b1 _ (fun e=>hne _ eo (by rw [e,hgn];rfl)),rfl⟩) ?_ ?_ ?_ (fun _ h=>h) ?_ (by simp [V.names]) hd
    ·intro b1 hb1
     have:b1≠b:=fun e=>hb1 (e ▸ hfree)
     obtain⟨c,T',fr,hc,hp⟩:=h.heap b1 hb1
     exact⟨c,T',fr,by rw [qQ0 w b b1 _ this];exact hc,hp⟩
    ·intro o' e
     cases e
     exact⟨⟨b,hgn,by simp [hbl],hfree,hlt⟩,(h.usedO n _ eo).1,by simp [Ob.names]⟩
    ·intro o' b1 e hb1
     exact .inr ⟨hb1,_,eo⟩
    ·simp only [RepV,RepP]
     exact⟨[.bool true,.int .i64 p,.int .i32 c],rfl,by simp,by simp [RepL,RepP]⟩
   ·rename_i ec
    cases hs
    have hp:¬ p<l.length:=by
     intro hlt
     rw [List.getElem?_eq_getElem hlt] at ec
     cases ec
    have hr:(Instr.next (a.eval x) true o.type).run P w = .ok (.tuple #[.bool false]) w:=by
     rw [hv]
     unfold Instr.next
     simp only [Sem.run_bind,hget,Result.andThen_ok,hsz,hp,if_false]
     simp [hp]
    refine Sound.pure h (v:=.tuple #[.bool false]) (.inl ?_) ?_ (by simp [R.of,V.names]) hd trivial
    ·simp only [execOp,ho,Sem.run_bind,hr,Result.andThen_ok]
     rfl
    ·simp only [R.of,RepV,RepP]
     exact⟨[.bool false],rfl,by simp,by simp [RepL,RepP]⟩
  ·cases hs
 ·cases hs
theorem qEb (h:Ga C E σ a w) (hg:GOK gl C.E0.H) (hd:∀ d,o.dst=some d→d<C.nt) (hT:TOK P T) {s t:Nat} {x:Operand} (ho:o.op = .convert s t x) {r:R} (hc:r.cond)
  (hs:qQb T note (σ.val gl) (qQc σ.objs) o.dst (.convert s t x)=some r):Sound P C E σ a w o r:=by
 have hx:=qQg h hg x
 simp only [qQb] at hs
 have key:∀ (si:TI) (k k':IntKind) (n:Int) (sz by_:Nat) (z:Value) (zc:List PV),T s=some si→T t=some ⟨.num k,sz,by_,z,zc⟩→a.eval x = .int k' n→Sound P C E σ a w o (R.of (.pv (.num k (k.wrap n)))):=by
  intro si k k' n sz by_ z zc es et ev
  obtain⟨d,hsd,_⟩:=(hT s _ es).desc
  obtain⟨d',hd',hk⟩:=(hT t _ et).desc
  simp only [qKl] at hk
  obtain⟨rfl,h1,h2⟩:=hk
  refine Sound.pure h (v:=.int k (k.wrap n)) (.inl ?_) (by simp only [RepV,RepP];exact⟨trivial,h1,h2⟩) (by simp [R.of,V.names]) hd trivial
  simp [execOp,ho,ev,convert,run_underlying hsd,run_underlying hd',Conv.intToInt]
 have key2:∀ (si:TI) (k':IntKind) (n:Int) (sz by_:Nat) (z:Value) (zc:List PV),T s=some si→T t=some ⟨.int,sz,by_,z,zc⟩→a.eval x = .int k' n→Sound P C E σ a w o (R.of (.pv (.int (IntKind.i64.wrap n)))):=by
  intro si k' n sz by_ z zc es et ev
  obtain⟨d,hsd,_⟩:=(hT s _ es).desc
  obtain⟨d',hd',hk⟩:=(hT t _ et).desc
  simp only [qKl] at hk
  subst hk
  refine Sound.pure h (v:=.int .i64 (IntKind.i64.wrap n)) (.inl ?_) (by simp only [R.of,RepV,RepP]) (by simp [R.of,V.names]) hd trivial
  simp [execOp,ho,ev,convert,run_underlying hsd,run_underlying hd',Conv.intToInt]
 split at hs
 ·rename_i si k sz by_ z zc k' n es et e
  cases hs
  rw [e] at hx
  simp only [RepV,RepP] at hx
  exact key si k k' n _ _ _ _ es et hx.1
 ·rename_i si k sz by_ z zc n es et e
  cases hs
  rw [e] at hx
  simp only [RepV,RepP] at hx
  exact key si k .i64 n _ _ _ _ es et hx
 ·rename_i si sz by_ z zc k' n es et e
  cases hs
  rw [e] at hx
  simp only [RepV,RepP] at hx
  exact key2 si k' n _ _ _ _ es et hx.1
 ·rename_i si sz by_ z zc n es et e
  cases hs
  rw [e] at hx
  simp only [RepV,RepP] at hx
  exact key2 si .i64 n _ _ _ _ es et hx
 ·rename_i s1 s2 s3 s4 e u1 u2 u3 u4 l es et ex
  split at hs
  ·rename_i v1 v2 v3 v4 ee
   cases hs
   rw [ex] at hx
   simp only [RepV,RepP] at hx
   obtain⟨d1,hd1,hk1⟩:=(hT s _ es).desc
   obtain⟨d2,hd2,hk2⟩:=(hT t _ et).desc
   obtain⟨d3,hd3,hk3⟩:=(hT e _ ee).desc
   simp only [qKl] at hk1 hk2 hk3
   subst hk1 hk2
   obtain⟨rfl,_⟩:=hk3
   have hc':l.length≤maxLen:=hc
   have hsz:(⟨(l.map UInt8.ofNat).toArray⟩:ByteArray).size=l.length:=by simp [ByteArray.size]
   have hr:=run_bytes_of_string (P:=P) w s t e ⟨(l.map UInt8.ofNat).toArray⟩ hd1 hd2 hd3
   rw [hsz] at hr
   have hcells:∀ cap,(bytesRow ⟨(l.map UInt8.ofNat).toArray⟩ cap).toList=l.map (fun b=>Value.int .u8 (Int.ofNat b))++List.replicate (cap-l.length) (.int .u8 0):=by
    intro cap
    simp only [bytesRow,hsz,Array.toList_append,Array.toList_map,Array.toList_replicate,List.map_map]
    congr 1
    refine List.map_congr_left fun b hb => ?_
    have:=hx.2 b hb
    simp [Nat.mod_eq_of_lt this]
   obtain⟨E',hE'⟩:=h.drew.newRowF (dst:=o.dst) hd e (bytesRow ⟨(l.map UInt8.ofNat).toArray⟩ (grownCap w l.length 0 e)) _ (by
    intro v hv
    rw [hcells] at hv
    rcases List.mem_append.1 hv with hv|hv
    ·obtain⟨b,_,rfl⟩:=List.mem_map.1 hv;exact⟨Int.ofNat b,rfl⟩
    ·exact⟨0,(List.mem_replicate.1 hv).2⟩) (x:=.pv (.slice (qWn l))) (v:=.slice (some ⟨w.heap.size,0,none⟩) l.length (grownCap w l.length 0 e)) (by
    intro H' hH hnew
    simp only [RepV,RepP]
    refine⟨some ⟨w.heap.size,0,none⟩,grownCap w l.length 0 e,by simp [qWn],by simp only [qWn,List.length_map];exact grownCap_ge w l.length 0 e,by simpa [qWn] using hc',.inr ⟨w.heap.size,0,rfl,?_⟩⟩
    have hnew':H' w.heap.size=(bytesRow ⟨(l.map UInt8.ofNat).toArray⟩ (grownCap w l.length 0 e)).toList.map sn:=hnew
    rw [hnew',hcells,List.map_append,List.drop_zero]
    have key:∀ (m:List Nat) (z:List Value),RepE H' (qWn m) ((m.map (fun b=>Value.int .u8 (Int.ofNat b))).map sn++z):=by
     intro m
     induction m with
     | nil=>intro z;simp [qWn,RepE]
     | cons b m ih =>
      intro z
      have:=ih z
      simp only [qWn,List.map_cons,RepE,RepL,List.cons_append,List.length_cons,List.length_nil,List.drop_succ_cons,List.drop_zero] at this ⊢
      exact⟨⟨by simp [RepP,sn],trivial⟩,this⟩
    exact key l _) (by simp [V.names])
   exact⟨_,_,E',.inl (by simp only [execOp,ho,Sem.run_bind,hx.1,hr,Result.andThen_ok];rfl),hE',trivial⟩
  ·cases hs
 ·cases hs
end
section
variable {P:Program}
end
section
variable {P:Program} {C:Ctx} {E:Env} {σ:St} {a:Act} {w:World} {gl:Nat→Option (List PV)} {o:Oper} {T:Nat→Option TI} {note:qCw}
theorem qF7 (hT:TOK P T) (hg:GOK gl C.E0.H) (h:Ga C E σ a w) (hd:∀ d,o.dst=some d→d<C.nt) {r:R}
  (hs:qQb T note (σ.val gl) (qQc σ.objs) o.dst o.op=some r) (hc:r.cond) (hn:∀ n x,r.wr=some (n,x)→r.new=true→n ∉ σ.used):Sound P C E σ a w o r:=by
 generalize hop:o.op=op at hs
 have hmove:∀ x,(op = .move x∨op = .assign x)→qQb T note (σ.val gl) (qQc σ.objs) o.dst op=some r→Sound P C E σ a w o r:=by
  intro x hx hs
  have hs':qJ4 note (σ.val gl) x=some r:=by
   rcases hx with rfl|rfl<;>simpa only [qQb] using hs
  unfold qJ4 at hs'
  split at hs'
  ·cases hs'
   exact qF1 h hd (hn _ _ rfl rfl) (by rcases hx with rfl|rfl<;>simp [hop])
  ·cases hs'
   exact qM0 h hg hd (by rcases hx with rfl|rfl<;>simp [hop])
 cases op with
 | move x=>exact hmove x (.inl rfl) hs
 | assign x=>exact hmove x (.inr rfl) hs
 | pick c x y=>exact qM1 h hg hd hop hs
 | alloc t=>exact qH4 h hd hT hop hs hn
 | box t x=>exact qOt h hg hd hop hs hn
 | build t parts=>exact qH5 h hg hd hT hop hs
 | buildSlice t len parts=>exact qY3 h hg hd hT hop hc hs hn
 | load t x=>exact qM4 h hg hd hT hop hc hs
 | store t x y=>exact qH7 h hg hT hop hc hs
 | nilCheck x=>exact qCj h hg hd hop hs
 | convert s t x=>exact qEb h hg hd hT hop hc hs
 | binOp b t x y t'=>exact qOr h hg hd hT hop hc hs
 | unOp u t x =>
  cases u
  case not=>exact qOq h hg hd hop hs
  all_goals cases hs
 | makeInterface t x=>exact qHw h hg hd hop hT hs
 | fieldAddr t x f=>exact qA1 h hg hd hT hop hs
 | field t x f=>exact qH0 h hg hd hT hop hs
 | indexAddr t x i=>exact qH1 h hg hd hT hop hc hs
 | extract x i=>exact qD5 h hg hd hop hs
 | slice t x lo hi mx=>exact qH3 h hg hd hT hop hc hs
 | typeAssert x t0 t b=>exact qFx h hg hd hT hop hs
 | makeFunc fn first caps =>
  cases fn with
  | func f=>exact qCn h hg hd hop hs
  | _=>cases hs
 | makeMap t r0 =>
  cases r0 with
  | none=>exact qEa h hd hop hc hs hn
  | some _=>cases hs
 | mapUpdate t m k v=>exact qA6 h hg hT hop hc hs
 | lookup t m k ok=>exact qIb h hg hd hT hop hc hs
 | insert t m k v=>exact qF6 h hg hT hop hc hs
 | index t x i=>exact qFz h hg hd hT hop hc hs
 | range t x=>exact qIc h hg hd hT hop hs hn
 | next x b =>
  cases b with
  | true=>exact qM8 h hg hd hop hc hs
  | false=>cases hs
 | call c =>
  obtain⟨callee,args,argTypes⟩:=c
  cases callee with
  | builtin b =>
   cases b
   case len=>exact qOs h hg hd hT hop hc hs
   case append=>exact qF2 h hg hd hT hop hc hs hn
   case max=>exact qOv h hg hd hop hs
   all_goals cases hs
  | value f=>cases hs
  | invoke r m=>cases hs
 | _=>cases hs
end
def qQa (l:List (Nat × Ob)):List Nat:=l.map (·.1)
theorem qQh {l:List (Nat × Ob)} {n:Nat} {o:Ob} (h:qQc l n=some o):n∈qQa l:=by
 induction l with
 | nil=>simp [qQc] at h
 | cons p r ih =>
  obtain⟨k,x⟩:=p
  simp only [qQc] at h
  split at h
  ·rename_i e;subst e;simp [qQa]
  ·have:=ih h;simp only [qQa,List.map_cons,List.mem_cons] at this ⊢;exact .inr this
theorem qQ7 {l:List (Nat × Ob)} {n:Nat} (h:n∈qQa l):∃ o,qQc l n=some o:=by
 induction l with
 | nil=>simp [qQa] at h
 | cons p r ih =>
  obtain⟨k,x⟩:=p
  by_cases e:k=n
  ·exact⟨x,by simp [qQc,e]⟩
  ·simp only [qQa,List.map_cons,List.mem_cons] at h
   rcases h with h|h
   ·exact absurd h.symm e
   ·obtain⟨o,ho⟩:=ih h
    exact⟨o,by simp [qQc,e,ho]⟩
def qCo:List (Nat × Ob)→List (Nat × Ob)→Prop
 | [],_=>True
 | (n,o)::r,l=>qQc l n=some o∧qCo r l
theorem qWp:∀ {objs l:List (Nat × Ob)},qCo objs l→∀ n o,qQc objs n=some o→qQc l n=some o
 | [],_,_,n,o,h=>by simp [qQc] at h
 | (k,x)::r,l,hs,n,o,h=>by
  simp only [qCo] at hs
  simp only [qQc] at h
  split at h
  ·rename_i e;cases h;subst e;exact hs.1
  ·exact qWp hs.2 n o h
def qJv:List (Nat × Ob)→List Nat
 | []=>[]
 | (_,o)::r=>o.names++qJv r
def qKy (args:List V) (objs:List (Nat × Ob)):List Nat:=qQj args++qJv objs
theorem qOz {objs l:List (Nat × Ob)} {n:Nat} (hs:qCo objs l) (h:n∈qJv objs):∃ m o,qQc l m=some o∧n∈o.names:=by
 induction objs with
 | nil=>simp [qJv] at h
 | cons p r ih =>
  obtain⟨k,x⟩:=p
  simp only [qCo] at hs
  simp only [qJv,List.mem_append] at h
  rcases h with h|h
  ·exact⟨k,x,hs.1,h⟩
  ·exact ih hs.2 h
theorem qDa {objs l l':List (Nat × Ob)} (h:∀ n∈qQa objs,qQc l n=qQc l' n) (hs:qCo objs l):qCo objs l':=by
 induction objs with
 | nil=>trivial
 | cons p r ih =>
  obtain⟨k,x⟩:=p
  simp only [qCo] at hs ⊢
  refine⟨?_,ih (fun n hn=>h n (by simp only [qQa,List.map_cons,List.mem_cons];exact .inr hn)) hs.2⟩
  rw [← h k (by simp [qQa])]
  exact hs.1
inductive Out where
 | ret (x:V)
 | panic (p:PV)
def Out.names:Out→List Nat
 | .ret x=>x.names
 | .panic _=>[]
def qO0 (E:Env):Out→Ending→Prop
 | .ret x,e => ∃ v,e = .returned v∧RepV E x v
 | .panic p,e => ∃ v,e = .panicked [{ v,recovered:=false }]∧RepP E.H p v
structure zYu (gl:Nat→Option (List PV)) (E:Env) (w:World) (objs:List (Nat × Ob)):Prop where
 heap:HeapOK E w
 glob:GOK gl E.H
 obs:∀ n o,qQc objs n=some o→ObOK E w n o
 apart:∀ n m o o',qQc objs n=some o→qQc objs m=some o'→n≠m→∀ b,blk (E.g n)=some b→blk (E.g m)≠some b
structure zX1 (E:Env) (w:World) (objs:List (Nat × Ob)) (E':Env) (w':World) (objs':List (Nat × Ob)):Prop where
 heap:HeapOK E' w'
 obs:∀ n o,qQc objs' n=some o→ObOK E' w' n o
 apart:∀ n m o o',qQc objs' n=some o→qQc objs' m=some o'→n≠m→∀ b,blk (E'.g n)=some b→blk (E'.g m)≠some b
 hle:Hle E.H E'.H
 size:w.heap.size≤w'.heap.size
 rest:w'.os=w.os∧w'.tape=w.tape∧w'.output=w.output
 same:∀ b,b<w.heap.size→(∀ n o,qQc objs n=some o→blk (E.g n)≠some b)→(nf (E.H b)→w'.heap[b]? = w.heap[b]?)∧E'.H b=E.H b
 own:∀ n o b,qQc objs' n=some o→blk (E'.g n)=some b→w.heap.size≤b ∨ ∃ m o',qQc objs m=some o'∧blk (E.g m)=some b
 ext:∀ n o,qQc objs n=some o→EExt E E' n
 other:∀ n,qQc objs n=none→qQc objs' n=none→E'.g n=E.g n∧E'.ver n=E.ver n∧E'.sz n=E.sz n
def zZr (P : Program) (f : Nat) : Prop := ∃ fn, P.funcs[f]? = some fn ∧ (fn.name == "runtime.NumGoroutine") = false ∧ fn.body.isNone = false
structure AC (P:Program) (gl:Nat→Option (List PV)) (f:Nat) (args:List V) (objs:List (Nat × Ob)) (out:Out) (objs':List (Nat × Ob)):Prop where
 direct:zZr P f
 names:∀ n∈out.names,n∈qQa objs∨n∈qQa objs'∨n∈qKy args objs
 namesO:∀ m o,qQc objs' m=some o→∀ n∈o.names,n∈qQa objs∨n∈qQa objs'∨n∈qKy args objs
 calls:∀ (E:Env) (w:World) (vs:List Value),zYu gl E w objs→vs.length=args.length→RepVL E args vs →
  Calls P f vs.toArray w fun e w' => ∃ E',zX1 E w objs E' w' objs'∧qO0 E' out e
structure Eff where
 x:V
 wr:List (Nat × Option Ob)
 nw:List Nat
 rd:List Nat
def zDy (l:List (Nat × Ob)) (n:Nat):Option Ob→List (Nat × Ob)
 | some o=>qVa l n o
 | none=>qMy l n
def qWf (l:List (Nat × Ob)):List (Nat × Option Ob)→List (Nat × Ob)
 | []=>l
 | (n,o)::r=>qWf (zDy l n o) r
def St.eff (σ:St) (dst:Option Nat) (e:Eff):St:=⟨qAt dst e.x σ.slots,qWf σ.objs e.wr,e.nw++σ.used⟩
theorem qO1 (l:List (Nat × Ob)) (k n:Nat) (o:Option Ob):qQc (zDy l k o) n=if n=k then o else qQc l n:=by
 cases o with
 | none=>exact qWj l k n
 | some o=>exact qQo l k n o
def qJj:List (Nat × Option Ob)→Nat→Option (Option Ob)
 | [],_=>none
 | (k,o)::r,n=>match qJj r n with
  | some x=>some x
  | none=>if k=n then some o else none
theorem qZh:∀ (wr:List (Nat × Option Ob)) (l:List (Nat × Ob)) (n:Nat),qQc (qWf l wr) n=match qJj wr n with|some o=>o|none=>qQc l n
 | [],l,n=>rfl
 | (k,o)::r,l,n=>by
  simp only [qWf,qJj]
  rw [qZh r]
  cases qJj r n with
  | some x=>rfl
  | none =>
   simp only
   rw [qO1]
   by_cases e:k=n
   ·subst e;simp
   ·have:¬ n=k:=fun h=>e h.symm
    simp [e,this]
def qKn (objs objs':List (Nat × Ob)):List (Nat × Option Ob) :=
 ((qQa objs).filter (fun n=>(qQc objs' n).isNone)).map (fun n=>(n,none))++objs'.reverse.map (fun p=>(p.1,some p.2))
def qZp (x:V) (objs objs':List (Nat × Ob)):Eff :=
 ⟨x,qKn objs objs',(qQa objs').filter (fun n=>(qQc objs n).isNone),qQa objs⟩
def qV4 (x:V) (ro objs objs':List (Nat × Ob)):Eff :=
 ⟨x,qKn objs objs',(qQa objs').filter (fun n=>(qQc objs n).isNone),qQa ro++qQa objs⟩
theorem qYl (a b:List (Nat × Option Ob)) (n:Nat):qJj (a++b) n=match qJj b n with|some x=>some x|none=>qJj a n:=by
 induction a with
 | nil=>simp [qJj];cases qJj b n<;>rfl
 | cons p r ih =>
  obtain⟨k,o⟩:=p
  simp only [List.cons_append,qJj,ih]
  cases qJj b n<;>rfl
theorem qM9 (l:List (Nat × Ob)) (n:Nat):qJj (l.reverse.map (fun p=>(p.1,some p.2))) n=(qQc l n).map some:=by
 induction l with
 | nil=>rfl
 | cons p r ih =>
  obtain⟨k,o⟩:=p
  simp only [List.reverse_cons,List.map_append,List.map_cons,List.map_nil,qYl,qJj,qQc,ih]
  by_cases e:k=n
  ·simp [e]
  ·simp [e]
theorem qNa (l:List Nat) (n:Nat):qJj (l.map (fun n=>(n,none))) n=if n∈l then some none else none:=by
 induction l with
 | nil=>simp [qJj]
 | cons k r ih =>
  simp only [List.map_cons,qJj,ih]
  by_cases h:n∈r
  ·simp [h]
  ·by_cases e:k=n
   ·simp [e,h]
   ·have:¬ n=k:=fun h=>e h.symm
    simp [h,e,this]
theorem qZi (l objs objs':List (Nat × Ob)) (n:Nat):qQc (qWf l (qKn objs objs')) n =
  match qQc objs' n with|some o=>some o|none=>if n∈qQa objs then none else qQc l n:=by
 rw [qZh,qKn,qYl,qM9,qNa]
 cases h:qQc objs' n with
 | some o=>simp
 | none =>
  by_cases hm:n∈qQa objs
  ·simp [hm,h]
  ·simp [hm]
section
variable {P:Program} {C:Ctx} {E:Env} {σ:St} {a:Act} {w:World} {gl:Nat→Option (List PV)}
theorem Ga.called (h:Ga C E σ a w) {E':Env} {w':World} {objs objs':List (Nat × Ob)} (hD:zX1 E w objs E' w' objs') (hsub:∀ n o,qQc objs n=some o→qQc σ.objs n=some o)
  (hfresh:∀ n,n∈qQa objs'→n∈qQa objs∨n ∉ σ.used) {ment:List Nat} (hment:∀ n∈ment,n∈σ.used) (hno:∀ m o,qQc objs' m=some o→∀ n∈o.names,n∈qQa objs∨n∈qQa objs'∨n∈ment)
  {dst:Option Nat} {x:V} {v:Value} (hx:RepV E' x v) (hxn:∀ n∈x.names,n∈qQa objs∨n∈qQa objs'∨n∈ment) (hd:∀ d,dst=some d→d<C.nt) :
  Ga C E' (σ.eff dst (qZp x objs objs')) (a.put dst v) w':=by
 have hkey:∀ n∈qQa objs,n∈σ.used:=fun n hn=>by
  obtain⟨o,ho⟩:=qQ7 hn
  exact (h.usedO n o (hsub n o ho)).1
 have hused':∀ n,n∈qQa objs∨n∈qQa objs'∨n∈ment→n∈(qZp x objs objs').nw++σ.used:=by
  intro n hn
  rw [List.mem_append]
  by_cases hk:n∈qQa objs
  ·exact .inr (hkey n hk)
  ·rcases hn with hn|hn|hn
   ·exact absurd hn hk
   rotate_left
   ·exact .inr (hment n hn)
   ·left
    simp only [qZp,List.mem_filter]
    refine⟨hn,?_⟩
    cases e:qQc objs n with
    | none=>rfl
    | some o=>exact absurd (qQh e) hk
 have hee:∀ n∈σ.used,EExt E E' n:=by
  intro n hn
  by_cases hk:n∈qQa objs
  ·obtain⟨o,ho⟩:=qQ7 hk
   exact hD.ext n o ho
  ·have h1:qQc objs n=none:=by
    cases e:qQc objs n with
    | none=>rfl
    | some o=>exact absurd (qQh e) hk
   have h2:qQc objs' n=none:=by
    cases e:qQc objs' n with
    | none=>rfl
    | some o =>
     rcases hfresh n (qQh e) with hf|hf
     ·exact absurd hf hk
     ·exact absurd hn hf
   obtain⟨e1,e2,e3⟩:=hD.other n h1 h2
   exact EExt.of_eq e1 e2 e3
 have hold:∀ t,RepV E' (qZw σ.slots t) (a.tmps.getD t undef):=fun t =>
  RepV.mono hD.hle _ _ (fun n hn=>hee n (h.usedS t n hn)) (h.slots t)
 have hkeep:∀ n o,qQc σ.objs n=some o→n ∉ qQa objs→qQc objs' n=none∧E'.g n=E.g n∧E'.ver n=E.ver n∧E'.sz n=E.sz n∧(∀ b,blk (E.g n)=some b→w'.heap[b]? = w.heap[b]? ∧ E'.H b=E.H b):=by
  intro n o hn hk
  have h1:qQc objs n=none:=by
   cases e:qQc objs n with
   | none=>rfl
   | some o=>exact absurd (qQh e) hk
  have h2:qQc objs' n=none:=by
   cases e:qQc objs' n with
   | none=>rfl
   | some o' =>
    rcases hfresh n (qQh e) with hf|hf
    ·exact absurd hf hk
    ·exact absurd (h.usedO n o hn).1 hf
  obtain⟨e1,e2,e3⟩:=hD.other n h1 h2
  refine⟨h2,e1,e2,e3,fun b hb => ?_⟩
  have hh:=hD.same b ((h.objs n o hn).blk_lt hb) (by
   intro m o' hm hb'
   refine h.apart n m o o' hn (hsub m o' hm) ?_ b hb hb'
   intro e
   subst e
   exact hk (qQh hm))
  exact⟨hh.1 (by rw [(h.objs n o hn).free hb];intro v hv;cases hv),hh.2⟩
 constructor
 ·intro t
  cases dst with
  | none=>exact hold t
  | some d =>
   simp only [St.eff,qAt,qZw,Act.put]
   by_cases e:d=t
   ·subst e
    have hlt:d<a.tmps.size:=by rw [h.size];exact hd d rfl
    simp [hlt,qZp,hx]
   ·simp only [e,if_false]
    have:=hold t
    simpa [Array.getD_eq_getD_getElem?,Array.getElem?_setIfInBounds_ne e] using this
 ·cases dst<;>simp [Act.put,h.size]
 ·refine⟨?_,fun n hn=>List.mem_append.2 (.inr (h.defers.2 n hn))⟩
  have:=DefOK.mono hD.hle _ _ (fun n hn=>hee n (h.defers.2 n hn)) h.defers.1
  cases dst<;>simpa [Act.put] using this
 ·exact hD.heap
 ·intro n o hn
  simp only [St.eff,qZp,qZi] at hn
  split at hn
  ·rename_i o' e
   cases hn
   exact hD.obs n _ e
  ·split at hn
   ·cases hn
   ·rename_i hk
    obtain⟨_,e1,e2,e3,e4⟩:=hkeep n o hn hk
    exact (h.objs n o hn).mono hD.hle e1 e2 e3 (fun m hm=>hee m ((h.usedO n o hn).2 m hm)) e4
 ·have key:∀ n o m o',qQc objs' n=some o→qQc σ.objs m=some o'→m ∉ qQa objs→∀ b,blk (E'.g n)=some b→blk (E'.g m)≠some b:=by
   intro n o m o' hn hm hk b hb hb'
   obtain⟨_,e1,_,_,_⟩:=hkeep m o' hm hk
   rw [e1] at hb'
   rcases hD.own n o b hn hb with hge|⟨q,oq,hq,hbq⟩
   ·have:=(h.objs m o' hm).blk_lt hb';omega
   ·refine h.apart m q o' oq hm (hsub q oq hq) ?_ b hb' hbq
    intro e
    subst e
    exact hk (qQh hq)
  intro n m o o' hn hm hne b hb hb'
  simp only [St.eff,qZp,qZi] at hn hm
  split at hn
  ·rename_i on en
   cases hn
   split at hm
   ·rename_i om em
    cases hm
    exact hD.apart n m _ _ en em hne b hb hb'
   ·split at hm
    ·cases hm
    ·rename_i hk
     exact key n _ m o' en hm hk b hb hb'
  ·split at hn
   ·cases hn
   ·rename_i hkn
    split at hm
    ·rename_i om em
     cases hm
     exact key m _ n o em hn hkn b hb' hb
    ·split at hm
     ·cases hm
     ·rename_i hkm
      rw [(hkeep n o hn hkn).2.1] at hb
      rw [(hkeep m o' hm hkm).2.1] at hb'
      exact h.apart n m o o' hn hm hne b hb hb'
 ·intro t n hn
  cases dst with
  | none=>exact List.mem_append.2 (.inr (h.usedS t n hn))
  | some d =>
   simp only [St.eff,qAt,qZw] at hn
   split at hn
   ·exact hused' n (hxn n hn)
   ·exact List.mem_append.2 (.inr (h.usedS t n hn))
 ·intro n o hn
  simp only [St.eff,qZp,qZi] at hn
  split at hn
  ·rename_i o' e
   cases hn
   exact⟨hused' n (.inr (.inl (qQh e))),fun m hm=>hused' m (hno n _ e m hm)⟩
  ·split at hn
   ·cases hn
   ·exact⟨List.mem_append.2 (.inr (h.usedO n o hn).1),fun m hm=>List.mem_append.2 (.inr ((h.usedO n o hn).2 m hm))⟩
 ·exact fun n o hn=>List.mem_append.2 (.inr (h.usedG n o hn))
 ·exact Nat.le_trans h.grown hD.size
 ·exact⟨hD.rest.1.trans h.rest.1,hD.rest.2.1.trans h.rest.2.1,hD.rest.2.2.trans h.rest.2.2⟩
 ·intro b hb hF
  obtain⟨h1,h2⟩:=h.same b hb hF
  obtain⟨h3,h4⟩:=hD.same b (Nat.lt_of_lt_of_le hb h.grown) (fun n o hn e=>hF (h.own n o b (hsub n o hn) e hb))
  exact⟨fun hn=>(h3 (by rw [h2];exact hn)).trans (h1 hn),h4.trans h2⟩
 ·exact h.hle.trans hD.hle
 ·intro n o b hn hb hlt
  simp only [St.eff,qZp,qZi] at hn
  split at hn
  ·rename_i o' e
   cases hn
   rcases hD.own n _ b e hb with hge|⟨m,om,hm,hbm⟩
   ·have:=h.grown;omega
   ·exact h.own m om b (hsub m om hm) hbm hlt
  ·split at hn
   ·cases hn
   ·rename_i hk
    rw [(hkeep n o hn hk).2.1] at hb
    exact h.own n o b hn hb hlt
 ·intro n o hn
  exact (h.ext n o hn).trans (hee n (h.usedG n o hn))
 ·intro n hn
  obtain⟨k1,k2,k3,k4,k5⟩:=h.keep n hn
  have hk:n ∉ qQa objs:=by
   intro hk
   obtain⟨o,ho⟩:=qQ7 hk
   rw [hsub n o ho] at k2;cases k2
  have h1:qQc objs n=none:=by
   cases e:qQc objs n with
   | none=>rfl
   | some o=>exact absurd (qQh e) hk
  have h2:qQc objs' n=none:=by
   cases e:qQc objs' n with
   | none=>rfl
   | some o =>
    rcases hfresh n (qQh e) with hf|hf
    ·exact absurd hf hk
    ·exact absurd k1 hf
  obtain⟨e1,e2,e3⟩:=hD.other n h1 h2
  refine⟨List.mem_append.2 (.inr k1),?_,e1.trans k3,e2.trans k4,e3.trans k5⟩
  simp only [St.eff,qZp,qZi,h2,hk,if_false]
  exact k2
end
def qId:Op→Bool
 | .load _ _=>true
 | .store _ _ _=>true
 | .indexAddr _ _ _=>true
 | .slice _ _ _ _ _=>true
 | .call _=>true
 | .mapUpdate _ _ _ _=>true
 | .lookup _ _ _ _=>true
 | .insert _ _ _ _=>true
 | .next _ _=>true
 | _=>false
def rdN (val:Operand→V) (op:Op):List Nat:=bif qId op then qQj (op.operands.toList.map val) else []
theorem zVx {val:Operand→V} {op:Op} {x:Operand} (hl:qId op=true) (hx:x∈op.operands) {n:Nat} (hn:n∈(val x).names):n∈rdN val op:=by
 unfold rdN
 rw [hl]
 exact mem_namesL.2 ⟨val x,List.mem_map_of_mem (by simpa using hx),hn⟩
theorem qX3 {len:Nat} {ob ob':Nat→Option Ob} {m k v:V} (h:∀ n∈m.names,ob n=ob' n):qJu len ob m k v=qJu len ob' m k v:=by
 unfold qJu
 split
 ·rw [h _ (by simp [V.names])]
 ·rfl
theorem qVq {s:Bool} {ob ob':Nat→Option Ob} {m k v:V} (h:∀ n∈m.names,ob n=ob' n):qQ9 s ob m k v=qQ9 s ob' m k v:=by
 unfold qQ9
 split
 ·rw [h _ (by simp [V.names])]
 ·rfl
theorem qA7 {s ok:Bool} {z:PV} {ob ob':Nat→Option Ob} {m k:V} (h:∀ n∈m.names,ob n=ob' n):qJf s ok z ob m k=qJf s ok z ob' m k:=by
 unfold qJf
 split
 ·rw [h _ (by simp [V.names])]
 ·rfl
theorem qCp {ob ob':Nat→Option Ob} {x:V} (h:∀ n∈x.names,ob n=ob' n):qXb ob x=qXb ob' x:=by
 unfold qXb
 split
 ·rw [h _ (by simp [V.names])]
 ·rfl
theorem qA8 {len:Nat} {z:PV} {ob ob':Nat→Option Ob} {m k:V} (h:∀ n∈m.names,ob n=ob' n):qWm len z ob m k=qWm len z ob' m k:=by
 unfold qWm
 split
 ·rw [h _ (by simp [V.names])]
 ·rfl
theorem qCq {ob ob':Nat→Option Ob} {x:V} (h:∀ n∈x.names,ob n=ob' n):qXa ob x=qXa ob' x:=by
 unfold qXa
 split
 ·rw [h _ (by simp [V.names])]
 ·rfl
theorem qCr {ti:TI} {ob ob':Nat→Option Ob} {x:V} (h:∀ n∈x.names,ob n=ob' n):qVz ti ob x=qVz ti ob' x:=by
 unfold qVz
 split
 ·rfl
 ·rfl
 ·rw [h _ (by simp [V.names])]
 ·rw [h _ (by simp [V.names])]
 ·rfl
theorem qA9 {ti:TI} {ob ob':Nat→Option Ob} {x y:V} (h:∀ n∈x.names,ob n=ob' n):qJr ti ob x y=qJr ti ob' x y:=by
 unfold qJr
 split
 ·rfl
 ·split
  ·rw [h _ (by simp [V.names])]
  ·rfl
  ·rw [h _ (by simp [V.names])]
  ·rfl
theorem qBa {T:Nat→Option TI} {ob ob':Nat→Option Ob} {t:Nat} {x i:V} (h:∀ n∈x.names,ob n=ob' n):qJs T ob t x i=qJs T ob' t x i:=by
 unfold qJs
 split
 ·split
  ·split
   ·split
    ·rfl
    ·rw [h _ (by simp [V.names])]
    ·rfl
   ·rfl
  ·rfl
  ·rfl
 ·rfl
theorem qEc {ob ob':Nat→Option Ob} {x:V} (h:∀ n∈x.names,ob n=ob' n):qKx ob x=qKx ob' x:=by
 unfold qKx
 split
 ·rfl
 ·rfl
 ·rw [h _ (by simp [V.names])]
 ·rfl
theorem qY4 {e:Nat} {te:TI} {ob ob':Nat→Option Ob} {note:qCw} {xo:Operand} {x y:V} (h:∀ n∈x.names,ob n=ob' n):qZl e te ob note xo x y=qZl e te ob' note xo x y:=by
 unfold qZl
 split
 ·rw [h _ (by simp [V.names])]
 ·rfl
 ·rfl
 ·rfl
theorem qBb {te:TI} {ob ob':Nat→Option Ob} {x:V} {lo hi mx:Option V} (h:∀ n∈x.names,ob n=ob' n):qJt te ob x lo hi mx=qJt te ob' x lo hi mx:=by
 unfold qJt
 split
 ·rfl
 ·rfl
 ·rw [h _ (by simp [V.names])]
 ·rfl
 ·rfl
 ·rfl
theorem qY5 {ob ob':Nat→Option Ob} {m k v:V} (h:∀ n∈m.names,ob n=ob' n):qVm ob m k v=qVm ob' m k v:=by
 unfold qVm
 split
 ·rename_i n ks cs
  rw [h n (by simp [V.names])]
 ·rfl
theorem qF8 {T:Nat→Option TI} {note:qCw} {val val':Operand→V} {ob ob':Nat→Option Ob} {dst:Option Nat} {op:Op} (hv:∀ x∈op.operands,val x=val' x) (ho:∀ n∈rdN val op,ob n=ob' n) :
  qQb T note val ob dst op=qQb T note val' ob' dst op:=by
 have hn:qId op=true→∀ x∈op.operands,∀ n∈(val x).names,ob n=ob' n:=fun hl x hx n hn=>ho n (zVx hl hx hn)
 cases op with
 | move x=>simp only [qQb,qJ4];rw [hv x (by simp [Op.operands])]
 | assign x=>simp only [qQb,qJ4];rw [hv x (by simp [Op.operands])]
 | pick c x y=>simp only [qQb];rw [hv c (by simp [Op.operands]),hv x (by simp [Op.operands]),hv y (by simp [Op.operands])]
 | alloc t=>simp only [qQb]
 | box t x=>simp only [qQb];rw [hv x (by simp [Op.operands])]
 | build t parts =>
  simp only [qQb]
  have:(parts.toList.map fun p=>(p.1,val p.2))=(parts.toList.map fun p=>(p.1,val' p.2)):=List.map_congr_left fun p hp=>by
   rw [hv p.2 (by simp only [Op.operands,List.mem_toArray,List.mem_map];exact⟨p,hp,rfl⟩)]
  rw [this]
 | buildSlice t len parts =>
  simp only [qQb]
  have:(parts.toList.map fun p=>(p.1,val p.2))=(parts.toList.map fun p=>(p.1,val' p.2)):=List.map_congr_left fun p hp=>by
   rw [hv p.2 (by simp only [Op.operands,List.mem_toArray,List.mem_map];exact⟨p,hp,rfl⟩)]
  rw [this]
 | typeAssert x t0 t b =>
  have h1:=hv x (by simp [Op.operands])
  simp only [qQb,← h1]
 | makeFunc fn first caps =>
  cases fn with
  | func f =>
   simp only [qQb]
   have:caps.toList.map val=caps.toList.map val':=List.map_congr_left fun x hx=>hv x (by simp only [Op.operands,Array.mem_append];right;simpa using hx)
   have this2:first.toList.map val=first.toList.map val':=List.map_congr_left fun x hx=>hv x (by simp only [Op.operands,Array.mem_append];left;simpa using hx)
   rw [this,this2]
  | _=>simp only [qQb]
 | lookup t m k ok =>
  have h1:=hv m (by simp [Op.operands])
  have h2:=hv k (by simp [Op.operands])
  simp only [qQb,← h1,← h2]
  split
  ·split
   ·split
    ·exact qA8 (hn rfl m (by simp [Op.operands]))
    ·rfl
   ·rfl
  ·split
   ·split
    ·exact qA7 (hn rfl m (by simp [Op.operands]))
    ·rfl
   ·rfl
  ·rfl
 | range t x =>
  have h1:=hv x (by simp [Op.operands])
  simp only [qQb,← h1]
 | next x b =>
  cases b with
  | false=>simp only [qQb]
  | true =>
   have h1:=hv x (by simp [Op.operands])
   simp only [qQb,← h1]
   unfold qW9
   split
   ·rename_i n e
    rw [hn rfl x (by simp [Op.operands]) n (by rw [e];simp [V.names])]
   ·rfl
 | index t x i =>
  have h1:=hv x (by simp [Op.operands])
  have h2:=hv i (by simp [Op.operands])
  simp only [qQb,← h1,← h2]
 | insert t m k v =>
  have h1:=hv m (by simp [Op.operands])
  have h2:=hv k (by simp [Op.operands])
  have h3:=hv v (by simp [Op.operands])
  simp only [qQb,← h1,← h2,← h3]
  split
  ·exact qVq (hn rfl m (by simp [Op.operands]))
  ·rfl
 | makeMap t r =>
  cases r with
  | none=>simp only [qQb]
  | some _=>simp only [qQb]
 | mapUpdate t m k v =>
  have h1:=hv m (by simp [Op.operands])
  have h2:=hv k (by simp [Op.operands])
  have h3:=hv v (by simp [Op.operands])
  simp only [qQb,← h1,← h2,← h3]
  split
  ·exact qY5 (hn rfl m (by simp [Op.operands]))
  ·exact qX3 (hn rfl m (by simp [Op.operands]))
  ·exact qVq (hn rfl m (by simp [Op.operands]))
  ·rfl
 | load t x =>
  have h1:=hv x (by simp [Op.operands])
  simp only [qQb,← h1]
  split
  ·exact qCr (hn rfl x (by simp [Op.operands]))
  ·rfl
 | store t x y =>
  have h1:=hv x (by simp [Op.operands])
  have h2:=hv y (by simp [Op.operands])
  simp only [qQb,← h1,← h2]
  split
  ·exact qA9 (hn rfl x (by simp [Op.operands]))
  ·rfl
 | nilCheck x=>simp only [qQb];rw [hv x (by simp [Op.operands])]
 | convert s t x=>simp only [qQb];rw [hv x (by simp [Op.operands])]
 | binOp b t x y t'=>simp only [qQb];rw [hv x (by simp [Op.operands]),hv y (by simp [Op.operands])]
 | unOp u t x =>
  cases u
  case not=>simp only [qQb];rw [hv x (by simp [Op.operands])]
  all_goals simp only [qQb]
 | makeInterface t x=>simp only [qQb];rw [hv x (by simp [Op.operands])]
 | fieldAddr t x f=>simp only [qQb];rw [hv x (by simp [Op.operands])]
 | field t x f=>simp only [qQb];rw [hv x (by simp [Op.operands])]
 | indexAddr t x i =>
  have h1:=hv x (by simp [Op.operands])
  have h2:=hv i (by simp [Op.operands])
  simp only [qQb,← h1,← h2]
  exact qBa (hn rfl x (by simp [Op.operands]))
 | extract x i=>simp only [qQb];rw [hv x (by simp [Op.operands])]
 | slice t x lo hi mx =>
  have h1:=hv x (by simp [Op.operands])
  have hl:lo.map val=lo.map val':=by
   cases lo with
   | none=>rfl
   | some y=>simp [hv y (by simp [Op.operands])]
  have hh:hi.map val=hi.map val':=by
   cases hi with
   | none=>rfl
   | some y=>simp [hv y (by simp [Op.operands])]
  have hm:mx.map val=mx.map val':=by
   cases mx with
   | none=>rfl
   | some y=>simp [hv y (by simp [Op.operands])]
  simp only [qQb,← h1,← hl,← hh,← hm]
  split
  ·split
   ·exact qBb (hn rfl x (by simp [Op.operands]))
   ·rfl
  ·rfl
  ·rfl
 | call c =>
  obtain⟨callee,args,argTypes⟩:=c
  cases callee with
  | builtin b =>
   cases b
   case len =>
    simp only [qQb]
    split
    ·rename_i t x et ex
     have hx:x∈(Op.call { callee:=.builtin .len,args,argTypes }).operands:=by
      simp only [Op.operands,Call.operands,Array.mem_append]
      right
      rw [← Array.mem_toList_iff,ex]
      simp
     have h1:=hv x hx
     simp only [← h1]
     split
     ·exact qEc (hn rfl x hx)
     ·exact qCq (hn rfl x hx)
     ·exact qCp (hn rfl x hx)
     ·rfl
     ·rfl
    ·rfl
   case append =>
    simp only [qQb]
    split
    ·rename_i t t' x y et ex
     have hx:x∈(Op.call { callee:=.builtin .append,args,argTypes }).operands:=by
      simp only [Op.operands,Call.operands,Array.mem_append]
      right
      rw [← Array.mem_toList_iff,ex]
      simp
     have hy:y∈(Op.call { callee:=.builtin .append,args,argTypes }).operands:=by
      simp only [Op.operands,Call.operands,Array.mem_append]
      right
      rw [← Array.mem_toList_iff,ex]
      simp
     have h1:=hv x hx
     have h2:=hv y hy
     simp only [← h1,← h2]
     split
     ·split
      ·split
       ·exact qY4 (hn rfl x hx)
       ·rfl
      ·rfl
     ·rfl
    ·rfl
   case max =>
    simp only [qQb]
    split
    ·rename_i x y ex
     have hx:x∈(Op.call { callee:=.builtin .max,args,argTypes }).operands:=by
      simp only [Op.operands,Call.operands,Array.mem_append]
      right
      rw [← Array.mem_toList_iff,ex]
      simp
     have hy:y∈(Op.call { callee:=.builtin .max,args,argTypes }).operands:=by
      simp only [Op.operands,Call.operands,Array.mem_append]
      right
      rw [← Array.mem_toList_iff,ex]
      simp
     rw [hv x hx,hv y hy]
    ·rfl
   all_goals simp only [qQb]
  | value f=>simp only [qQb]
  | invoke r m=>simp only [qQb]
 | _=>simp only [qQb]
def qZ3 (val:Operand→V):Op→Option (Nat × List V)
 | .call { callee:=.value f,args,.. } => match val f with
  | .fn g caps=>some (g,args.toList.map val++caps)
  | .bfn g bs=>some (g,bs++args.toList.map val)
  | .pv (.fnc g)=>some (g,args.toList.map val)
  | _=>none
 | _=>none
theorem qKo {val val':Operand→V} {op:Op} (hv:∀ x∈op.operands,val x=val' x):qZ3 val op=qZ3 val' op:=by
 unfold qZ3
 split
 ·rename_i f args at'
  rw [hv f (by simp [Op.operands,Call.operands])]
  have:args.toList.map val=args.toList.map val':=List.map_congr_left fun x hx=>hv x (by simp only [Op.operands,Call.operands,Array.mem_append];right;simpa using hx)
  rw [this]
 ·rfl
structure qZ5 where
 P:Program
 T:Nat→Option TI
 gl:Nat→Option (List PV)
 nm:List (Nat × qCw)
 nt:Nat
 given:List Nat
 ok:TOK P T
 mix:P.follows .mixedOrders=true
def R.eff (r:R) (rd:List Nat):Eff :=
 ⟨r.out,match r.wr with|some (n,o)=>[(n,some o)]|none=>[],match r.wr,r.new with|some (n,_),true=>[n]|_,_=>[],rd⟩
theorem zVy (σ:St) (dst:Option Nat) (r:R) (rd:List Nat):σ.app dst r=σ.eff dst (r.eff rd):=by
 obtain⟨c,f,x,wr,nw⟩:=r
 cases wr with
 | none=>rfl
 | some p =>
  obtain⟨n,o⟩:=p
  cases nw<;>rfl
def VLe (x y:V):Prop:=(∀ E v,RepV E x v→RepV E y v) ∧ ∀ n∈y.names,n∈x.names
inductive OpW (X:qZ5) (o:Oper) (σ:St):Eff→Prop where
 | step (note:qCw) (r:R) (hs:qQb X.T note (σ.val X.gl) (qQc σ.objs) o.dst o.op=some r) (hc:r.cond) (hn:∀ n∈(r.eff []).nw,n ∉ σ.used):OpW X o σ (r.eff (rdN (σ.val X.gl) o.op))
 | call (f:Nat) (args:List V) (objs:List (Nat × Ob)) (x:V) (objs':List (Nat × Ob)) (hf:qZ3 (σ.val X.gl) o.op=some (f,args)) (hac:AC X.P X.gl f args objs (.ret x) objs')
   (hsub:qCo objs σ.objs) (hn:∀ n∈(qZp x objs objs').nw,n ∉ σ.used):OpW X o σ (qZp x objs objs')
 | callR (f:Nat) (args:List V) (ro objs:List (Nat × Ob)) (x:V) (objs':List (Nat × Ob)) (hf:qZ3 (σ.val X.gl) o.op=some (f,args)) (hac:AC X.P X.gl f args (ro++objs) (.ret x) (ro++objs'))
   (hro:∀ n∈qQa ro,n ∉ qQa objs∧n ∉ qQa objs') (hsub:qCo (ro++objs) σ.objs) (hn:∀ n∈(qV4 x ro objs objs').nw,n ∉ σ.used):OpW X o σ (qV4 x ro objs objs')
 | weak {x:V} {wr:List (Nat × Option Ob)} {nw rd:List Nat} (y:V) (h:OpW X o σ ⟨x,wr,nw,rd⟩) (hx:VLe x y):OpW X o σ ⟨y,wr,nw,rd⟩
theorem qV5 (a b:List (Nat × Ob)) (k:Nat):qQc (a++b) k=match qQc a k with|some o=>some o|none=>qQc b k:=by
 induction a with
 | nil=>rfl
 | cons p r ih =>
  obtain⟨n,o⟩:=p
  simp only [List.cons_append,qQc,ih]
  split<;>rfl
theorem Ga.congrO {C:Ctx} {E:Env} {s:List (Nat × V)} {O O':List (Nat × Ob)} {u:List Nat} {a:Act} {w:World} (h:Ga C E ⟨s,O,u⟩ a w) (ho:∀ n,qQc O' n=qQc O n):Ga C E ⟨s,O',u⟩ a w :=
 ⟨h.slots,h.size,h.defers,h.heap,fun n o hn=>h.objs n o (by rw [← ho];exact hn),fun n m o o' hn hm=>h.apart n m o o' (by rw [← ho];exact hn) (by rw [← ho];exact hm),h.usedS,fun n o hn=>h.usedO n o (by rw [← ho];exact hn),h.usedG,h.grown,h.rest,h.same,h.hle,
  fun n o b hn=>h.own n o b (by rw [← ho];exact hn),h.ext,fun n hn=>⟨(h.keep n hn).1,(ho n).trans (h.keep n hn).2.1,(h.keep n hn).2.2⟩⟩
theorem qIe {x:V} {ro objs objs':List (Nat × Ob)} (hro:∀ n∈qQa ro,n ∉ qQa objs∧n ∉ qQa objs'):(qV4 x ro objs objs').nw=(qZp x (ro++objs) (ro++objs')).nw:=by
 have hnone:∀ {l:List (Nat × Ob)} {n:Nat},n ∉ qQa l→qQc l n=none:=by
  intro l n hn
  cases e:qQc l n with
  | none=>rfl
  | some o=>exact absurd (qQh e) hn
 simp only [qV4,qZp]
 have hk:qQa (ro++objs')=qQa ro++qQa objs':=by simp [qQa]
 rw [hk,List.filter_append]
 have h1:(qQa ro).filter (fun n=>(qQc (ro++objs) n).isNone)=[]:=by
  rw [List.filter_eq_nil_iff]
  intro n hn
  obtain⟨o,ho⟩:=qQ7 hn
  rw [qV5,ho]
  simp
 rw [h1,List.nil_append]
 refine List.filter_congr ?_
 intro n hn
 have:n ∉ qQa ro:=fun h=>(hro n h).2 hn
 rw [qV5,hnone this]
theorem qF9 {l:List (Nat × Ob)} {ro objs objs':List (Nat × Ob)} (hro:∀ n∈qQa ro,n ∉ qQa objs∧n ∉ qQa objs') (hsub:qCo (ro++objs) l) (n:Nat):qQc (qWf l (qKn objs objs')) n=qQc (qWf l (qKn (ro++objs) (ro++objs'))) n:=by
 have hnone:∀ {l:List (Nat × Ob)} {n:Nat},n ∉ qQa l→qQc l n=none:=by
  intro l n hn
  cases e:qQc l n with
  | none=>rfl
  | some o=>exact absurd (qQh e) hn
 rw [qZi,qZi,qV5]
 have hk:qQa (ro++objs)=qQa ro++qQa objs:=by simp [qQa]
 by_cases h:n∈qQa ro
 ·obtain⟨o,ho⟩:=qQ7 h
  have h1:=hro n h
  rw [ho,hnone h1.2]
  simp only [h1.1,if_false]
  exact qWp hsub n o (by rw [qV5,ho])
 ·rw [hnone h]
  simp only [hk,List.mem_append,h,false_or]
structure zDz (X:qZ5) (o:Oper) (e:Eff) (σ σ':St):Prop where
 val:∀ x∈o.op.operands,σ.val X.gl x=σ'.val X.gl x
 ob:∀ n∈e.rd,qQc σ.objs n=qQc σ'.objs n
 new:∀ n∈e.nw,n ∉ σ'.used
theorem OpW.congr {X:qZ5} {o:Oper} {σ σ':St} {e:Eff} (h:OpW X o σ e) (ha:zDz X o e σ σ'):OpW X o σ' e:=by
 induction h with
 | step note r hs hc hn =>
  have hrd:rdN (σ.val X.gl) o.op=rdN (σ'.val X.gl) o.op:=by
   unfold rdN
   have:o.op.operands.toList.map (σ.val X.gl)=o.op.operands.toList.map (σ'.val X.gl):=List.map_congr_left fun x hx=>ha.val x (by simpa using hx)
   rw [this]
  have hs':=hs
  rw [qF8 ha.val ha.ob] at hs'
  rw [hrd]
  refine .step note r hs' hc ?_
  intro n hn'
  exact ha.new n hn'
 | call f args objs x objs' hf hac hsub hn =>
  refine .call f args objs x objs' (by rw [← qKo ha.val];exact hf) hac ?_ ha.new
  exact qDa (fun n hn'=>ha.ob n hn') hsub
 | callR f args ro objs x objs' hf hac hro hsub hn =>
  refine .callR f args ro objs x objs' (by rw [← qKo ha.val];exact hf) hac hro ?_ ha.new
  refine qDa (fun n hn'=>ha.ob n ?_) hsub
  simpa [qV4,qQa] using hn'
 | weak y h hx ih=>exact .weak y (ih ⟨ha.val,ha.ob,ha.new⟩) hx
theorem qNb {P:Program} {E:Env} {a:Act} {w:World} {o:Oper} {gl:Nat→Option (List PV)} {σ:St} {C:Ctx} (h:Ga C E σ a w) (hg:GOK gl C.E0.H) {f:Nat} {args:List V} (hf:qZ3 (σ.val gl) o.op=some (f,args)) (hdir:zZr P f) :
  ∃ vs:List Value,vs.length=args.length∧RepVL E args vs∧(execOp a.eval o).run P w = .ok (.enter f vs.toArray) w ∧ ∀ n∈qQj args,n∈σ.used:=by
 unfold qZ3 at hf
 split at hf
 ·rename_i fo as ats ho
  split at hf
  ·rename_i g caps ev
   cases hf
   have hv:=qQg h hg fo
   rw [ev] at hv
   simp only [RepV] at hv
   obtain⟨cs,hv,hcl,hcr⟩:=hv
   obtain⟨fn,hfn,hname,hbody⟩:=hdir
   have hargs:RepVL E (as.toList.map (σ.val gl)) (as.toList.map a.eval):=by
    have:∀ l:List Operand,RepVL E (l.map (σ.val gl)) (l.map a.eval):=by
     intro l
     induction l with
     | nil=>simp [RepVL]
     | cons x l ih=>simp only [List.map_cons,RepVL];exact⟨qQg h hg x,ih⟩
    exact this _
   have hnm:∀ n∈qQj (as.toList.map (σ.val gl)++caps),n∈σ.used:=by
    intro n hn
    obtain⟨c,hc,hn⟩:=mem_namesL.1 hn
    rcases List.mem_append.1 hc with hc|hc
    ·obtain⟨x,_,rfl⟩:=List.mem_map.1 hc
     exact qQl h x n hn
    ·refine qQl (gl:=gl) h fo n ?_
     rw [ev]
     simp only [V.names]
     exact mem_namesL.2 ⟨c,hc,hn⟩
   refine⟨as.toList.map a.eval++cs,by simp [hcl],RepVL.append (by simp) hargs hcr,?_,hnm⟩
   have hb:¬ fn.body=none:=by intro e;rw [e] at hbody;cases hbody
   have hname' : ¬ fn.name = "runtime.NumGoroutine" := by simpa using hname
   simp [execOp,ho,resolve,hv,Deferred.ofValue,invoke,callFunc,hfn,hname',hb]
  ·rename_i g bs ev
   cases hf
   have hv:=qQg h hg fo
   rw [ev] at hv
   simp only [RepV] at hv
   obtain⟨cs,hv,hcl,hcr⟩:=hv
   obtain⟨fn,hfn,hname,hbody⟩:=hdir
   have hargs:RepVL E (as.toList.map (σ.val gl)) (as.toList.map a.eval):=by
    have:∀ l:List Operand,RepVL E (l.map (σ.val gl)) (l.map a.eval):=by
     intro l
     induction l with
     | nil=>simp [RepVL]
     | cons x l ih=>simp only [List.map_cons,RepVL];exact⟨qQg h hg x,ih⟩
    exact this _
   have hnm:∀ n∈qQj (bs++as.toList.map (σ.val gl)),n∈σ.used:=by
    intro n hn
    obtain⟨c,hc,hn⟩:=mem_namesL.1 hn
    rcases List.mem_append.1 hc with hc|hc
    ·refine qQl (gl:=gl) h fo n ?_
     rw [ev]
     simp only [V.names]
     exact mem_namesL.2 ⟨c,hc,hn⟩
    ·obtain⟨x,_,rfl⟩:=List.mem_map.1 hc
     exact qQl h x n hn
   refine⟨cs++as.toList.map a.eval,by simp [hcl],RepVL.append (by omega) hcr hargs,?_,hnm⟩
   have hb:¬ fn.body=none:=by intro e;rw [e] at hbody;cases hbody
   have hname' : ¬ fn.name = "runtime.NumGoroutine" := by simpa using hname
   simp [execOp,ho,resolve,hv,Deferred.ofValue,invoke,callFunc,hfn,hname',hb]
  ·rename_i g ev
   cases hf
   have hv:=qQg h hg fo
   rw [ev] at hv
   simp only [RepV,RepP] at hv
   obtain⟨fn,hfn,hname,hbody⟩:=hdir
   have hargs:RepVL E (as.toList.map (σ.val gl)) (as.toList.map a.eval):=by
    have:∀ l:List Operand,RepVL E (l.map (σ.val gl)) (l.map a.eval):=by
     intro l
     induction l with
     | nil=>simp [RepVL]
     | cons x l ih=>simp only [List.map_cons,RepVL];exact⟨qQg h hg x,ih⟩
    exact this _
   have hnm:∀ n∈qQj (as.toList.map (σ.val gl)),n∈σ.used:=by
    intro n hn
    obtain⟨c,hc,hn⟩:=mem_namesL.1 hn
    obtain⟨x,_,rfl⟩:=List.mem_map.1 hc
    exact qQl h x n hn
   refine⟨as.toList.map a.eval,by simp,hargs,?_,hnm⟩
   have hb:¬ fn.body=none:=by intro e;rw [e] at hbody;cases hbody
   have hname' : ¬ fn.name = "runtime.NumGoroutine" := by simpa using hname
   simp [execOp,ho,resolve,hv,Deferred.ofValue,invoke,callFunc,hfn,hname',hb]
   apply Array.ext'
   simp
  ·cases hf
 ·cases hf
theorem qO2 {C:Ctx} {E:Env} {σ:St} {a:Act} {w:World} (h:Ga C E σ a w) {args:List V} {objs:List (Nat × Ob)} (hn:∀ n∈qQj args,n∈σ.used) (hs:qCo objs σ.objs):∀ n∈qKy args objs,n∈σ.used:=by
 intro n hm
 rcases List.mem_append.1 hm with hm|hm
 ·exact hn n hm
 ·obtain⟨m,o,ho,hm⟩:=qOz hs hm
  exact (h.usedO m o ho).2 n hm
theorem OpW.sound_call {X:qZ5} {o:Oper} {σ:St} {f:Nat} {args:List V} {objs:List (Nat × Ob)} {x:V} {objs':List (Nat × Ob)} (hf:qZ3 (σ.val X.gl) o.op=some (f,args)) (hac:AC X.P X.gl f args objs (.ret x) objs') (hsub:qCo objs σ.objs) (hn:∀ n∈(qZp x objs objs').nw,n ∉ σ.used)
  {C:Ctx} {E:Env} {a:Act} {w:World} (hg:GOK X.gl C.E0.H) (hG:Ga C E σ a w) (hd:∀ d,o.dst=some d→d<C.nt)
  {K:Act→World→Prop} {Q:Exit→Act→World→Prop} (hK:∀ E' a' w',Ga C E' (σ.eff o.dst (qZp x objs objs')) a' w'→K a' w'):o.wp X.P a w K Q:=by
 obtain⟨vs,hl,hr,hrun,hnm⟩:=qNb hG hg hf hac.direct
 have hsub0:=hsub
 have hsub:=qWp hsub
 unfold Oper.wp
 rw [hrun]
 simp only [Oper.upon]
 have hbase:zYu X.gl E w objs:=⟨hG.heap,hg.mono hG.hle,fun n o hn=>hG.objs n o (hsub n o hn),fun n m o o' hn hm=>hG.apart n m o o' (hsub n o hn) (hsub m o' hm)⟩
 refine (hac.calls E w vs hbase hl hr).mono ?_
 rintro e' w' ⟨E',hD,v,rfl,hv⟩
 refine hK E' _ _ (hG.called hD hsub ?_ (qO2 hG hnm hsub0) hac.namesO hv hac.names hd)
 intro n hn'
 by_cases hk:n∈qQa objs
 ·exact .inl hk
 ·right
  refine hn n ?_
  simp only [qZp,List.mem_filter]
  refine⟨hn',?_⟩
  cases e:qQc objs n with
  | none=>rfl
  | some o=>exact absurd (qQh e) hk
theorem qKe (d:Option Nat) (x:V) (l:List (Nat × V)) (t:Nat):qZw (qAt d x l) t=if d=some t then x else qZw l t:=by
 cases d with
 | none=>rfl
 | some d =>
  simp only [qAt,qZw]
  by_cases e:d=t
  ·subst e;simp
  ·rw [if_neg e,if_neg (fun h=>e (by cases h;rfl))]
theorem Ga.weakS {C:Ctx} {E:Env} {σ:St} {d:Option Nat} {x y:V} {wr:List (Nat × Option Ob)} {nw rd:List Nat} {a:Act} {w:World} (h:Ga C E (σ.eff d ⟨x,wr,nw,rd⟩) a w) (hx:VLe x y):Ga C E (σ.eff d ⟨y,wr,nw,rd⟩) a w:=by
 refine⟨fun t => ?_,h.size,h.defers,h.heap,h.objs,h.apart,fun t n hn => ?_,h.usedO,h.usedG,h.grown,h.rest,h.same,h.hle,h.own,h.ext,h.keep⟩
 ·have h1:=h.slots t
  simp only [St.eff,qKe] at h1 ⊢
  split
  ·rename_i e;rw [if_pos e] at h1;exact hx.1 _ _ h1
  ·rename_i e;rw [if_neg e] at h1;exact h1
 ·have h1:=h.usedS t
  simp only [St.eff,qKe] at h1 hn
  split at hn
  ·rename_i e;rw [if_pos e] at h1;exact h1 n (hx.2 n hn)
  ·rename_i e;rw [if_neg e] at h1;exact h1 n hn
theorem OpW.sound {X:qZ5} {o:Oper} {σ:St} {e:Eff} (h:OpW X o σ e) (hT:TOK X.P X.T) {C:Ctx} {E:Env} {a:Act} {w:World} (hg:GOK X.gl C.E0.H) (hG:Ga C E σ a w) (hd:∀ d,o.dst=some d→d<C.nt)
  {K:Act→World→Prop} {Q:Exit→Act→World→Prop} (hK:∀ E' a' w',Ga C E' (σ.eff o.dst e) a' w'→K a' w'):o.wp X.P a w K Q:=by
 induction h with
 | step note r hs hc hn =>
  obtain⟨v,w',E',hres,hG',_⟩:=qF7 hT hg hG hd hs hc (by
   intro n x hw hnew
   refine hn n ?_
   simp [R.eff,hw,hnew])
  rw [zVy σ o.dst r (rdN (σ.val X.gl) o.op)] at hG'
  exact hres.wp (hK E' _ _ hG')
 | call f args objs x objs' hf hac hsub hn=>exact OpW.sound_call hf hac hsub hn hg hG hd hK
 | callR f args ro objs x objs' hf hac hro hsub hn =>
  have hnw:=qIe (x:=x) hro
  refine OpW.sound_call hf hac hsub (by rw [← hnw];exact hn) hg hG hd ?_
  intro E' a' w' hG'
  refine hK E' a' w' ?_
  have:=hG'.congrO (O':=qWf σ.objs (qKn objs objs')) (qF9 hro hsub)
  rw [← hnw] at this
  exact this
 | weak y h hx ih=>exact ih fun E' a' w' hG'=>hK E' a' w' (hG'.weakS hx)
def qY6:Eff:=⟨.pv (.tuple []),[],[],[]⟩
def Eff.wn (e:Eff):List Nat:=e.wr.map (·.1)
def qQw (S:Nat→Bool):Nat→List (Option Nat × Eff)→St→St
 | _,[],σ=>σ
 | k,(d,e)::r,σ=>qQw S (k+1) r (if S k then σ.eff d e else σ)
theorem qJw (dst:Option Nat) (x:V) (l:List (Nat × V)) (t:Nat):qZw (qAt dst x l) t=if dst=some t then x else qZw l t:=by
 cases dst with
 | none=>simp [qAt]
 | some d=>simp [qAt,qZw]
theorem qJp {S S':Nat→Bool} (t:Nat):∀ (l:List (Option Nat × Eff)) (k:Nat) (σ σ':St),(∀ i d e,l[i]? = some (d,e)→d=some t→S (k+i)=S' (k+i))→qZw σ.slots t=qZw σ'.slots t →
  qZw (qQw S k l σ).slots t=qZw (qQw S' k l σ').slots t
 | [],_,_,_,_,h=>h
 | (d,e)::r,k,σ,σ',hw,h=>by
  simp only [qQw]
  refine qJp t r (k+1) _ _ (fun i d' e' hi hd=>by have:=hw (i+1) d' e' (by simpa using hi) hd;rwa [show k+(i+1)=k+1+i by omega] at this) ?_
  have h0:=hw 0 d e rfl
  simp only [Nat.add_zero] at h0
  by_cases hd:d=some t
  ·have hs:=h0 hd
   rw [hs]
   split
   ·simp [St.eff,qJw,hd]
   ·exact h
  ·have e1:∀ s:St,qZw (if S k then s.eff d e else s).slots t=qZw s.slots t:=by
    intro s;split<;>simp [St.eff,qJw,hd]
   have e2:∀ s:St,qZw (if S' k then s.eff d e else s).slots t=qZw s.slots t:=by
    intro s;split<;>simp [St.eff,qJw,hd]
   rw [e1,e2,h]
theorem qBc {wr:List (Nat × Option Ob)} {n:Nat} (h:n ∉ wr.map (·.1)):qJj wr n=none:=by
 induction wr with
 | nil=>rfl
 | cons p r ih =>
  obtain⟨k,o⟩:=p
  simp only [List.map_cons,List.mem_cons,not_or] at h
  have:¬ k=n:=fun e=>h.1 e.symm
  simp [qJj,ih h.2,this]
theorem qVr {S S':Nat→Bool} (n:Nat):∀ (l:List (Option Nat × Eff)) (k:Nat) (σ σ':St),(∀ i d e,l[i]? = some (d,e)→n∈e.wn→S (k+i)=S' (k+i))→qQc σ.objs n=qQc σ'.objs n →
  qQc (qQw S k l σ).objs n=qQc (qQw S' k l σ').objs n
 | [],_,_,_,_,h=>h
 | (d,e)::r,k,σ,σ',hw,h=>by
  simp only [qQw]
  refine qVr n r (k+1) _ _ (fun i d' e' hi hd=>by have:=hw (i+1) d' e' (by simpa using hi) hd;rwa [show k+(i+1)=k+1+i by omega] at this) ?_
  have h0:=hw 0 d e rfl
  simp only [Nat.add_zero] at h0
  by_cases hd:n∈e.wn
  ·have hs:=h0 hd
   rw [hs]
   split
   ·simp only [St.eff,qZh,h]
   ·exact h
  ·have hno:=qBc (wr:=e.wr) hd
   have e1:∀ s:St,qQc (if S k then s.eff d e else s).objs n=qQc s.objs n:=by
    intro s;split<;>simp [St.eff,qZh,hno]
   have e2:∀ s:St,qQc (if S' k then s.eff d e else s).objs n=qQc s.objs n:=by
    intro s;split<;>simp [St.eff,qZh,hno]
   rw [e1,e2,h]
theorem qZz {S:Nat→Bool} (n:Nat):∀ (l:List (Option Nat × Eff)) (k:Nat) (σ:St),n∈(qQw S k l σ).used↔n∈σ.used ∨ ∃ i d e,l[i]? = some (d,e)∧S (k+i)=true∧n∈e.nw
 | [],_,σ=>by simp [qQw]
 | (d,e)::r,k,σ=>by
  simp only [qQw]
  rw [qZz n r (k+1)]
  constructor
  ·rintro (h|⟨i,d',e',hi,hs,hn⟩)
   ·by_cases hs:S k=true
    ·simp only [hs,if_true,St.eff,List.mem_append] at h
     rcases h with h|h
     ·exact .inr ⟨0,d,e,rfl,by simpa using hs,h⟩
     ·exact .inl h
    ·simp only [hs] at h
     exact .inl h
   ·exact .inr ⟨i+1,d',e',by simpa using hi,by rwa [show k+(i+1)=k+1+i by omega],hn⟩
  ·rintro (h|⟨i,d',e',hi,hs,hn⟩)
   ·left
    split
    ·simp [St.eff,h]
    ·exact h
   ·cases i with
    | zero =>
     simp only [List.getElem?_cons_zero,Option.some.injEq,Prod.mk.injEq] at hi
     obtain⟨rfl,rfl⟩:=hi
     left
     simp only [Nat.add_zero] at hs
     simp [hs,St.eff,hn]
    | succ i=>exact .inr ⟨i,d',e',by simpa using hi,by rwa [show k+1+i=k+(i+1) by omega],hn⟩
theorem qKp {S:Nat→Bool} (t:Nat):∀ (l:List (Option Nat × Eff)) (k i:Nat) (d:Option Nat) (e:Eff) (σ:St),l[i]? = some (d,e)→S (k+i)=false →
  (d=some t→∀ j d' e',i<j→l[j]? = some (d',e')→S (k+j)=true→d'≠some t) →
  qZw (qQw (fun m=>m == k+i || S m) k l σ).slots t=if d=some t then e.x else qZw (qQw S k l σ).slots t
 | [],_,_,_,_,_,hi,_,_=>by simp at hi
 | (d0,e0)::r,k,0,d,e,σ,hi,hs,hl=>by
  simp only [List.getElem?_cons_zero,Option.some.injEq,Prod.mk.injEq] at hi
  obtain⟨rfl,rfl⟩:=hi
  simp only [Nat.add_zero] at hs
  simp only [qQw,Nat.add_zero,beq_self_eq_true,Bool.true_or,if_true,hs]
  by_cases hd:d0=some t
  ·simp only [hd,if_true]
   rw [qJp (S':=fun _=>false) t r (k+1) _ (σ.eff d0 e0) ?_ (by rw [hd])]
   ·have hf:∀ (r:List (Option Nat × Eff)) (k:Nat) (s:St),qQw (fun _=>false) k r s=s:=by
     intro r;induction r with
     | nil=>intro k s;rfl
     | cons p r ih=>intro k s;simp [qQw,ih]
    rw [hf]
    simp [St.eff,qJw,hd]
   ·intro i d' e' hi hd'
    have:=hl hd (i+1) d' e' (by omega) (by simpa using hi)
    by_cases hsi:S (k+1+i)=true
    ·exact absurd hd' (this (by rwa [show k+(i+1)=k+1+i by omega]))
    ·simp only [Bool.not_eq_true] at hsi
     simp [hsi];omega
  ·simp only [hd,if_false]
   refine qJp t r (k+1) _ _ ?_ (by simp [St.eff,qJw,hd])
   intro i d' e' hi hd'
   have:(k+1+i == k)=false:=by simp;omega
   simp [this]
 | (d0,e0)::r,k,i+1,d,e,σ,hi,hs,hl=>by
  simp only [qQw]
  have hk:(k == k+(i+1))=false:=by simp
  simp only [hk,Bool.false_or]
  have:=qKp (S:=S) t r (k+1) i d e (if S k then σ.eff d0 e0 else σ) (by simpa using hi) (by rwa [show k+1+i=k+(i+1) by omega]) (fun hd j d' e' hj hl' hs'=>hl hd (j+1) d' e' (by omega) (by simpa using hl') (by rwa [show k+(j+1)=k+1+j by omega]))
  rw [show k+(i+1)=k+1+i by omega]
  exact this
theorem qXi {S:Nat→Bool} (n:Nat):∀ (l:List (Option Nat × Eff)) (k i:Nat) (d:Option Nat) (e:Eff) (σ:St),l[i]? = some (d,e)→S (k+i)=false →
  (n∈e.wn→∀ j d' e',i<j→l[j]? = some (d',e')→S (k+j)=true→n ∉ e'.wn) →
  qQc (qQw (fun m=>m == k+i || S m) k l σ).objs n=match qJj e.wr n with|some o=>o|none=>qQc (qQw S k l σ).objs n
 | [],_,_,_,_,_,hi,_,_=>by simp at hi
 | (d0,e0)::r,k,0,d,e,σ,hi,hs,hl=>by
  simp only [List.getElem?_cons_zero,Option.some.injEq,Prod.mk.injEq] at hi
  obtain⟨rfl,rfl⟩:=hi
  simp only [Nat.add_zero] at hs
  simp only [qQw,Nat.add_zero,beq_self_eq_true,Bool.true_or,if_true,hs]
  by_cases hd:n∈e0.wn
  ·rw [qVr (S':=fun _=>false) n r (k+1) _ (σ.eff d0 e0) ?_ rfl]
   ·have hf:∀ (r:List (Option Nat × Eff)) (k:Nat) (s:St),qQw (fun _=>false) k r s=s:=by
     intro r;induction r with
     | nil=>intro k s;rfl
     | cons p r ih=>intro k s;simp [qQw,ih]
    rw [hf]
    simp only [St.eff,qZh]
    have:∃ o,qJj e0.wr n=some o:=by
     have key:∀ wr:List (Nat × Option Ob),n∈wr.map (·.1)→∃ o,qJj wr n=some o:=by
      intro wr
      induction wr with
      | nil=>intro h;simp at h
      | cons p r ih =>
       obtain⟨k,o⟩:=p
       intro h
       simp only [qJj]
       cases hr:qJj r n with
       | some x=>exact⟨x,rfl⟩
       | none =>
        simp only [List.map_cons,List.mem_cons] at h
        rcases h with h|h
        ·exact⟨o,by simp [h]⟩
        ·obtain⟨x,hx⟩:=ih h;rw [hx] at hr;cases hr
     exact key _ hd
    obtain⟨o,ho⟩:=this
    simp [ho]
   ·intro i d' e' hi hd'
    have:=hl hd (i+1) d' e' (by omega) (by simpa using hi)
    by_cases hsi:S (k+1+i)=true
    ·exact absurd hd' (this (by rwa [show k+(i+1)=k+1+i by omega]))
    ·simp only [Bool.not_eq_true] at hsi
     simp [hsi];omega
  ·have hno:=qBc (wr:=e0.wr) hd
   simp only [hno]
   refine qVr n r (k+1) _ _ ?_ (by simp [St.eff,qZh,hno])
   intro i d' e' hi hd'
   have:(k+1+i == k)=false:=by simp;omega
   simp [this]
 | (d0,e0)::r,k,i+1,d,e,σ,hi,hs,hl=>by
  simp only [qQw]
  have hk:(k == k+(i+1))=false:=by simp
  simp only [hk,Bool.false_or]
  have:=qXi (S:=S) n r (k+1) i d e (if S k then σ.eff d0 e0 else σ) (by simpa using hi) (by rwa [show k+1+i=k+(i+1) by omega]) (fun hd j d' e' hj hl' hs'=>hl hd (j+1) d' e' (by omega) (by simpa using hl') (by rwa [show k+(j+1)=k+1+j by omega]))
  rw [show k+(i+1)=k+1+i by omega]
  exact this
theorem Ga.of_ext {C:Ctx} {E:Env} {σ σ':St} {a:Act} {w:World} (h:Ga C E σ a w) (h1:∀ t,qZw σ'.slots t=qZw σ.slots t) (h2:∀ n,qQc σ'.objs n=qQc σ.objs n) (h3:∀ n,n∈σ.used→n∈σ'.used):Ga C E σ' a w :=
 ⟨fun t=>by rw [h1];exact h.slots t,h.size,⟨h.defers.1,fun n hn=>h3 n (h.defers.2 n hn)⟩,h.heap,fun n o hn=>h.objs n o (by rwa [h2] at hn),fun n m o o' hn hm=>h.apart n m o o' (by rwa [h2] at hn) (by rwa [h2] at hm),
  fun t n hn=>h3 n (h.usedS t n (by rwa [h1] at hn)),fun n o hn=>⟨h3 n (h.usedO n o (by rwa [h2] at hn)).1,fun m hm=>h3 m ((h.usedO n o (by rwa [h2] at hn)).2 m hm)⟩,fun n o hn=>h3 n (h.usedG n o hn),
  h.grown,h.rest,h.same,h.hle,fun n o b hn=>h.own n o b (by rwa [h2] at hn),h.ext,
  fun n hn=>⟨h3 n (h.keep n hn).1,by rw [h2];exact (h.keep n hn).2.1,(h.keep n hn).2.2⟩⟩
def gv (ops:List Oper) (σ:St) (j:Nat):V:=match ops[j]? with
 | some o=>match o.dst with
  | some d=>qZw σ.slots d
  | none => .undef
 | none => .undef
def zVz (X:qZ5) (dst:Option Nat):Prop:=match dst with
 | some d=>d<X.nt
 | none=>True
theorem qEd {C:Ctx} {E:Env} {σ:St} {a:Act} {w:World} (h:Ga C E σ a w) {dst:Option Nat} (hd:∀ d,dst=some d→d<C.nt):Ga C E (σ.eff dst qY6) (a.put dst undef) w:=by
 have:=h.pure E.H dst (.pv (.tuple [])) undef (Hle.refl _) (Nat.le_refl _) ⟨rfl,rfl,rfl⟩ (fun _ _=>⟨rfl,rfl⟩) h.heap (by simp only [RepV,RepP];exact⟨[],rfl,rfl,by simp only [RepL]⟩) (by simp [V.names]) hd
 exact this
theorem qDb {C:Ctx} {E:Env} {σ:St} {a:Act} {w:World} {ops:List Oper} (h:Ga C E σ a w) {j:Nat} (hg:gv ops σ j = .pv (.tuple [])):yielded ops.toArray a.tmps j=none:=by
 unfold gv at hg
 split at hg
 ·rename_i o ho
  split at hg
  ·rename_i d hd
   have hr:=h.slots d
   rw [hg] at hr
   simp only [RepV,RepP] at hr
   obtain⟨vs,hv,hl,_⟩:=hr
   have hvs:vs=[]:=List.eq_nil_of_length_eq_zero (by simpa using hl)
   subst hvs
   rw [Array.getD_eq_getD_getElem?] at hv
   cases e:a.tmps[d]? with
   | none=>simp [yielded,ho,hd,e]
   | some v =>
    rw [e] at hv
    simp at hv
    subst hv
    simp [yielded,ho,hd,e]
  ·cases hg
 ·cases hg
theorem qEe {C:Ctx} {E:Env} {σ:St} {a:Act} {w:World} {ops:List Oper} (h:Ga C E σ a w) {j:Nat} {b:Bool} (hg:gv ops σ j = .pv (.bool b)):yielded ops.toArray a.tmps j=some b:=by
 unfold gv at hg
 split at hg
 ·rename_i o ho
  split at hg
  ·rename_i d hd
   have hr:=h.slots d
   rw [hg] at hr
   have hr:=qZs hr
   have hs:a.tmps[d]? = some (.bool b):=by
    rw [Array.getD_eq_getD_getElem?] at hr
    cases e:a.tmps[d]? with
    | none=>rw [e] at hr;simp [undef] at hr
    | some v=>rw [e] at hr;simp at hr;rw [hr]
   simp [yielded,ho,hd,hs]
  ·cases hg
 ·cases hg
section
variable {X:qZ5} {C:Ctx}
end
end Go.Lg
