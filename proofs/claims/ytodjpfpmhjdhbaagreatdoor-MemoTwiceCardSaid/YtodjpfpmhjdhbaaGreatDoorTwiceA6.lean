/- The logic of contracts; no conditions. -/
import Derived.Test.YtodjpfpmhjdhbaaGreatDoorTwiceA5
set_option linter.all false
namespace Go.Lg
section
variable {P:Program} {C:Ctx} {E:Env} {σ:St} {a:Act} {w:World} {gl:Nat→Option (List PV)} {o:Oper} {T:Nat→Option TI} {note:Note}
theorem sound_makeFunc (h:Ga C E σ a w) (hg:GOK gl C.E0.H) (hd:∀ d,o.dst=some d→d<C.nt) {f:Nat} {first caps:Array Operand} (ho:o.op = .makeFunc (.func f) first caps) {r:R} {ob:Nat→Option Ob}
  (hs:stepOp T note (σ.val gl) ob o.dst (.makeFunc (.func f) first caps)=some r):Sound P C E σ a w o r:=by
 simp only [stepOp] at hs
 split at hs
 ·rename_i h0
  cases hs
  have hf:first = #[]:=Array.eq_empty_of_size_eq_zero h0
  subst hf
  have hrep:∀ l:List Operand,RepVL E (l.map (σ.val gl)) (l.map a.eval):=by
   intro l
   induction l with
   | nil=>simp [RepVL]
   | cons x l ih=>simp only [List.map_cons,RepVL];exact⟨val_rep h hg x,ih⟩
  have hmf:∀ (fn:Fn) (first cap:Array Value),(Instr.makeFunc fn first cap).run P w = .ok (.func fn first cap) w:=fun _ _ _=>rfl
  refine Sound.pure h (v:=.func (.func f) #[] (caps.toList.map a.eval).toArray) (.inl ?_) ?_ ?_ hd trivial
  ·have:Array.map a.eval caps=(List.map a.eval caps.toList).toArray:=by rw [← Array.toList_map]
   simp [execOp,ho,hmf,this]
  ·simp only [RepV]
   exact⟨_,rfl,by simp,hrep _⟩
  ·intro n hn
   simp only [V.names] at hn
   obtain⟨c,hc,hn⟩:=mem_namesL.1 hn
   obtain⟨x,_,rfl⟩:=List.mem_map.1 hc
   exact val_names h x n hn
 ·split at hs
  ·rename_i h0 h1
   cases hs
   have hf:caps = #[]:=Array.eq_empty_of_size_eq_zero h1
   subst hf
   have hrep:∀ l:List Operand,RepVL E (l.map (σ.val gl)) (l.map a.eval):=by
    intro l
    induction l with
    | nil=>simp [RepVL]
    | cons x l ih=>simp only [List.map_cons,RepVL];exact⟨val_rep h hg x,ih⟩
   have hmf:∀ (fn:Fn) (first cap:Array Value),(Instr.makeFunc fn first cap).run P w = .ok (.func fn first cap) w:=fun _ _ _=>rfl
   refine Sound.pure h (v:=.func (.func f) (first.toList.map a.eval).toArray #[]) (.inl ?_) ?_ ?_ hd trivial
   ·have:Array.map a.eval first=(List.map a.eval first.toList).toArray:=by rw [← Array.toList_map]
    simp [execOp,ho,hmf,this]
   ·simp only [RepV]
    exact⟨_,rfl,by simp,hrep _⟩
   ·intro n hn
    simp only [V.names] at hn
    obtain⟨c,hc,hn⟩:=mem_namesL.1 hn
    obtain⟨x,_,rfl⟩:=List.mem_map.1 hc
    exact val_names h x n hn
  ·cases hs
theorem sound_makeMap (h:Ga C E σ a w) (hd:∀ d,o.dst=some d→d<C.nt) {t:Nat} (ho:o.op = .makeMap t none) {r:R} {ob:Nat→Option Ob} {val:Operand→V} (hc:r.cond)
  (hs:stepOp T note val ob o.dst (.makeMap t none)=some r) (hn:∀ n x,r.wr=some (n,x)→r.new=true→n ∉ σ.used):Sound P C E σ a w o r:=by
 simp only [stepOp] at hs
 split at hs
 ·rename_i n D F
  cases hs
  have hn:=hn n _ rfl rfl
  let E':Env:={ E with g:=fun m=>if m=n then .map (some w.heap.size) else E.g m }
  have hg':E'.g n = .map (some w.heap.size):=by simp [E']
  have hE:∀ m,m≠n→E'.g m=E.g m∧E'.ver m=E.ver m∧E'.sz m=E.sz m:=fun m hm=>⟨by simp [E',hm],rfl,rfl⟩
  refine⟨.map (some w.heap.size),w.alloc (.map #[] 0),E',.inl ?_,?_,trivial⟩
  ·have:(Instr.makeMap t none).run P w = .ok (.map (some w.heap.size)) (w.alloc (.map #[] 0)):=rfl
   simp [execOp,ho,this]
  refine h.change (E':=E') n (some (.cache D F)) (setO σ.objs n (.cache D F)) (n::σ.used) o.dst (.map n) _ (fun m=>getO_setO _ _ _ _) (Hle.refl _) hE (fun hk=>absurd hk hn) (fun hk=>absurd hk hn)
   (by simp) ⟨rfl,rfl,rfl⟩ (fun b hb _=>⟨heap_alloc_old w _ b hb,rfl⟩) (heapOK_alloc h.heap _ E' rfl) ?_ ?_ (fun m hm=>by simp [hm]) ?_ ?_ hd
  ·intro o' e
   cases e
   exact⟨⟨hc,w.heap.size,#[],0,hg',heap_alloc_new w _,h.heap.lt (Nat.le_refl _),by simp⟩,by simp,by simp [Ob.names]⟩
  ·intro o' b e hb
   rw [hg'] at hb
   simp [blk] at hb
   omega
  ·exact⟨_,hg',rfl⟩
  ·simp [V.names]
 ·rename_i n
  cases hs
  have hn:=hn n _ rfl rfl
  let E':Env:={ E with g:=fun m=>if m=n then .map (some w.heap.size) else E.g m }
  have hg':E'.g n = .map (some w.heap.size):=by simp [E']
  have hE:∀ m,m≠n→E'.g m=E.g m∧E'.ver m=E.ver m∧E'.sz m=E.sz m:=fun m hm=>⟨by simp [E',hm],rfl,rfl⟩
  refine⟨.map (some w.heap.size),w.alloc (.map #[] 0),E',.inl ?_,?_,trivial⟩
  ·have:(Instr.makeMap t none).run P w = .ok (.map (some w.heap.size)) (w.alloc (.map #[] 0)):=rfl
   simp [execOp,ho,this]
  refine h.change (E':=E') n (some (.imap [])) (setO σ.objs n (.imap [])) (n::σ.used) o.dst (.map n) _ (fun m=>getO_setO _ _ _ _) (Hle.refl _) hE (fun hk=>absurd hk hn) (fun hk=>absurd hk hn)
   (by simp) ⟨rfl,rfl,rfl⟩ (fun b hb _=>⟨heap_alloc_old w _ b hb,rfl⟩) (heapOK_alloc h.heap _ E' rfl) ?_ ?_ (fun m hm=>by simp [hm]) ?_ ?_ hd
  ·intro o' e
   cases e
   exact⟨⟨w.heap.size,#[],0,hg',heap_alloc_new w _,h.heap.lt (Nat.le_refl _),by simp [EntsOK]⟩,by simp,by simp [Ob.names]⟩
  ·intro o' b e hb
   rw [hg'] at hb
   simp [blk] at hb
   omega
  ·exact⟨_,hg',rfl⟩
  ·simp [V.names]
 ·cases hs
def okAddr (w:World) (a:Addr):Prop:=∃ c T,w.heap[a.block]? = some (.cells c T (0,0))
theorem run_same {a b:Addr} (ha:okAddr w a) (hb:okAddr w b):(sameAddr a b).run P w = .ok (decide (a=b)) w:=by
 obtain⟨ca,ta,ha⟩:=ha
 obtain⟨cb,tb,hb⟩:=hb
 by_cases hbl:a.block=b.block
 ·have:(a == b)=decide (a=b):=by by_cases e:a=b<;>simp [e]
  simp [sameAddr,hbl,this]
 ·have hne:¬ a=b:=fun e=>hbl (by rw [e])
  simp [sameAddr,hbl,World.frozen?,ha,hb,noView,viewAt,World.shape?,mayBeOne,stringish,hne]
theorem run_eqp {kt e:Nat} {i:TypeInfo} (hk:P.underlying kt=some (.pointer e)) (hi:P.info? e=some i) (hs:i.size≠0) {x y:Addr} (hx:okAddr w x) (hy:okAddr w y) :
  (Op.equal kt (.pointer (some x)) (.pointer (some y))).run P w = .ok (decide (x=y)) w:=by
 refine run_equal fun d => ?_
 simp [Op.equalIn,run_underlying hk,sizeOf,typeInfo,hi,hs,run_same hx hy]
theorem find_asking {kt e:Nat} {i:TypeInfo} (hk:P.underlying kt=some (.pointer e)) (hi:P.info? e=some i) (hs:i.size≠0) {x:Addr} (hx:okAddr w x):∀ (es:List MapEntry) (k:Nat),(∀ e∈es,∃ b,e.key = .pointer (some b)∧okAddr w b) →
  ∃ r,(Instr.findAsking kt (.pointer (some x)) es k).run P w = .ok r w ∧ ∀ j v,r=some (j,v)→∃ e,k≤j∧es[j-k]? = some e∧e.key = .pointer (some x)∧e.val=v
 | [],k,_=>⟨none,rfl,fun j v e=>by cases e⟩
 | m::es,k,h=>by
  obtain⟨b,hb,hok⟩:=h m (by simp)
  unfold Instr.findAsking
  simp only [Sem.run_bind,hb,run_eqp hk hi hs hx hok,Result.andThen_ok]
  by_cases hxb:x=b
  ·subst hxb
   refine⟨some (k,m.val),by simp,?_⟩
   intro j v e
   cases e
   exact⟨m,Nat.le_refl _,by simp,hb,rfl⟩
  ·obtain⟨r,hr,hp⟩:=find_asking hk hi hs hx es (k+1) (fun e he=>h e (by simp [he]))
   refine⟨r,by simp [hxb,hr],?_⟩
   intro j v e
   obtain⟨e',h1,h2,h3⟩:=hp j v e
   refine⟨e',by omega,?_,h3⟩
   have:j-k=(j-(k+1))+1:=by omega
   rw [this]
   simpa using h2
theorem find_key {kt e:Nat} {i:TypeInfo} (hk:P.underlying kt=some (.pointer e)) (hi:P.info? e=some i) (hs:i.size≠0) {x:Addr} (hx:okAddr w x) (es:List MapEntry) (h:∀ e∈es,∃ b,e.key = .pointer (some b)∧okAddr w b) :
  ∃ r,(Instr.findKey kt (.pointer (some x)) es).run P w = .ok r w ∧ ∀ j v,r=some (j,v)→∃ e,es[j]? = some e∧e.key = .pointer (some x)∧e.val=v:=by
 unfold Instr.findKey
 simp only [Sem.run_bind,run_underlying hk,Result.andThen_ok]
 cases es with
 | nil=>exact⟨none,rfl,fun j v e=>by cases e⟩
 | cons m es =>
  obtain⟨r,hr,hp⟩:=find_asking hk hi hs hx (m::es) 0 h
  refine⟨r,?_,fun j v e => ?_⟩
  ·simp only [Instr.findNow,Instr.sameNow]
   exact hr
  ·obtain⟨e',_,h2,h3⟩:=hp j v e
   exact⟨e',by simpa using h2,h3⟩
theorem okAddr_of (hh:HeapOK E w) {x off:Nat} {v:Value} (hv:v∈E.H x) (hn:∀ k n,v ≠ .int k n):okAddr w ⟨x,off,none⟩:=by
 obtain⟨c,T,fr,hc,_,hfr⟩:=hh x (List.ne_nil_of_mem hv)
 rcases hfr with rfl|hfr
 ·exact⟨c,T,hc⟩
 ·obtain⟨k,n,e⟩:=hfr v hv
  exact absurd e (hn k n)
theorem nonint_mem {H:Hp} : ∀ {ks:List PV} {vs:List Value},RepL H ks vs→ks.any PV.nonint=true→∃ v∈vs,∀ k n,v ≠ .int k n
 | [],_,_,h=>by simp at h
 | k::ks,[],r,_=>by simp [RepL] at r
 | k::ks,v::vs,r,h=>by
  simp only [RepL] at r
  simp only [List.any_cons,Bool.or_eq_true] at h
  rcases h with h|h
  ·refine⟨v,by simp,?_⟩
   intro kk n e
   subst e
   cases k<;>simp [PV.nonint] at h<;>simp [RepP] at r
  ·obtain⟨u,hu,hn⟩:=nonint_mem r.2 h
   exact⟨u,by simp [hu],hn⟩
theorem key_ptr {H:Hp} {ks:List PV} {v:Value} (hr:RepP H (.ptr ks) v) (hn:ks.any PV.nonint=true):∃ x off u,v = .pointer (some ⟨x,off,none⟩)∧u∈H x ∧ ∀ k n,u ≠ .int k n:=by
 simp only [RepP] at hr
 obtain⟨b,off,hv,hr⟩:=hr
 obtain⟨u,hu,hn⟩:=nonint_mem hr hn
 exact⟨b,off,u,hv,List.mem_of_mem_drop hu,hn⟩
theorem run_checkPtr {kt e:Nat} (hk:P.underlying kt=some (.pointer e)) (emp:Bool) (v:Value):(Instr.checkKey emp 10000 kt v).run P w = .ok () w:=by
 have:(10000:Nat)=9999+1:=rfl
 rw [this]
 unfold Instr.checkKey
 simp only [Sem.run_bind,run_underlying hk,Result.andThen_ok]
 rfl
theorem heap_set_other (w:World) (r b:Nat) (ob:Obj) (h:b≠r):({ w with heap:=w.heap.setIfInBounds r ob } : World).heap[b]? = w.heap[b]?:=by
 simp [Array.getElem?_setIfInBounds_ne (fun e=>h e.symm)]
theorem intsOf_rep {H:Hp} : ∀ {ks:List PV} {is:List Int} {vs:List Value},intsOf ks=some is→vs.length=ks.length→RepL H ks vs→vs=is.map (Value.int .i64)
 | [],is,[],h,_,_=>by simp [intsOf] at h;simp [← h]
 | [],_,_::_,_,hl,_=>by simp at hl
 | k::ks,is,[],_,hl,_=>by simp at hl
 | k::ks,is,v::vs,h,hl,r=>by
  cases k<;>simp [intsOf] at h
  rename_i n
  obtain⟨is',h1,rfl⟩:=h
  simp only [RepL,RepP] at r
  rw [r.1,intsOf_rep h1 (by simpa using hl) r.2]
  rfl
theorem key_of {H:Hp} {ks:List PV} {is:List Int} {v:Value} (h:intsOf ks=some is) (hr:RepP H (.agg ks) v):v=keyV is:=by
 simp only [RepP] at hr
 obtain⟨vs,rfl,hl,hr⟩:=hr
 rw [intsOf_rep h hl hr]
 rfl
theorem find_ints {k len:Nat} (hk:KeyOK P k len) {ks:List Int} (hl:ks.length=len) {H:Hp} : ∀ (es:List (List Int × PV)) (ms:List MapEntry) (i:Nat),EntsOK H es ms→(∀ e∈es,e.1.length=len) →
  (imGet es ks=none→(Instr.findAsking k (keyV ks) ms i).run P w = .ok none w∧imSet es ks=fun p=>es++[(ks,p)]) ∧
  (∀ p,imGet es ks=some p→∃ j e,(Instr.findAsking k (keyV ks) ms i).run P w = .ok (some (i+j,e.val)) w∧ms[j]? = some e∧e.key=keyV ks∧RepP H p e.val ∧ ∀ q v,RepP H q v→EntsOK H (imSet es ks q) (ms.modify j fun e => { e with key:=keyV ks,val:=v }))
 | [],[],i,_,_=>by
  refine⟨fun _=>⟨rfl,by funext p;rfl⟩,fun p h=>by cases h⟩
 | (k0,p0)::es,m::ms,i,r,ha=>by
  have h0:k0.length=len:=ha _ (List.mem_cons_self ..)
  have ih:=find_ints hk hl es ms (i+1) r.2 (fun e he=>ha e (List.mem_cons_of_mem _ he))
  have hrun:=hk.1 w ks k0 hl h0
  by_cases e:ks=k0
  ·subst e
   refine⟨fun h=>by simp [imGet] at h,fun p h => ?_⟩
   simp only [imGet,if_true,Option.some.injEq] at h
   subst h
   refine⟨0,m,?_,rfl,r.1.1,r.1.2,fun q v hq => ?_⟩
   ·unfold Instr.findAsking
    simp [Sem.run_bind,r.1.1,hrun]
   ·simp only [imSet,if_true,List.modify_zero_cons]
    exact⟨⟨rfl,hq⟩,r.2⟩
  ·refine⟨fun h => ?_,fun p h => ?_⟩
   ·simp only [imGet,if_neg e] at h
    obtain⟨h1,h2⟩:=ih.1 h
    refine⟨?_,?_⟩
    ·unfold Instr.findAsking
     simp [Sem.run_bind,r.1.1,hrun,e,h1]
    ·funext p
     simp only [imSet,if_neg e,h2]
     rfl
   ·simp only [imGet,if_neg e] at h
    obtain⟨j,e',h1,h2,h3,h4,h5⟩:=ih.2 p h
    refine⟨j+1,e',?_,by simpa using h2,h3,h4,fun q v hq => ?_⟩
    ·unfold Instr.findAsking
     simp only [Sem.run_bind,r.1.1,hrun,e,Result.andThen_ok]
     simp [h1]
     omega
    ·simp only [imSet,if_neg e,List.modify_succ_cons]
     exact⟨r.1,h5 q v hq⟩
 | [],_::_,_,r,_=>r.elim
 | (_,_)::_,[],_,r,_=>r.elim
theorem findNow_none {d:TypeDesc} (hd:∀ a b:List Int,Instr.sameNow d (keyV a) (keyV b)=none) {H:Hp} {ks:List Int} : ∀ {es:List (List Int × PV)} {ms:List MapEntry} (i:Nat),EntsOK H es ms→Instr.findNow d (keyV ks) ms i=none∨(ms=[]∧Instr.findNow d (keyV ks) ms i=some none)
 | [],[],i,_ => .inr ⟨rfl,rfl⟩
 | (k0,p0)::es,m::ms,i,r=>by
  left
  unfold Instr.findNow
  rw [r.1.1,hd]
 | [],_::_,_,r=>r.elim
 | (_,_)::_,[],_,r=>r.elim
theorem findKey_ints {k len:Nat} (hk:KeyOK P k len) {ks:List Int} {H:Hp} {es:List (List Int × PV)} {ms:List MapEntry} (r:EntsOK H es ms):(Instr.findKey k (keyV ks) ms).run P w=(Instr.findAsking k (keyV ks) ms 0).run P w:=by
 obtain⟨_,_,d,hd,hs⟩:=hk
 unfold Instr.findKey
 simp only [Sem.run_bind,run_underlying hd,Result.andThen_ok]
 rcases findNow_none hs (ks:=ks) 0 r with h|⟨rfl,h⟩
 ·rw [h]
 ·rw [h];rfl
theorem EntsOK.app {H:Hp} {k:List Int} {p:PV} {v:Value} {c:Nat} (hv:RepP H p v):∀ {es:List (List Int × PV)} {ms:List MapEntry},EntsOK H es ms→EntsOK H (es++[(k,p)]) (ms++[⟨keyV k,v,c⟩])
 | [],[],_=>⟨⟨rfl,hv⟩,trivial⟩
 | (_,_)::_,_::_,r=>⟨r.1,EntsOK.app hv r.2⟩
 | [],_::_,r=>r.elim
 | (_,_)::_,[],r=>r.elim
theorem sameBits_ints (n:Nat):∀ l:List Int,((l.map (Value.int .i64)).zip (l.map (Value.int .i64))).all (fun (x,y)=>Instr.sameBits n x y)=true
 | []=>rfl
 | a::l=>by
  have h1:Instr.sameBits n (.int .i64 a) (.int .i64 a)=true:=by
   cases n<;>simp [Instr.sameBits]
  simp only [List.map_cons,List.zip_cons_cons,List.all_cons,sameBits_ints n l,Bool.and_true]
  exact h1
theorem sameBits_key (l:List Int):Instr.sameBits 10000 (keyV l) (keyV l)=true:=by
 have e:(10000:Nat)=9999+1:=rfl
 rw [e]
 unfold keyV Instr.sameBits
 simp only [beq_self_eq_true,Bool.true_and]
 exact sameBits_ints 9999 l
def EntOK (E:Env) (D:PV→Prop) (F:PV→PV) (e:MapEntry):Prop :=
 ∃ p,D p∧RepP E.H p e.key∧RepP E.H (F p) e.val ∧ ∃ x off v,e.key = .pointer (some ⟨x,off,none⟩)∧v∈E.H x ∧ ∀ k n,v ≠ .int k n
theorem sound_mapUpdate (h:Ga C E σ a w) (hg:GOK gl C.E0.H) (hT:TOK P T) {t:Nat} {m k v:Operand} (ho:o.op = .mapUpdate t m k v) {r:R} (hc:r.cond)
  (hs:stepOp T note (σ.val gl) (getO σ.objs) o.dst (.mapUpdate t m k v)=some r):Sound P C E σ a w o r:=by
 have hm:=val_rep h hg m
 have hk:=val_rep h hg k
 have hv:=val_rep h hg v
 simp only [stepOp] at hs
 split at hs
 ·rename_i kt vt s1 s2 s3 s4 hdst et
  obtain⟨d,hde,hkk⟩:=(hT t _ et).desc
  simp only [TKOK] at hkk
  obtain⟨rfl,e,hu,hei⟩:=hkk
  obtain⟨i,hi,hsz⟩:=map_elem hei
  unfold stepUpdate at hs
  split at hs
  ·rename_i n ks cs em ek ev
   rw [em] at hm;rw [ek] at hk;rw [ev] at hv
   split at hs
   ·rename_i D F eo
    cases hs
    obtain⟨hD,hF,hni⟩:=hc
    simp only [RepV] at hm hk hv
    obtain⟨b,hgn,hmv⟩:=hm
    obtain⟨hcoh,b',es,ck,hgn',hcell,hfree,hes⟩:=h.objs n _ eo
    rw [hgn] at hgn'
    cases hgn'
    obtain⟨x,off,u,hkv,hux,hun⟩:=key_ptr hk hni
    have hok:=okAddr_of (off:=off) h.heap hux hun
    obtain⟨rr,hrun,hfound⟩:=find_key hu hi hsz hok es.toList (by
     intro e he
     obtain⟨p,_,_,_,y,off',u',hy,hy1,hy2⟩:=hes e (by simpa using he)
     exact⟨_,hy,okAddr_of h.heap hy1 hy2⟩)
    have hnew:EntOK E D F ⟨a.eval k,a.eval v,ck⟩:=⟨.ptr ks,hD,hk,by rw [← hF];exact hv,x,off,u,hkv,hux,hun⟩
    have key:∀ es' ck',(∀ e∈es',EntOK E D F e)→(Instr.mapUpdate t (a.eval m) (a.eval k) (a.eval v)).run P w = .ok () { w with heap:=w.heap.setIfInBounds b (.map es' ck') } →
      Sound P C E σ a w o ⟨D (.ptr ks)∧cs=F (.ptr ks)∧ks.any PV.nonint=true,True,.undef,some (n,.cache D F),false⟩:=by
     intro es' ck' hes' hr
     refine⟨undef,{ w with heap:=w.heap.setIfInBounds b (.map es' ck') },E,.inr ⟨?_,rfl⟩,?_,trivial⟩
     ·simp only [execOp,ho,Sem.run_bind,hr,Result.andThen_ok]
      rfl
     have hbl:b<w.heap.size:=(Array.getElem?_eq_some_iff.1 hcell).1
     refine h.change (E':=E) n (some (.cache D F)) (setO σ.objs n (.cache D F)) σ.used o.dst .undef undef (fun m=>getO_setO _ _ _ _) (Hle.refl _) (fun _ _=>⟨rfl,rfl,rfl⟩) (fun _=>EExt.refl _ _) (fun _=>⟨_,eo⟩) (by simp) ⟨rfl,rfl,rfl⟩
      (fun b1 hlt hne=>⟨heap_set_other w b b1 _ (fun e=>hne _ eo (by rw [e,hgn];rfl)),rfl⟩) ?_ ?_ ?_ (fun _ h=>h) (by simp [RepV]) (by simp [V.names]) (by rw [hdst];simp)
     ·intro b1 hb1
      have:b1≠b:=fun e=>hb1 (e ▸ hfree)
      obtain⟨c,T',fr,hc,hp⟩:=h.heap b1 hb1
      exact⟨c,T',fr,by rw [heap_set_other w b b1 _ this];exact hc,hp⟩
     ·intro o' e
      cases e
      exact⟨⟨hcoh,b,es',ck',hgn,by simp [hbl],hfree,hes'⟩,h.usedO n _ eo⟩
     ·intro o' b1 e hb1
      exact .inr ⟨hb1,_,eo⟩
    have hget:(getObj b).run P w = .ok (.map es ck) w:=by simp [getObj,Sem.run,hcell]
    have hset:∀ ob:Obj,(setObj b ob).run P w = .ok () { w with heap:=w.heap.setIfInBounds b ob }:=by intro ob;simp [setObj,Sem.run,hcell]
    cases hrr:rr with
    | none =>
     subst hrr
     refine key (es.push ⟨a.eval k,a.eval v,ck⟩) (ck+1) ?_ ?_
     ·intro e he
      rcases Array.mem_push.1 he with he|rfl
      ·exact hes e he
      ·exact hnew
     ·unfold Instr.mapUpdate
      simp only [Sem.run_bind,run_underlying hde,Result.andThen_ok,hmv,hget,hkv,run_checkPtr hu,hrun,hset]
    | some q =>
     obtain⟨j,v0⟩:=q
     subst hrr
     obtain⟨e0,he0,hk0,_⟩:=hfound j v0 rfl
     refine key (es.modify j fun e => { e with key:=a.eval k,val:=a.eval v }) ck ?_ ?_
     ·intro e he
      obtain⟨q,hq,heq⟩:=Array.getElem_of_mem he
      rw [Array.getElem_modify] at heq
      split at heq
      ·subst heq
       obtain⟨p,h1,h2,h3,x',off',v',h4,h5,h6⟩:=hnew
       exact⟨p,h1,h2,h3,x',off',v',h4,h5,h6⟩
      ·subst heq
       exact hes _ (Array.getElem_mem _)
     ·have hkk:((es[j]?).map (·.key)).getD (Value.pointer (some ⟨x,off,none⟩)) = .pointer (some ⟨x,off,none⟩):=by
       have:es[j]? = some e0:=by simpa using he0
       rw [this]
       simpa using hk0
      unfold Instr.mapUpdate
      simp only [Sem.run_bind,run_underlying hde,Result.andThen_ok,hmv,hget,hkv,run_checkPtr hu,hrun,hset,hkk,Instr.keyThatStays,Instr.sameBits]
      simp [hset]
   ·cases hs
  ·cases hs
 ·rename_i kt vt len s1 s2 s3 s4 hdst et
  obtain⟨d,hde,hkk⟩:=(hT t _ et).desc
  simp only [TKOK] at hkk
  obtain⟨rfl,hkey⟩:=hkk
  unfold stepUpdateI at hs
  split at hs
  ·rename_i n ks p em ek ev
   rw [em] at hm;rw [ek] at hk;rw [ev] at hv
   split at hs
   ·rename_i es is eo ei
    cases hs
    obtain⟨hl,hall⟩:=hc
    simp only [RepV] at hm hk hv
    obtain⟨b,hgn,hmv⟩:=hm
    obtain⟨b',ms,ck,hgn',hcell,hfree,hents⟩:=h.objs n _ eo
    rw [hgn] at hgn'
    cases hgn'
    have hkv:=key_of ei hk
    obtain⟨hf1,hf2⟩:=find_ints (w:=w) hkey hl es ms.toList 0 hents hall
    have key:∀ ms' ck',EntsOK E.H (imSet es is p) ms'.toList→(Instr.mapUpdate t (a.eval m) (a.eval k) (a.eval v)).run P w = .ok () { w with heap:=w.heap.setIfInBounds b (.map ms' ck') } →
      Sound P C E σ a w o ⟨is.length=len ∧ ∀ e∈es,e.1.length=len,True,.undef,some (n,.imap (imSet es is p)),false⟩:=by
     intro ms' ck' hents' hr
     refine⟨undef,{ w with heap:=w.heap.setIfInBounds b (.map ms' ck') },E,.inr ⟨?_,rfl⟩,?_,trivial⟩
     ·simp only [execOp,ho,Sem.run_bind,hr,Result.andThen_ok]
      rfl
     have hbl:b<w.heap.size:=(Array.getElem?_eq_some_iff.1 hcell).1
     refine h.change (E':=E) n (some (.imap (imSet es is p))) (setO σ.objs n (.imap (imSet es is p))) σ.used o.dst .undef undef (fun m=>getO_setO _ _ _ _) (Hle.refl _) (fun _ _=>⟨rfl,rfl,rfl⟩) (fun _=>EExt.refl _ _) (fun _=>⟨_,eo⟩) (by simp) ⟨rfl,rfl,rfl⟩
      (fun b1 hlt hne=>⟨heap_set_other w b b1 _ (fun e=>hne _ eo (by rw [e,hgn];rfl)),rfl⟩) ?_ ?_ ?_ (fun _ h=>h) (by simp [RepV]) (by simp [V.names]) (by rw [hdst];simp)
     ·intro b1 hb1
      have:b1≠b:=fun e=>hb1 (e ▸ hfree)
      obtain⟨c,T',fr,hc,hp⟩:=h.heap b1 hb1
      exact⟨c,T',fr,by rw [heap_set_other w b b1 _ this];exact hc,hp⟩
     ·intro o' e
      cases e
      exact⟨⟨b,ms',ck',hgn,by simp [hbl],hfree,hents'⟩,(h.usedO n _ eo).1,by simp [Ob.names]⟩
     ·intro o' b1 e hb1
      exact .inr ⟨hb1,_,eo⟩
    have hget:(getObj b).run P w = .ok (.map ms ck) w:=by simp [getObj,Sem.run,hcell]
    have hset:∀ ob:Obj,(setObj b ob).run P w = .ok () { w with heap:=w.heap.setIfInBounds b ob }:=by intro ob;simp [setObj,Sem.run,hcell]
    have hck:=hkey.2.1 w false is hl
    have hfk:=findKey_ints (P:=P) (w:=w) hkey (ks:=is) hents
    cases hg1:imGet es is with
    | none =>
     obtain⟨h1,h2⟩:=hf1 hg1
     refine key (ms.push ⟨keyV is,a.eval v,ck⟩) (ck+1) ?_ ?_
     ·rw [h2]
      simp only [Array.toList_push]
      exact hents.app hv
     ·unfold Instr.mapUpdate
      simp only [Sem.run_bind,run_underlying hde,Result.andThen_ok,hmv,hget,hkv,hck,hfk,h1,hset]
    | some q =>
     obtain⟨j,e0,h1,h2,h3,h4,h5⟩:=hf2 q hg1
     rw [Nat.zero_add] at h1
     refine key (ms.modify j fun e => { e with key:=keyV is,val:=a.eval v }) ck ?_ ?_
     ·rw [Array.toList_modify]
      exact h5 _ _ hv
     ·have hkk:((ms[j]?).map (·.key)).getD (keyV is)=keyV is:=by
       have:ms[j]? = some e0:=by simpa using h2
       rw [this]
       simpa using h3
      unfold Instr.mapUpdate
      simp only [Sem.run_bind,run_underlying hde,Result.andThen_ok,hmv,hget,hkv,hck,hfk,h1,hset,hkk,Instr.keyThatStays,sameBits_key]
      simp [hset]
   ·cases hs
  ·cases hs
 ·cases hs
theorem run_lookup {t kt vt:Nat} (hde:P.underlying t=some (.map kt vt)) {e:Nat} {i:TypeInfo} (hu:P.underlying kt=some (.pointer e)) (hi:P.info? e=some i) (hsz:i.size≠0) {tv:TI} (hv:TIOK P vt tv)
  (h:Ga C E σ a w) {n:Nat} {D:PV→Prop} {F:PV→PV} (eo:getO σ.objs n=some (.cache D F)) {m k:Value} (hm:RepV E (.map n) m) {ks:List PV} (hk:RepP E.H (.ptr ks) k) (hni:ks.any PV.nonint=true) :
  Coh D F ∧ ∃ u b,(Instr.lookup t m k true).run P w = .ok (.tuple #[u,.bool b]) w∧(b=true→∃ p,D p∧RepP E.H p k∧RepP E.H (F p) u)∧(b=false→u=tv.zero):=by
 simp only [RepV] at hm
 obtain⟨b,hgn,hmv⟩:=hm
 obtain⟨hcoh,b',es,ck,hgn',hcell,hfree,hes⟩:=h.objs n _ eo
 rw [hgn] at hgn'
 cases hgn'
 obtain⟨x,off,u,hkv,hux,hun⟩:=key_ptr hk hni
 have hok:=okAddr_of (off:=off) h.heap hux hun
 obtain⟨rr,hrun,hfound⟩:=find_key hu hi hsz hok es.toList (by
  intro e he
  obtain⟨p,_,_,_,y,off',u',hy,hy1,hy2⟩:=hes e (by simpa using he)
  exact⟨_,hy,okAddr_of h.heap hy1 hy2⟩)
 have hget:(getObj b).run P w = .ok (.map es ck) w:=by simp [getObj,Sem.run,hcell]
 cases hrr:rr with
 | none =>
  subst hrr
  refine⟨hcoh,tv.zero,false,?_,by simp,fun _=>rfl⟩
  unfold Instr.lookup
  simp only [Sem.run_bind,run_underlying hde,Result.andThen_ok,hmv,hget,hkv,run_checkPtr hu,hrun,hv.run_zero]
  simp [run_checkPtr hu,hrun,hv.run_zero]
 | some q =>
  obtain⟨j,v0⟩:=q
  subst hrr
  obtain⟨e0,he0,hk0,hv0⟩:=hfound j v0 rfl
  refine⟨hcoh,v0,true,?_,fun _ => ?_,by simp⟩
  ·unfold Instr.lookup
   simp only [Sem.run_bind,run_underlying hde,Result.andThen_ok,hmv,hget,hkv,run_checkPtr hu,hrun]
   simp [run_checkPtr hu,hrun]
  ·obtain⟨p,hp,hpk,hpv,_⟩:=hes e0 (by have:=List.mem_of_getElem? he0;simpa using this)
   exact⟨p,hp,by rw [hkv,← hk0];exact hpk,by rw [← hv0];exact hpv⟩
theorem sound_lookI (h:Ga C E σ a w) (hg:GOK gl C.E0.H) (hd:∀ d,o.dst=some d→d<C.nt) (hT:TOK P T) {t:Nat} {m k:Operand} {ok:Bool} (ho:o.op = .lookup t m k ok) {r:R} (hc:r.cond)
  (hs:stepOp T note (σ.val gl) (getO σ.objs) o.dst (.lookup t m k ok)=some r):Sound P C E σ a w o r:=by
 have hm:=val_rep h hg m
 have hk:=val_rep h hg k
 cases ok with
 | false=>simp [stepOp] at hs
 | true =>
  simp only [stepOp] at hs
  split at hs
  ·rename_i kt vt len s1 s2 s3 s4 et
   obtain⟨d,hde,hkk⟩:=(hT t _ et).desc
   simp only [TKOK] at hkk
   obtain⟨rfl,hkey⟩:=hkk
   split at hs
   ·rename_i k1 sv bv z0 zc0 evt
    have hv:=hT vt _ evt
    split at hs
    rotate_left
    ·cases hs
    rename_i z ez
    unfold stepLookI at hs
    split at hs
    ·rename_i n ks em ek
     rw [em] at hm;rw [ek] at hk
     split at hs
     ·rename_i es is eo ei
      cases hs
      obtain⟨hl,hall⟩:=hc
      simp only [RepV] at hm hk
      obtain⟨b,hgn,hmv⟩:=hm
      obtain⟨b',ms,ck,hgn',hcell,hfree,hents⟩:=h.objs n _ eo
      rw [hgn] at hgn'
      cases hgn'
      have hkv:=key_of ei hk
      obtain⟨hf1,hf2⟩:=find_ints (w:=w) hkey hl es ms.toList 0 hents hall
      have hget:(getObj b).run P w = .ok (.map ms ck) w:=by simp [getObj,Sem.run,hcell]
      have hck:=hkey.2.1 w ms.isEmpty is hl
      have hfk:=findKey_ints (P:=P) (w:=w) hkey (ks:=is) hents
      have hz:RepP E.H z z0:=by
       unfold oneZ at ez
       split at ez<;>cases ez<;>simp [RepP]
      have hrun:∀ u c,(Instr.lookup t (a.eval m) (a.eval k) true).run P w = .ok (.tuple #[u,.bool c]) w→(∀ x:PV,RepP E.H x u→Sound P C E σ a w o ⟨is.length=len∧(∀ e∈es,e.1.length=len),True,.pv (.tuple [x,.bool c]),.none,false⟩):=by
       intro u c hr x hx
       refine Sound.pure h (v:=.tuple #[u,.bool c]) (.inl ?_) ?_ (by simp [V.names]) hd trivial
       ·simp [execOp,ho,hr]
       ·simp only [RepV,RepP]
        exact⟨[u,.bool c],rfl,by simp,by simp only [RepL,RepP];exact⟨hx,by simp⟩⟩
      cases hg1:imGet es is with
      | none =>
       obtain⟨h1,_⟩:=hf1 hg1
       have hr:(Instr.lookup t (a.eval m) (a.eval k) true).run P w = .ok (.tuple #[z0,.bool false]) w:=by
        unfold Instr.lookup
        simp only [Sem.run_bind,run_underlying hde,Result.andThen_ok,hmv,hget,hkv,hck,hfk,h1,hv.run_zero]
        simp [hck,hfk,h1,hv.run_zero]
       simpa only [hg1] using hrun z0 false hr z hz
      | some q =>
       obtain⟨j,e0,h1,h2,h3,h4,_⟩:=hf2 q hg1
       have hr:(Instr.lookup t (a.eval m) (a.eval k) true).run P w = .ok (.tuple #[e0.val,.bool true]) w:=by
        unfold Instr.lookup
        simp only [Sem.run_bind,run_underlying hde,Result.andThen_ok,hmv,hget,hkv,hck,hfk,h1]
        simp [hck,hfk,h1]
       simpa only [hg1] using hrun e0.val true hr q h4
     ·cases hs
    ·cases hs
   ·cases hs
  ·cases hs
end
section
variable {P:Program} {C:Ctx} {E:Env} {σ:St} {a:Act} {w:World} {gl:Nat→Option (List PV)} {o:Oper} {T:Nat→Option TI} {note:Note}
theorem stepOp_sound (hT:TOK P T) (hg:GOK gl C.E0.H) (h:Ga C E σ a w) (hd:∀ d,o.dst=some d→d<C.nt) {r:R}
  (hs:stepOp T note (σ.val gl) (getO σ.objs) o.dst o.op=some r) (hc:r.cond) (hn:∀ n x,r.wr=some (n,x)→r.new=true→n ∉ σ.used):Sound P C E σ a w o r:=by
 generalize hop:o.op=op at hs
 have hmove:∀ x,(op = .move x∨op = .assign x)→stepOp T note (σ.val gl) (getO σ.objs) o.dst op=some r→Sound P C E σ a w o r:=by
  intro x hx hs
  have hs':stepMove note (σ.val gl) x=some r:=by
   rcases hx with rfl|rfl<;>simpa only [stepOp] using hs
  unfold stepMove at hs'
  split at hs'
  ·cases hs'
   exact sound_newArr h hd (hn _ _ rfl rfl) (by rcases hx with rfl|rfl<;>simp [hop])
  ·cases hs'
   exact sound_move h hg hd (by rcases hx with rfl|rfl<;>simp [hop])
 cases op with
 | move x=>exact hmove x (.inl rfl) hs
 | assign x=>exact hmove x (.inr rfl) hs
 | pick c x y=>exact sound_pick h hg hd hop hs
 | alloc t=>exact sound_alloc h hd hT hop hs hn
 | box t x=>exact sound_box h hg hd hop hs hn
 | build t parts=>exact sound_build h hg hd hT hop hs
 | buildSlice t len parts=>exact sound_buildSlice h hg hd hT hop hc hs hn
 | load t x=>exact sound_load h hg hd hT hop hc hs
 | store t x y=>exact sound_store h hg hT hop hc hs
 | nilCheck x=>exact sound_nilCheck h hg hd hop hs
 | binOp b t x y t'=>exact sound_bin h hg hd hT hop hc hs
 | unOp u t x =>
  cases u
  case not=>exact sound_not h hg hd hop hs
  all_goals cases hs
 | makeInterface t x=>exact sound_iface h hg hd hop hT hs
 | fieldAddr t x f=>exact sound_fieldAddr h hg hd hT hop hs
 | indexAddr t x i=>exact sound_index h hg hd hT hop hc hs
 | extract x i=>exact sound_extract h hg hd hop hs
 | slice t x lo hi mx=>exact sound_slice h hg hd hT hop hc hs
 | typeAssert x t0 t b=>exact sound_assert h hg hd hT hop hs
 | makeFunc fn first caps =>
  cases fn with
  | func f=>exact sound_makeFunc h hg hd hop hs
  | _=>cases hs
 | makeMap t r0 =>
  cases r0 with
  | none=>exact sound_makeMap h hd hop hc hs hn
  | some _=>cases hs
 | mapUpdate t m k v=>exact sound_mapUpdate h hg hT hop hc hs
 | lookup t m k ok=>exact sound_lookI h hg hd hT hop hc hs
 | call c =>
  obtain⟨callee,args,argTypes⟩:=c
  cases callee with
  | builtin b =>
   cases b
   case len=>exact sound_len h hg hd hT hop hc hs
   case append=>exact sound_append h hg hd hT hop hc hs hn
   case max=>exact sound_max h hg hd hop hs
   all_goals cases hs
  | value f=>cases hs
  | invoke r m=>cases hs
 | _=>cases hs
end
end Go.Lg
