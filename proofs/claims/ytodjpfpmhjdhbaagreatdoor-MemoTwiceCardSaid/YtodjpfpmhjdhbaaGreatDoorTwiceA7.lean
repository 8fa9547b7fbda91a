/- The logic of contracts; no conditions. -/
import Derived.Test.YtodjpfpmhjdhbaaGreatDoorTwiceA6
set_option linter.all false
namespace Go.Lg
def keysO (l:List (Nat × Ob)):List Nat:=l.map (·.1)
theorem getO_some_mem {l:List (Nat × Ob)} {n:Nat} {o:Ob} (h:getO l n=some o):n∈keysO l:=by
 induction l with
 | nil=>simp [getO] at h
 | cons p r ih =>
  obtain⟨k,x⟩:=p
  simp only [getO] at h
  split at h
  ·rename_i e;subst e;simp [keysO]
  ·have:=ih h;simp only [keysO,List.map_cons,List.mem_cons] at this ⊢;exact .inr this
theorem getO_of_mem {l:List (Nat × Ob)} {n:Nat} (h:n∈keysO l):∃ o,getO l n=some o:=by
 induction l with
 | nil=>simp [keysO] at h
 | cons p r ih =>
  obtain⟨k,x⟩:=p
  by_cases e:k=n
  ·exact⟨x,by simp [getO,e]⟩
  ·simp only [keysO,List.map_cons,List.mem_cons] at h
   rcases h with h|h
   ·exact absurd h.symm e
   ·obtain⟨o,ho⟩:=ih h
    exact⟨o,by simp [getO,e,ho]⟩
def subO:List (Nat × Ob)→List (Nat × Ob)→Prop
 | [],_=>True
 | (n,o)::r,l=>getO l n=some o∧subO r l
def freshL:List Nat→List Nat→Prop
 | [],_=>True
 | n::r,u=>n ∉ u∧freshL r u
theorem subO_spec:∀ {objs l:List (Nat × Ob)},subO objs l→∀ n o,getO objs n=some o→getO l n=some o
 | [],_,_,n,o,h=>by simp [getO] at h
 | (k,x)::r,l,hs,n,o,h=>by
  simp only [subO] at hs
  simp only [getO] at h
  split at h
  ·rename_i e;cases h;subst e;exact hs.1
  ·exact subO_spec hs.2 n o h
theorem freshL_spec:∀ {l u:List Nat},freshL l u→∀ n∈l,n ∉ u
 | [],_,_,n,h=>by simp at h
 | k::r,u,hf,n,h=>by
  simp only [freshL] at hf
  rcases List.mem_cons.1 h with rfl|h
  ·exact hf.1
  ·exact freshL_spec hf.2 n h
def mentO:List (Nat × Ob)→List Nat
 | []=>[]
 | (_,o)::r=>o.names++mentO r
def mentL (args:List V) (objs:List (Nat × Ob)):List Nat:=namesL args++mentO objs
theorem mentO_mem {objs l:List (Nat × Ob)} {n:Nat} (hs:subO objs l) (h:n∈mentO objs):∃ m o,getO l m=some o∧n∈o.names:=by
 induction objs with
 | nil=>simp [mentO] at h
 | cons p r ih =>
  obtain⟨k,x⟩:=p
  simp only [subO] at hs
  simp only [mentO,List.mem_append] at h
  rcases h with h|h
  ·exact⟨k,x,hs.1,h⟩
  ·exact ih hs.2 h
theorem subO_congr {objs l l':List (Nat × Ob)} (h:∀ n∈keysO objs,getO l n=getO l' n) (hs:subO objs l):subO objs l':=by
 induction objs with
 | nil=>trivial
 | cons p r ih =>
  obtain⟨k,x⟩:=p
  simp only [subO] at hs ⊢
  refine⟨?_,ih (fun n hn=>h n (by simp only [keysO,List.map_cons,List.mem_cons];exact .inr hn)) hs.2⟩
  rw [← h k (by simp [keysO])]
  exact hs.1
inductive Out where
 | ret (x:V)
 | panic (p:PV)
def Out.names:Out→List Nat
 | .ret x=>x.names
 | .panic _=>[]
def OutRel (E:Env):Out→Ending→Prop
 | .ret x,e => ∃ v,e = .returned v∧RepV E x v
 | .panic p,e => ∃ v,e = .panicked [{ v,recovered:=false }]∧RepP E.H p v
structure Base (gl:Nat→Option (List PV)) (E:Env) (w:World) (objs:List (Nat × Ob)):Prop where
 heap:HeapOK E w
 glob:GOK gl E.H
 obs:∀ n o,getO objs n=some o→ObOK E w n o
 apart:∀ n m o o',getO objs n=some o→getO objs m=some o'→n≠m→∀ b,blk (E.g n)=some b→blk (E.g m)≠some b
structure Done (E:Env) (w:World) (objs:List (Nat × Ob)) (E':Env) (w':World) (objs':List (Nat × Ob)):Prop where
 heap:HeapOK E' w'
 obs:∀ n o,getO objs' n=some o→ObOK E' w' n o
 apart:∀ n m o o',getO objs' n=some o→getO objs' m=some o'→n≠m→∀ b,blk (E'.g n)=some b→blk (E'.g m)≠some b
 hle:Hle E.H E'.H
 size:w.heap.size≤w'.heap.size
 rest:w'.os=w.os∧w'.tape=w.tape∧w'.output=w.output
 same:∀ b,b<w.heap.size→(∀ n o,getO objs n=some o→blk (E.g n)≠some b)→w'.heap[b]? = w.heap[b]? ∧ E'.H b=E.H b
 own:∀ n o b,getO objs' n=some o→blk (E'.g n)=some b→w.heap.size≤b ∨ ∃ m o',getO objs m=some o'∧blk (E.g m)=some b
 ext:∀ n o,getO objs n=some o→EExt E E' n
 other:∀ n,getO objs n=none→getO objs' n=none→E'.g n=E.g n∧E'.ver n=E.ver n∧E'.sz n=E.sz n
def Direct (P : Program) (f : Nat) : Prop := ∃ fn, P.funcs[f]? = some fn ∧ (fn.name == "runtime.NumGoroutine") = false ∧ fn.body.isNone = false
structure AC (P:Program) (gl:Nat→Option (List PV)) (f:Nat) (args:List V) (objs:List (Nat × Ob)) (out:Out) (objs':List (Nat × Ob)):Prop where
 direct:Direct P f
 names:∀ n∈out.names,n∈keysO objs∨n∈keysO objs'∨n∈mentL args objs
 namesO:∀ m o,getO objs' m=some o→∀ n∈o.names,n∈keysO objs∨n∈keysO objs'∨n∈mentL args objs
 calls:∀ (E:Env) (w:World) (vs:List Value),Base gl E w objs→vs.length=args.length→RepVL E args vs →
  Calls P f vs.toArray w fun e w' => ∃ E',Done E w objs E' w' objs'∧OutRel E' out e
structure Eff where
 x:V
 wr:List (Nat × Option Ob)
 nw:List Nat
 rd:List Nat
def updO (l:List (Nat × Ob)) (n:Nat):Option Ob→List (Nat × Ob)
 | some o=>setO l n o
 | none=>delO l n
def updAll (l:List (Nat × Ob)):List (Nat × Option Ob)→List (Nat × Ob)
 | []=>l
 | (n,o)::r=>updAll (updO l n o) r
def St.eff (σ:St) (dst:Option Nat) (e:Eff):St:=⟨putS dst e.x σ.slots,updAll σ.objs e.wr,e.nw++σ.used⟩
theorem getO_updO (l:List (Nat × Ob)) (k n:Nat) (o:Option Ob):getO (updO l k o) n=if n=k then o else getO l n:=by
 cases o with
 | none=>exact getO_delO l k n
 | some o=>exact getO_setO l k n o
def lookW:List (Nat × Option Ob)→Nat→Option (Option Ob)
 | [],_=>none
 | (k,o)::r,n=>match lookW r n with
  | some x=>some x
  | none=>if k=n then some o else none
theorem getO_updAll:∀ (wr:List (Nat × Option Ob)) (l:List (Nat × Ob)) (n:Nat),getO (updAll l wr) n=match lookW wr n with|some o=>o|none=>getO l n
 | [],l,n=>rfl
 | (k,o)::r,l,n=>by
  simp only [updAll,lookW]
  rw [getO_updAll r]
  cases lookW r n with
  | some x=>rfl
  | none =>
   simp only
   rw [getO_updO]
   by_cases e:k=n
   ·subst e;simp
   ·have:¬ n=k:=fun h=>e h.symm
    simp [e,this]
def callWr (objs objs':List (Nat × Ob)):List (Nat × Option Ob) :=
 ((keysO objs).filter (fun n=>(getO objs' n).isNone)).map (fun n=>(n,none))++objs'.reverse.map (fun p=>(p.1,some p.2))
def callEff (x:V) (objs objs':List (Nat × Ob)):Eff :=
 ⟨x,callWr objs objs',(keysO objs').filter (fun n=>(getO objs n).isNone),keysO objs⟩
def callEffR (x:V) (ro objs objs':List (Nat × Ob)):Eff :=
 ⟨x,callWr objs objs',(keysO objs').filter (fun n=>(getO objs n).isNone),keysO ro++keysO objs⟩
theorem lookW_append (a b:List (Nat × Option Ob)) (n:Nat):lookW (a++b) n=match lookW b n with|some x=>some x|none=>lookW a n:=by
 induction a with
 | nil=>simp [lookW];cases lookW b n<;>rfl
 | cons p r ih =>
  obtain⟨k,o⟩:=p
  simp only [List.cons_append,lookW,ih]
  cases lookW b n<;>rfl
theorem lookW_objs (l:List (Nat × Ob)) (n:Nat):lookW (l.reverse.map (fun p=>(p.1,some p.2))) n=(getO l n).map some:=by
 induction l with
 | nil=>rfl
 | cons p r ih =>
  obtain⟨k,o⟩:=p
  simp only [List.reverse_cons,List.map_append,List.map_cons,List.map_nil,lookW_append,lookW,getO,ih]
  by_cases e:k=n
  ·simp [e]
  ·simp [e]
theorem lookW_none (l:List Nat) (n:Nat):lookW (l.map (fun n=>(n,none))) n=if n∈l then some none else none:=by
 induction l with
 | nil=>simp [lookW]
 | cons k r ih =>
  simp only [List.map_cons,lookW,ih]
  by_cases h:n∈r
  ·simp [h]
  ·by_cases e:k=n
   ·simp [e,h]
   ·have:¬ n=k:=fun h=>e h.symm
    simp [h,e,this]
theorem getO_callWr (l objs objs':List (Nat × Ob)) (n:Nat):getO (updAll l (callWr objs objs')) n =
  match getO objs' n with|some o=>some o|none=>if n∈keysO objs then none else getO l n:=by
 rw [getO_updAll,callWr,lookW_append,lookW_objs,lookW_none]
 cases h:getO objs' n with
 | some o=>simp
 | none =>
  by_cases hm:n∈keysO objs
  ·simp [hm,h]
  ·simp [hm]
section
variable {P:Program} {C:Ctx} {E:Env} {σ:St} {a:Act} {w:World} {gl:Nat→Option (List PV)}
theorem Ga.called (h:Ga C E σ a w) {E':Env} {w':World} {objs objs':List (Nat × Ob)} (hD:Done E w objs E' w' objs') (hsub:∀ n o,getO objs n=some o→getO σ.objs n=some o)
  (hfresh:∀ n,n∈keysO objs'→n∈keysO objs∨n ∉ σ.used) {ment:List Nat} (hment:∀ n∈ment,n∈σ.used) (hno:∀ m o,getO objs' m=some o→∀ n∈o.names,n∈keysO objs∨n∈keysO objs'∨n∈ment)
  {dst:Option Nat} {x:V} {v:Value} (hx:RepV E' x v) (hxn:∀ n∈x.names,n∈keysO objs∨n∈keysO objs'∨n∈ment) (hd:∀ d,dst=some d→d<C.nt) :
  Ga C E' (σ.eff dst (callEff x objs objs')) (a.put dst v) w':=by
 have hkey:∀ n∈keysO objs,n∈σ.used:=fun n hn=>by
  obtain⟨o,ho⟩:=getO_of_mem hn
  exact (h.usedO n o (hsub n o ho)).1
 have hused':∀ n,n∈keysO objs∨n∈keysO objs'∨n∈ment→n∈(callEff x objs objs').nw++σ.used:=by
  intro n hn
  rw [List.mem_append]
  by_cases hk:n∈keysO objs
  ·exact .inr (hkey n hk)
  ·rcases hn with hn|hn|hn
   ·exact absurd hn hk
   rotate_left
   ·exact .inr (hment n hn)
   ·left
    simp only [callEff,List.mem_filter]
    refine⟨hn,?_⟩
    cases e:getO objs n with
    | none=>rfl
    | some o=>exact absurd (getO_some_mem e) hk
 have hee:∀ n∈σ.used,EExt E E' n:=by
  intro n hn
  by_cases hk:n∈keysO objs
  ·obtain⟨o,ho⟩:=getO_of_mem hk
   exact hD.ext n o ho
  ·have h1:getO objs n=none:=by
    cases e:getO objs n with
    | none=>rfl
    | some o=>exact absurd (getO_some_mem e) hk
   have h2:getO objs' n=none:=by
    cases e:getO objs' n with
    | none=>rfl
    | some o =>
     rcases hfresh n (getO_some_mem e) with hf|hf
     ·exact absurd hf hk
     ·exact absurd hn hf
   obtain⟨e1,e2,e3⟩:=hD.other n h1 h2
   exact EExt.of_eq e1 e2 e3
 have hold:∀ t,RepV E' (getS σ.slots t) (a.tmps.getD t undef):=fun t =>
  RepV.mono hD.hle _ _ (fun n hn=>hee n (h.usedS t n hn)) (h.slots t)
 have hkeep:∀ n o,getO σ.objs n=some o→n ∉ keysO objs→getO objs' n=none∧E'.g n=E.g n∧E'.ver n=E.ver n∧E'.sz n=E.sz n∧(∀ b,blk (E.g n)=some b→w'.heap[b]? = w.heap[b]? ∧ E'.H b=E.H b):=by
  intro n o hn hk
  have h1:getO objs n=none:=by
   cases e:getO objs n with
   | none=>rfl
   | some o=>exact absurd (getO_some_mem e) hk
  have h2:getO objs' n=none:=by
   cases e:getO objs' n with
   | none=>rfl
   | some o' =>
    rcases hfresh n (getO_some_mem e) with hf|hf
    ·exact absurd hf hk
    ·exact absurd (h.usedO n o hn).1 hf
  obtain⟨e1,e2,e3⟩:=hD.other n h1 h2
  refine⟨h2,e1,e2,e3,fun b hb=>hD.same b ((h.objs n o hn).blk_lt hb) ?_⟩
  intro m o' hm hb'
  refine h.apart n m o o' hn (hsub m o' hm) ?_ b hb hb'
  intro e
  subst e
  exact hk (getO_some_mem hm)
 constructor
 ·intro t
  cases dst with
  | none=>exact hold t
  | some d =>
   simp only [St.eff,putS,getS,Act.put]
   by_cases e:d=t
   ·subst e
    have hlt:d<a.tmps.size:=by rw [h.size];exact hd d rfl
    simp [hlt,callEff,hx]
   ·simp only [e,if_false]
    have:=hold t
    simpa [Array.getD_eq_getD_getElem?,Array.getElem?_setIfInBounds_ne e] using this
 ·cases dst<;>simp [Act.put,h.size]
 ·refine⟨?_,fun n hn=>List.mem_append.2 (.inr (h.defers.2 n hn))⟩
  have:=DefOK.mono hD.hle _ _ (fun n hn=>hee n (h.defers.2 n hn)) h.defers.1
  cases dst<;>simpa [Act.put] using this
 ·exact hD.heap
 ·intro n o hn
  simp only [St.eff,callEff,getO_callWr] at hn
  split at hn
  ·rename_i o' e
   cases hn
   exact hD.obs n _ e
  ·split at hn
   ·cases hn
   ·rename_i hk
    obtain⟨_,e1,e2,e3,e4⟩:=hkeep n o hn hk
    exact (h.objs n o hn).mono hD.hle e1 e2 e3 (fun m hm=>hee m ((h.usedO n o hn).2 m hm)) e4
 ·have key:∀ n o m o',getO objs' n=some o→getO σ.objs m=some o'→m ∉ keysO objs→∀ b,blk (E'.g n)=some b→blk (E'.g m)≠some b:=by
   intro n o m o' hn hm hk b hb hb'
   obtain⟨_,e1,_,_,_⟩:=hkeep m o' hm hk
   rw [e1] at hb'
   rcases hD.own n o b hn hb with hge|⟨q,oq,hq,hbq⟩
   ·have:=(h.objs m o' hm).blk_lt hb';omega
   ·refine h.apart m q o' oq hm (hsub q oq hq) ?_ b hb' hbq
    intro e
    subst e
    exact hk (getO_some_mem hq)
  intro n m o o' hn hm hne b hb hb'
  simp only [St.eff,callEff,getO_callWr] at hn hm
  split at hn
  ·rename_i on en
   cases hn
   split at hm
   ·rename_i om em
    cases hm
    exact hD.apart n m _ _ en em hne b hb hb'
   ·split at hm
    ·cases hm
    ·rename_i hk
     exact key n _ m o' en hm hk b hb hb'
  ·split at hn
   ·cases hn
   ·rename_i hkn
    split at hm
    ·rename_i om em
     cases hm
     exact key m _ n o em hn hkn b hb' hb
    ·split at hm
     ·cases hm
     ·rename_i hkm
      rw [(hkeep n o hn hkn).2.1] at hb
      rw [(hkeep m o' hm hkm).2.1] at hb'
      exact h.apart n m o o' hn hm hne b hb hb'
 ·intro t n hn
  cases dst with
  | none=>exact List.mem_append.2 (.inr (h.usedS t n hn))
  | some d =>
   simp only [St.eff,putS,getS] at hn
   split at hn
   ·exact hused' n (hxn n hn)
   ·exact List.mem_append.2 (.inr (h.usedS t n hn))
 ·intro n o hn
  simp only [St.eff,callEff,getO_callWr] at hn
  split at hn
  ·rename_i o' e
   cases hn
   exact⟨hused' n (.inr (.inl (getO_some_mem e))),fun m hm=>hused' m (hno n _ e m hm)⟩
  ·split at hn
   ·cases hn
   ·exact⟨List.mem_append.2 (.inr (h.usedO n o hn).1),fun m hm=>List.mem_append.2 (.inr ((h.usedO n o hn).2 m hm))⟩
 ·exact fun n o hn=>List.mem_append.2 (.inr (h.usedG n o hn))
 ·exact Nat.le_trans h.grown hD.size
 ·exact⟨hD.rest.1.trans h.rest.1,hD.rest.2.1.trans h.rest.2.1,hD.rest.2.2.trans h.rest.2.2⟩
 ·intro b hb hF
  obtain⟨h1,h2⟩:=h.same b hb hF
  obtain⟨h3,h4⟩:=hD.same b (Nat.lt_of_lt_of_le hb h.grown) (fun n o hn e=>hF (h.own n o b (hsub n o hn) e hb))
  exact⟨h3.trans h1,h4.trans h2⟩
 ·exact h.hle.trans hD.hle
 ·intro n o b hn hb hlt
  simp only [St.eff,callEff,getO_callWr] at hn
  split at hn
  ·rename_i o' e
   cases hn
   rcases hD.own n _ b e hb with hge|⟨m,om,hm,hbm⟩
   ·have:=h.grown;omega
   ·exact h.own m om b (hsub m om hm) hbm hlt
  ·split at hn
   ·cases hn
   ·rename_i hk
    rw [(hkeep n o hn hk).2.1] at hb
    exact h.own n o b hn hb hlt
 ·intro n o hn
  exact (h.ext n o hn).trans (hee n (h.usedG n o hn))
 ·intro n hn
  obtain⟨k1,k2,k3,k4,k5⟩:=h.keep n hn
  have hk:n ∉ keysO objs:=by
   intro hk
   obtain⟨o,ho⟩:=getO_of_mem hk
   rw [hsub n o ho] at k2;cases k2
  have h1:getO objs n=none:=by
   cases e:getO objs n with
   | none=>rfl
   | some o=>exact absurd (getO_some_mem e) hk
  have h2:getO objs' n=none:=by
   cases e:getO objs' n with
   | none=>rfl
   | some o =>
    rcases hfresh n (getO_some_mem e) with hf|hf
    ·exact absurd hf hk
    ·exact absurd k1 hf
  obtain⟨e1,e2,e3⟩:=hD.other n h1 h2
  refine⟨List.mem_append.2 (.inr k1),?_,e1.trans k3,e2.trans k4,e3.trans k5⟩
  simp only [St.eff,callEff,getO_callWr,h2,hk,if_false]
  exact k2
end
def looksIn:Op→Bool
 | .load _ _=>true
 | .store _ _ _=>true
 | .indexAddr _ _ _=>true
 | .slice _ _ _ _ _=>true
 | .call _=>true
 | .mapUpdate _ _ _ _=>true
 | .lookup _ _ _ _=>true
 | _=>false
def rdN (val:Operand→V) (op:Op):List Nat:=bif looksIn op then namesL (op.operands.toList.map val) else []
theorem mem_rdN {val:Operand→V} {op:Op} {x:Operand} (hl:looksIn op=true) (hx:x∈op.operands) {n:Nat} (hn:n∈(val x).names):n∈rdN val op:=by
 unfold rdN
 rw [hl]
 exact mem_namesL.2 ⟨val x,List.mem_map_of_mem (by simpa using hx),hn⟩
theorem stepUpdateI_congr {len:Nat} {ob ob':Nat→Option Ob} {m k v:V} (h:∀ n∈m.names,ob n=ob' n):stepUpdateI len ob m k v=stepUpdateI len ob' m k v:=by
 unfold stepUpdateI
 split
 ·rw [h _ (by simp [V.names])]
 ·rfl
theorem stepLookI_congr {len:Nat} {z:PV} {ob ob':Nat→Option Ob} {m k:V} (h:∀ n∈m.names,ob n=ob' n):stepLookI len z ob m k=stepLookI len z ob' m k:=by
 unfold stepLookI
 split
 ·rw [h _ (by simp [V.names])]
 ·rfl
theorem stepLenM_congr {ob ob':Nat→Option Ob} {x:V} (h:∀ n∈x.names,ob n=ob' n):stepLenM ob x=stepLenM ob' x:=by
 unfold stepLenM
 split
 ·rw [h _ (by simp [V.names])]
 ·rfl
theorem stepLoad_congr {ti:TI} {ob ob':Nat→Option Ob} {x:V} (h:∀ n∈x.names,ob n=ob' n):stepLoad ti ob x=stepLoad ti ob' x:=by
 unfold stepLoad
 split
 ·rfl
 ·rw [h _ (by simp [V.names])]
 ·rw [h _ (by simp [V.names])]
 ·rfl
theorem stepStore_congr {ti:TI} {ob ob':Nat→Option Ob} {x y:V} (h:∀ n∈x.names,ob n=ob' n):stepStore ti ob x y=stepStore ti ob' x y:=by
 unfold stepStore
 split
 ·rfl
 ·split
  ·rw [h _ (by simp [V.names])]
  ·rw [h _ (by simp [V.names])]
  ·rfl
theorem stepIndex_congr {T:Nat→Option TI} {ob ob':Nat→Option Ob} {t:Nat} {x i:V} (h:∀ n∈x.names,ob n=ob' n):stepIndex T ob t x i=stepIndex T ob' t x i:=by
 unfold stepIndex
 split
 ·split
  ·split
   ·split
    ·rfl
    ·rw [h _ (by simp [V.names])]
    ·rfl
   ·rfl
  ·rfl
  ·rfl
 ·rfl
theorem stepLen_congr {ob ob':Nat→Option Ob} {x:V} (h:∀ n∈x.names,ob n=ob' n):stepLen ob x=stepLen ob' x:=by
 unfold stepLen
 split
 ·rfl
 ·rfl
 ·rw [h _ (by simp [V.names])]
 ·rfl
theorem stepAppend_congr {e:Nat} {te:TI} {ob ob':Nat→Option Ob} {note:Note} {xo:Operand} {x y:V} (h:∀ n∈x.names,ob n=ob' n):stepAppend e te ob note xo x y=stepAppend e te ob' note xo x y:=by
 unfold stepAppend
 split
 ·rw [h _ (by simp [V.names])]
 ·rfl
 ·rfl
theorem stepSlice_congr {te:TI} {ob ob':Nat→Option Ob} {x:V} {lo hi mx:Option V} (h:∀ n∈x.names,ob n=ob' n):stepSlice te ob x lo hi mx=stepSlice te ob' x lo hi mx:=by
 unfold stepSlice
 split
 ·rfl
 ·rfl
 ·rw [h _ (by simp [V.names])]
 ·rfl
 ·rfl
theorem stepUpdate_congr {ob ob':Nat→Option Ob} {m k v:V} (h:∀ n∈m.names,ob n=ob' n):stepUpdate ob m k v=stepUpdate ob' m k v:=by
 unfold stepUpdate
 split
 ·rename_i n ks cs
  rw [h n (by simp [V.names])]
 ·rfl
theorem stepOp_congr {T:Nat→Option TI} {note:Note} {val val':Operand→V} {ob ob':Nat→Option Ob} {dst:Option Nat} {op:Op} (hv:∀ x∈op.operands,val x=val' x) (ho:∀ n∈rdN val op,ob n=ob' n) :
  stepOp T note val ob dst op=stepOp T note val' ob' dst op:=by
 have hn:looksIn op=true→∀ x∈op.operands,∀ n∈(val x).names,ob n=ob' n:=fun hl x hx n hn=>ho n (mem_rdN hl hx hn)
 cases op with
 | move x=>simp only [stepOp,stepMove];rw [hv x (by simp [Op.operands])]
 | assign x=>simp only [stepOp,stepMove];rw [hv x (by simp [Op.operands])]
 | pick c x y=>simp only [stepOp];rw [hv c (by simp [Op.operands]),hv x (by simp [Op.operands]),hv y (by simp [Op.operands])]
 | alloc t=>simp only [stepOp]
 | box t x=>simp only [stepOp];rw [hv x (by simp [Op.operands])]
 | build t parts =>
  simp only [stepOp]
  have:(parts.toList.map fun p=>(p.1,val p.2))=(parts.toList.map fun p=>(p.1,val' p.2)):=List.map_congr_left fun p hp=>by
   rw [hv p.2 (by simp only [Op.operands,List.mem_toArray,List.mem_map];exact⟨p,hp,rfl⟩)]
  rw [this]
 | buildSlice t len parts =>
  simp only [stepOp]
  have:(parts.toList.map fun p=>(p.1,val p.2))=(parts.toList.map fun p=>(p.1,val' p.2)):=List.map_congr_left fun p hp=>by
   rw [hv p.2 (by simp only [Op.operands,List.mem_toArray,List.mem_map];exact⟨p,hp,rfl⟩)]
  rw [this]
 | typeAssert x t0 t b =>
  cases b with
  | true=>simp only [stepOp];rw [hv x (by simp [Op.operands])]
  | false=>simp only [stepOp]
 | makeFunc fn first caps =>
  cases fn with
  | func f =>
   simp only [stepOp]
   have:caps.toList.map val=caps.toList.map val':=List.map_congr_left fun x hx=>hv x (by simp only [Op.operands,Array.mem_append];right;simpa using hx)
   have this2:first.toList.map val=first.toList.map val':=List.map_congr_left fun x hx=>hv x (by simp only [Op.operands,Array.mem_append];left;simpa using hx)
   rw [this,this2]
  | _=>simp only [stepOp]
 | lookup t m k ok =>
  have h1:=hv m (by simp [Op.operands])
  have h2:=hv k (by simp [Op.operands])
  cases ok with
  | false=>simp only [stepOp]
  | true =>
   simp only [stepOp,← h1,← h2]
   split
   ·split
    ·split
     ·exact stepLookI_congr (hn rfl m (by simp [Op.operands]))
     ·rfl
    ·rfl
   ·rfl
 | makeMap t r =>
  cases r with
  | none=>simp only [stepOp]
  | some _=>simp only [stepOp]
 | mapUpdate t m k v =>
  have h1:=hv m (by simp [Op.operands])
  have h2:=hv k (by simp [Op.operands])
  have h3:=hv v (by simp [Op.operands])
  simp only [stepOp,← h1,← h2,← h3]
  split
  ·exact stepUpdate_congr (hn rfl m (by simp [Op.operands]))
  ·exact stepUpdateI_congr (hn rfl m (by simp [Op.operands]))
  ·rfl
 | load t x =>
  have h1:=hv x (by simp [Op.operands])
  simp only [stepOp,← h1]
  split
  ·exact stepLoad_congr (hn rfl x (by simp [Op.operands]))
  ·rfl
 | store t x y =>
  have h1:=hv x (by simp [Op.operands])
  have h2:=hv y (by simp [Op.operands])
  simp only [stepOp,← h1,← h2]
  split
  ·exact stepStore_congr (hn rfl x (by simp [Op.operands]))
  ·rfl
 | nilCheck x=>simp only [stepOp];rw [hv x (by simp [Op.operands])]
 | binOp b t x y t'=>simp only [stepOp];rw [hv x (by simp [Op.operands]),hv y (by simp [Op.operands])]
 | unOp u t x =>
  cases u
  case not=>simp only [stepOp];rw [hv x (by simp [Op.operands])]
  all_goals simp only [stepOp]
 | makeInterface t x=>simp only [stepOp];rw [hv x (by simp [Op.operands])]
 | fieldAddr t x f=>simp only [stepOp];rw [hv x (by simp [Op.operands])]
 | indexAddr t x i =>
  have h1:=hv x (by simp [Op.operands])
  have h2:=hv i (by simp [Op.operands])
  simp only [stepOp,← h1,← h2]
  exact stepIndex_congr (hn rfl x (by simp [Op.operands]))
 | extract x i=>simp only [stepOp];rw [hv x (by simp [Op.operands])]
 | slice t x lo hi mx =>
  have h1:=hv x (by simp [Op.operands])
  have hl:lo.map val=lo.map val':=by
   cases lo with
   | none=>rfl
   | some y=>simp [hv y (by simp [Op.operands])]
  have hh:hi.map val=hi.map val':=by
   cases hi with
   | none=>rfl
   | some y=>simp [hv y (by simp [Op.operands])]
  have hm:mx.map val=mx.map val':=by
   cases mx with
   | none=>rfl
   | some y=>simp [hv y (by simp [Op.operands])]
  simp only [stepOp,← h1,← hl,← hh,← hm]
  split
  ·split
   ·exact stepSlice_congr (hn rfl x (by simp [Op.operands]))
   ·rfl
  ·rfl
 | call c =>
  obtain⟨callee,args,argTypes⟩:=c
  cases callee with
  | builtin b =>
   cases b
   case len =>
    simp only [stepOp]
    split
    ·rename_i t x et ex
     have hx:x∈(Op.call { callee:=.builtin .len,args,argTypes }).operands:=by
      simp only [Op.operands,Call.operands,Array.mem_append]
      right
      rw [← Array.mem_toList_iff,ex]
      simp
     have h1:=hv x hx
     simp only [← h1]
     split
     ·exact stepLen_congr (hn rfl x hx)
     ·exact stepLenM_congr (hn rfl x hx)
     ·rfl
    ·rfl
   case append =>
    simp only [stepOp]
    split
    ·rename_i t t' x y et ex
     have hx:x∈(Op.call { callee:=.builtin .append,args,argTypes }).operands:=by
      simp only [Op.operands,Call.operands,Array.mem_append]
      right
      rw [← Array.mem_toList_iff,ex]
      simp
     have hy:y∈(Op.call { callee:=.builtin .append,args,argTypes }).operands:=by
      simp only [Op.operands,Call.operands,Array.mem_append]
      right
      rw [← Array.mem_toList_iff,ex]
      simp
     have h1:=hv x hx
     have h2:=hv y hy
     simp only [← h1,← h2]
     split
     ·split
      ·split
       ·exact stepAppend_congr (hn rfl x hx)
       ·rfl
      ·rfl
     ·rfl
    ·rfl
   case max =>
    simp only [stepOp]
    split
    ·rename_i x y ex
     have hx:x∈(Op.call { callee:=.builtin .max,args,argTypes }).operands:=by
      simp only [Op.operands,Call.operands,Array.mem_append]
      right
      rw [← Array.mem_toList_iff,ex]
      simp
     have hy:y∈(Op.call { callee:=.builtin .max,args,argTypes }).operands:=by
      simp only [Op.operands,Call.operands,Array.mem_append]
      right
      rw [← Array.mem_toList_iff,ex]
      simp
     rw [hv x hx,hv y hy]
    ·rfl
   all_goals simp only [stepOp]
  | value f=>simp only [stepOp]
  | invoke r m=>simp only [stepOp]
 | _=>simp only [stepOp]
def calleeOf (val:Operand→V):Op→Option (Nat × List V)
 | .call { callee:=.value f,args,.. } => match val f with
  | .fn g caps=>some (g,args.toList.map val++caps)
  | .bfn g bs=>some (g,bs++args.toList.map val)
  | _=>none
 | _=>none
theorem calleeOf_congr {val val':Operand→V} {op:Op} (hv:∀ x∈op.operands,val x=val' x):calleeOf val op=calleeOf val' op:=by
 unfold calleeOf
 split
 ·rename_i f args at'
  rw [hv f (by simp [Op.operands,Call.operands])]
  have:args.toList.map val=args.toList.map val':=List.map_congr_left fun x hx=>hv x (by simp only [Op.operands,Call.operands,Array.mem_append];right;simpa using hx)
  rw [this]
 ·rfl
structure Env1 where
 P:Program
 T:Nat→Option TI
 gl:Nat→Option (List PV)
 nm:List (Nat × Note)
 nt:Nat
 given:List Nat
 ok:TOK P T
 mix:P.follows .mixedOrders=true
def noteOf:List (Nat × Note)→Nat→Note
 | [],_ => .none
 | (k,x)::r,t=>if k=t then x else noteOf r t
def noteD (l:List (Nat × Note)) (dst:Option Nat):Note:=match dst with
 | some d=>noteOf l d
 | none => .none
def Env1.note (X:Env1) (dst:Option Nat):Note:=noteD X.nm dst
def R.eff (r:R) (rd:List Nat):Eff :=
 ⟨r.out,match r.wr with|some (n,o)=>[(n,some o)]|none=>[],match r.wr,r.new with|some (n,_),true=>[n]|_,_=>[],rd⟩
theorem app_eff (σ:St) (dst:Option Nat) (r:R) (rd:List Nat):σ.app dst r=σ.eff dst (r.eff rd):=by
 obtain⟨c,f,x,wr,nw⟩:=r
 cases wr with
 | none=>rfl
 | some p =>
  obtain⟨n,o⟩:=p
  cases nw<;>rfl
inductive OpW (X:Env1) (o:Oper) (σ:St):Eff→Prop where
 | step (r:R) (hs:stepOp X.T (X.note o.dst) (σ.val X.gl) (getO σ.objs) o.dst o.op=some r) (hc:r.cond) (hn:∀ n∈(r.eff []).nw,n ∉ σ.used):OpW X o σ (r.eff (rdN (σ.val X.gl) o.op))
 | call (f:Nat) (args:List V) (objs:List (Nat × Ob)) (x:V) (objs':List (Nat × Ob)) (hf:calleeOf (σ.val X.gl) o.op=some (f,args)) (hac:AC X.P X.gl f args objs (.ret x) objs')
   (hsub:subO objs σ.objs) (hn:∀ n∈(callEff x objs objs').nw,n ∉ σ.used):OpW X o σ (callEff x objs objs')
 | callR (f:Nat) (args:List V) (ro objs:List (Nat × Ob)) (x:V) (objs':List (Nat × Ob)) (hf:calleeOf (σ.val X.gl) o.op=some (f,args)) (hac:AC X.P X.gl f args (ro++objs) (.ret x) (ro++objs'))
   (hro:∀ n∈keysO ro,n ∉ keysO objs∧n ∉ keysO objs') (hsub:subO (ro++objs) σ.objs) (hn:∀ n∈(callEffR x ro objs objs').nw,n ∉ σ.used):OpW X o σ (callEffR x ro objs objs')
theorem getO_append (a b:List (Nat × Ob)) (k:Nat):getO (a++b) k=match getO a k with|some o=>some o|none=>getO b k:=by
 induction a with
 | nil=>rfl
 | cons p r ih =>
  obtain⟨n,o⟩:=p
  simp only [List.cons_append,getO,ih]
  split<;>rfl
theorem Ga.congrO {C:Ctx} {E:Env} {s:List (Nat × V)} {O O':List (Nat × Ob)} {u:List Nat} {a:Act} {w:World} (h:Ga C E ⟨s,O,u⟩ a w) (ho:∀ n,getO O' n=getO O n):Ga C E ⟨s,O',u⟩ a w :=
 ⟨h.slots,h.size,h.defers,h.heap,fun n o hn=>h.objs n o (by rw [← ho];exact hn),fun n m o o' hn hm=>h.apart n m o o' (by rw [← ho];exact hn) (by rw [← ho];exact hm),h.usedS,fun n o hn=>h.usedO n o (by rw [← ho];exact hn),h.usedG,h.grown,h.rest,h.same,h.hle,
  fun n o b hn=>h.own n o b (by rw [← ho];exact hn),h.ext,fun n hn=>⟨(h.keep n hn).1,(ho n).trans (h.keep n hn).2.1,(h.keep n hn).2.2⟩⟩
theorem callEffR_nw {x:V} {ro objs objs':List (Nat × Ob)} (hro:∀ n∈keysO ro,n ∉ keysO objs∧n ∉ keysO objs'):(callEffR x ro objs objs').nw=(callEff x (ro++objs) (ro++objs')).nw:=by
 have hnone:∀ {l:List (Nat × Ob)} {n:Nat},n ∉ keysO l→getO l n=none:=by
  intro l n hn
  cases e:getO l n with
  | none=>rfl
  | some o=>exact absurd (getO_some_mem e) hn
 simp only [callEffR,callEff]
 have hk:keysO (ro++objs')=keysO ro++keysO objs':=by simp [keysO]
 rw [hk,List.filter_append]
 have h1:(keysO ro).filter (fun n=>(getO (ro++objs) n).isNone)=[]:=by
  rw [List.filter_eq_nil_iff]
  intro n hn
  obtain⟨o,ho⟩:=getO_of_mem hn
  rw [getO_append,ho]
  simp
 rw [h1,List.nil_append]
 refine List.filter_congr ?_
 intro n hn
 have:n ∉ keysO ro:=fun h=>(hro n h).2 hn
 rw [getO_append,hnone this]
theorem callEffR_get {l:List (Nat × Ob)} {ro objs objs':List (Nat × Ob)} (hro:∀ n∈keysO ro,n ∉ keysO objs∧n ∉ keysO objs') (hsub:subO (ro++objs) l) (n:Nat):getO (updAll l (callWr objs objs')) n=getO (updAll l (callWr (ro++objs) (ro++objs'))) n:=by
 have hnone:∀ {l:List (Nat × Ob)} {n:Nat},n ∉ keysO l→getO l n=none:=by
  intro l n hn
  cases e:getO l n with
  | none=>rfl
  | some o=>exact absurd (getO_some_mem e) hn
 rw [getO_callWr,getO_callWr,getO_append]
 have hk:keysO (ro++objs)=keysO ro++keysO objs:=by simp [keysO]
 by_cases h:n∈keysO ro
 ·obtain⟨o,ho⟩:=getO_of_mem h
  have h1:=hro n h
  rw [ho,hnone h1.2]
  simp only [h1.1,if_false]
  exact subO_spec hsub n o (by rw [getO_append,ho])
 ·rw [hnone h]
  simp only [hk,List.mem_append,h,false_or]
structure Alike (X:Env1) (o:Oper) (e:Eff) (σ σ':St):Prop where
 val:∀ x∈o.op.operands,σ.val X.gl x=σ'.val X.gl x
 ob:∀ n∈e.rd,getO σ.objs n=getO σ'.objs n
 new:∀ n∈e.nw,n ∉ σ'.used
theorem OpW.congr {X:Env1} {o:Oper} {σ σ':St} {e:Eff} (h:OpW X o σ e) (ha:Alike X o e σ σ'):OpW X o σ' e:=by
 cases h with
 | step r hs hc hn =>
  have hrd:rdN (σ.val X.gl) o.op=rdN (σ'.val X.gl) o.op:=by
   unfold rdN
   have:o.op.operands.toList.map (σ.val X.gl)=o.op.operands.toList.map (σ'.val X.gl):=List.map_congr_left fun x hx=>ha.val x (by simpa using hx)
   rw [this]
  have hs':=hs
  rw [stepOp_congr ha.val ha.ob] at hs'
  rw [hrd]
  refine .step r hs' hc ?_
  intro n hn'
  exact ha.new n hn'
 | call f args objs x objs' hf hac hsub hn =>
  refine .call f args objs x objs' (by rw [← calleeOf_congr ha.val];exact hf) hac ?_ ha.new
  exact subO_congr (fun n hn'=>ha.ob n hn') hsub
 | callR f args ro objs x objs' hf hac hro hsub hn =>
  refine .callR f args ro objs x objs' (by rw [← calleeOf_congr ha.val];exact hf) hac hro ?_ ha.new
  refine subO_congr (fun n hn'=>ha.ob n ?_) hsub
  simpa [callEffR,keysO] using hn'
theorem call_enter {P:Program} {E:Env} {a:Act} {w:World} {o:Oper} {gl:Nat→Option (List PV)} {σ:St} {C:Ctx} (h:Ga C E σ a w) (hg:GOK gl C.E0.H) {f:Nat} {args:List V} (hf:calleeOf (σ.val gl) o.op=some (f,args)) (hdir:Direct P f) :
  ∃ vs:List Value,vs.length=args.length∧RepVL E args vs∧(execOp a.eval o).run P w = .ok (.enter f vs.toArray) w ∧ ∀ n∈namesL args,n∈σ.used:=by
 unfold calleeOf at hf
 split at hf
 ·rename_i fo as ats ho
  split at hf
  ·rename_i g caps ev
   cases hf
   have hv:=val_rep h hg fo
   rw [ev] at hv
   simp only [RepV] at hv
   obtain⟨cs,hv,hcl,hcr⟩:=hv
   obtain⟨fn,hfn,hname,hbody⟩:=hdir
   have hargs:RepVL E (as.toList.map (σ.val gl)) (as.toList.map a.eval):=by
    have:∀ l:List Operand,RepVL E (l.map (σ.val gl)) (l.map a.eval):=by
     intro l
     induction l with
     | nil=>simp [RepVL]
     | cons x l ih=>simp only [List.map_cons,RepVL];exact⟨val_rep h hg x,ih⟩
    exact this _
   have hnm:∀ n∈namesL (as.toList.map (σ.val gl)++caps),n∈σ.used:=by
    intro n hn
    obtain⟨c,hc,hn⟩:=mem_namesL.1 hn
    rcases List.mem_append.1 hc with hc|hc
    ·obtain⟨x,_,rfl⟩:=List.mem_map.1 hc
     exact val_names h x n hn
    ·refine val_names (gl:=gl) h fo n ?_
     rw [ev]
     simp only [V.names]
     exact mem_namesL.2 ⟨c,hc,hn⟩
   refine⟨as.toList.map a.eval++cs,by simp [hcl],RepVL.append (by simp) hargs hcr,?_,hnm⟩
   have hb:¬ fn.body=none:=by intro e;rw [e] at hbody;cases hbody
   have hname' : ¬ fn.name = "runtime.NumGoroutine" := by simpa using hname
   simp [execOp,ho,resolve,hv,Deferred.ofValue,invoke,callFunc,hfn,hname',hb]
  ·rename_i g bs ev
   cases hf
   have hv:=val_rep h hg fo
   rw [ev] at hv
   simp only [RepV] at hv
   obtain⟨cs,hv,hcl,hcr⟩:=hv
   obtain⟨fn,hfn,hname,hbody⟩:=hdir
   have hargs:RepVL E (as.toList.map (σ.val gl)) (as.toList.map a.eval):=by
    have:∀ l:List Operand,RepVL E (l.map (σ.val gl)) (l.map a.eval):=by
     intro l
     induction l with
     | nil=>simp [RepVL]
     | cons x l ih=>simp only [List.map_cons,RepVL];exact⟨val_rep h hg x,ih⟩
    exact this _
   have hnm:∀ n∈namesL (bs++as.toList.map (σ.val gl)),n∈σ.used:=by
    intro n hn
    obtain⟨c,hc,hn⟩:=mem_namesL.1 hn
    rcases List.mem_append.1 hc with hc|hc
    ·refine val_names (gl:=gl) h fo n ?_
     rw [ev]
     simp only [V.names]
     exact mem_namesL.2 ⟨c,hc,hn⟩
    ·obtain⟨x,_,rfl⟩:=List.mem_map.1 hc
     exact val_names h x n hn
   refine⟨cs++as.toList.map a.eval,by simp [hcl],RepVL.append (by omega) hcr hargs,?_,hnm⟩
   have hb:¬ fn.body=none:=by intro e;rw [e] at hbody;cases hbody
   have hname' : ¬ fn.name = "runtime.NumGoroutine" := by simpa using hname
   simp [execOp,ho,resolve,hv,Deferred.ofValue,invoke,callFunc,hfn,hname',hb]
  ·cases hf
 ·cases hf
theorem ment_used {C:Ctx} {E:Env} {σ:St} {a:Act} {w:World} (h:Ga C E σ a w) {args:List V} {objs:List (Nat × Ob)} (hn:∀ n∈namesL args,n∈σ.used) (hs:subO objs σ.objs):∀ n∈mentL args objs,n∈σ.used:=by
 intro n hm
 rcases List.mem_append.1 hm with hm|hm
 ·exact hn n hm
 ·obtain⟨m,o,ho,hm⟩:=mentO_mem hs hm
  exact (h.usedO m o ho).2 n hm
theorem OpW.sound_call {X:Env1} {o:Oper} {σ:St} {f:Nat} {args:List V} {objs:List (Nat × Ob)} {x:V} {objs':List (Nat × Ob)} (hf:calleeOf (σ.val X.gl) o.op=some (f,args)) (hac:AC X.P X.gl f args objs (.ret x) objs') (hsub:subO objs σ.objs) (hn:∀ n∈(callEff x objs objs').nw,n ∉ σ.used)
  {C:Ctx} {E:Env} {a:Act} {w:World} (hg:GOK X.gl C.E0.H) (hG:Ga C E σ a w) (hd:∀ d,o.dst=some d→d<C.nt)
  {K:Act→World→Prop} {Q:Exit→Act→World→Prop} (hK:∀ E' a' w',Ga C E' (σ.eff o.dst (callEff x objs objs')) a' w'→K a' w'):o.wp X.P a w K Q:=by
 obtain⟨vs,hl,hr,hrun,hnm⟩:=call_enter hG hg hf hac.direct
 have hsub0:=hsub
 have hsub:=subO_spec hsub
 unfold Oper.wp
 rw [hrun]
 simp only [Oper.upon]
 have hbase:Base X.gl E w objs:=⟨hG.heap,hg.mono hG.hle,fun n o hn=>hG.objs n o (hsub n o hn),fun n m o o' hn hm=>hG.apart n m o o' (hsub n o hn) (hsub m o' hm)⟩
 refine (hac.calls E w vs hbase hl hr).mono ?_
 rintro e' w' ⟨E',hD,v,rfl,hv⟩
 refine hK E' _ _ (hG.called hD hsub ?_ (ment_used hG hnm hsub0) hac.namesO hv hac.names hd)
 intro n hn'
 by_cases hk:n∈keysO objs
 ·exact .inl hk
 ·right
  refine hn n ?_
  simp only [callEff,List.mem_filter]
  refine⟨hn',?_⟩
  cases e:getO objs n with
  | none=>rfl
  | some o=>exact absurd (getO_some_mem e) hk
theorem OpW.sound {X:Env1} {o:Oper} {σ:St} {e:Eff} (h:OpW X o σ e) (hT:TOK X.P X.T) {C:Ctx} {E:Env} {a:Act} {w:World} (hg:GOK X.gl C.E0.H) (hG:Ga C E σ a w) (hd:∀ d,o.dst=some d→d<C.nt)
  {K:Act→World→Prop} {Q:Exit→Act→World→Prop} (hK:∀ E' a' w',Ga C E' (σ.eff o.dst e) a' w'→K a' w'):o.wp X.P a w K Q:=by
 cases h with
 | step r hs hc hn =>
  obtain⟨v,w',E',hres,hG',_⟩:=stepOp_sound hT hg hG hd hs hc (by
   intro n x hw hnew
   refine hn n ?_
   simp [R.eff,hw,hnew])
  rw [app_eff σ o.dst r (rdN (σ.val X.gl) o.op)] at hG'
  exact hres.wp (hK E' _ _ hG')
 | call f args objs x objs' hf hac hsub hn=>exact OpW.sound_call hf hac hsub hn hg hG hd hK
 | callR f args ro objs x objs' hf hac hro hsub hn =>
  have hnw:=callEffR_nw (x:=x) hro
  refine OpW.sound_call hf hac hsub (by rw [← hnw];exact hn) hg hG hd ?_
  intro E' a' w' hG'
  refine hK E' a' w' ?_
  have:=hG'.congrO (O':=updAll σ.objs (callWr objs objs')) (callEffR_get hro hsub)
  rw [← hnw] at this
  exact this
end Go.Lg
