/- The logic of contracts; no conditions. -/
import Derived.Test.YtalkjpicadiimaaGreatDoorLA3
import Derived.LoopN
import Derived.Defers
import Derived.Recover
set_option linter.all false
namespace Go.Lg
theorem TIOK.mk' {P:Program} {t:Nat} {ti:TI} {d:TypeDesc} (h1:(P.info? t).map (fun i=>(i.size,i.bytes,i.zero))=some (ti.size,ti.bytes,some ti.zero)) (h2:P.underlying t=some d) (hk:qXv P d ti.k)
  (h3:ti.zero.cells.size=ti.size) (h4:RepL (fun _=>[]) ti.zc ti.zero.cells.toList) (h5:ti.zc.length=ti.size) (h6:ti.k.isIface=true∨P.concrete t=true):TIOK P t ti:=by
 refine⟨?_,⟨d,h2,hk⟩,h3,h4,h5,h6⟩
 cases hi:P.info? t with
 | none=>rw [hi] at h1;cases h1
 | some i =>
  rw [hi] at h1
  simp only [Option.map_some,Option.some.injEq,Prod.mk.injEq] at h1
  exact⟨i,rfl,h1.1,h1.2.1,h1.2.2⟩
def qAc (X:qZ9) (σ:St):ResultVar→Option V
 | .tmp t=>some (qZy σ.slots t)
 | .cell a t=>match X.T t,qZy σ.slots a with
  | some ti,.loc n off=>match qQc σ.objs n with
   | some (.box cs)=>rdV ti.isAgg ti.size (cs.drop off)
   | _=>none
  | _,_=>none
def qUr (X:qZ9) (σ:St):List ResultVar→Option (List V)
 | []=>some []
 | r::rs=>match qAc X σ r,qUr X σ rs with
  | some x,some xs=>some (x::xs)
  | _,_=>none
def qP1 (xs:List V):V:=match xs with
 | [x]=>x
 | xs=>match unL xs with
  | some ps => .pv (.tuple ps)
  | none => .tuple xs
def zD3 (X:qZ9) (σ:St) (rs:List ResultVar):Option V:=(qUr X σ rs).map qP1
theorem qP2 {E:Env} {xs:List V} {vs:Array Value} (hl:vs.size=xs.length) (r:RepVL E xs vs.toList):RepV E (qP1 xs) (if h:vs.size=1 then vs[0] else .tuple vs):=by
 unfold qP1
 split
 ·rename_i x
  have h1:vs.size=1:=by simpa using hl
  rw [dif_pos h1]
  have:vs.toList=[vs[0]]:=by
   apply List.ext_getElem
   ·simpa using h1
   ·intro i h1 h2
    have:i=0:=by simp at h2;omega
    subst this
    simp
  rw [this] at r
  simpa [RepVL] using r
 ·rename_i hne
  have h1:¬ vs.size=1:=by
   intro h1
   rw [h1] at hl
   cases xs with
   | nil=>simp at hl
   | cons x xs =>
    cases xs with
    | nil=>exact hne x rfl
    | cons y ys=>simp at hl
  rw [dif_neg h1]
  split
  ·rename_i ps e
   simp only [RepV,RepP]
   exact⟨vs.toList,by simp,by rw [qEt e];simpa using hl,RepVL.toPv e r⟩
  ·simp only [RepV]
   exact⟨vs.toList,by simp,by simpa using hl,r⟩
section
variable {X:qZ9} {C:Ctx} {E:Env} {σ:St} {a:Act} {w:World}
theorem zWx (hT:TOK X.P X.T) (h:Ga C E σ a w) {r:ResultVar} {x:V} (hr:qAc X σ r=some x) :
  ∃ v,((match r with
   | .tmp t=>pure (a.tmps.getD t undef)
   | .cell b t=>do loadVar t (← asAddr (a.tmps.getD b undef))):Sem Value).run X.P w = .ok v w∧RepV E x v:=by
 cases r with
 | tmp t =>
  simp only [qAc,Option.some.injEq] at hr
  subst hr
  exact⟨_,rfl,h.slots t⟩
 | cell b t =>
  simp only [qAc] at hr
  split at hr
  ·rename_i ti n off et eb
   split at hr
   ·rename_i cs eo
    have hti:=hT t ti et
    have hx:=h.slots b
    rw [eb] at hx
    simp only [RepV] at hx
    obtain⟨bb,hgn,hv⟩:=hx
    obtain⟨b',c,T',hgn',hcell,hsz,hrr,_⟩:=h.objs n _ eo
    rw [hgn] at hgn'
    cases hgn'
    obtain⟨h1,h2,h3⟩:=qIv hr (hrr.drop off)
    have hload:∀ v,(Instr.loadAt t (.pointer (some ⟨bb,off,none⟩))).run X.P w = .ok v w→(do loadVar t (← asAddr (a.tmps.getD b undef)):Sem Value).run X.P w = .ok v w:=by
     intro v hl
     rw [hv]
     simp only [Instr.loadAt,Instr.sureAddr,Sem.run_bind,Sem.run_pure,Result.andThen_ok] at hl
     simp only [asAddr,Sem.run_bind,Sem.run_pure,Result.andThen_ok]
     exact hl
    cases hagg:ti.isAgg with
    | true =>
     obtain⟨hle,hy⟩:=h1 hagg
     by_cases h0:off+ti.size≤c.size
     ·exact⟨_,hload _ (qZt hti hagg hcell h0),hy⟩
     ·have h00:ti.size=0:=by simp at hle;omega
      have hll:(loadCells ⟨bb,off,none⟩ 0).run X.P w = .ok #[] w:=by simp [loadCells,loadCellsFrom]
      rw [h00] at hy
      refine⟨_,hload _ ?_,hy⟩
      simp [Instr.loadAt,Instr.sureAddr,loadVar,hti.run_agg,hagg,hti.run_size,h00,hll]
    | false =>
     obtain⟨v,hv0,hy⟩:=h2 hagg
     have hget:c[off]? = some v:=by simpa using hv0
     exact⟨v,hload _ (qZu hti hagg hcell hget),hy⟩
   ·cases hr
  ·cases hr
theorem qMe (hT:TOK X.P X.T) (h:Ga C E σ a w):∀ {rs:List ResultVar} {xs:List V},qUr X σ rs=some xs →
  ∃ vs:List Value,(rs.mapM fun r=>match r with
   | .tmp t=>pure (a.tmps.getD t undef)
   | .cell b t=>do loadVar t (← asAddr (a.tmps.getD b undef)):Sem (List Value)).run X.P w = .ok vs w∧vs.length=xs.length∧RepVL E xs vs
 | [],xs,hr=>by
  simp only [qUr,Option.some.injEq] at hr
  subst hr
  exact⟨[],rfl,rfl,by simp [RepVL]⟩
 | r::rs,xs,hr=>by
  simp only [qUr] at hr
  split at hr
  ·rename_i x xs' e1 e2
   cases hr
   obtain⟨v,hv,hrv⟩:=zWx hT h e1
   obtain⟨vs,hvs,hl,hrl⟩:=qMe hT h e2
   refine⟨v::vs,?_,by simp [hl],by simp only [RepVL];exact⟨hrv,hrl⟩⟩
   rw [List.mapM_cons]
   simp only [Sem.run_bind]
   rw [hv]
   simp only [Result.andThen_ok,Sem.run_bind]
   rw [hvs]
   rfl
  ·cases hr
theorem zWy (hT:TOK X.P X.T) (h:Ga C E σ a w) {fn:Func} {x:V} (hr:zD3 X σ fn.results.toList=some x):∃ v,(results fn a.tmps).run X.P w = .ok v w∧RepV E x v:=by
 unfold zD3 at hr
 cases hx:qUr X σ fn.results.toList with
 | none=>rw [hx] at hr;cases hr
 | some xs =>
  rw [hx] at hr
  simp only [Option.map_some,Option.some.injEq] at hr
  subst hr
  obtain⟨vs,hvs,hl,hrl⟩:=qMe hT h hx
  refine⟨_,?_,qP2 (vs:=vs.toArray) (by simpa using hl) (by simpa using hrl)⟩
  unfold results
  rw [Array.mapM_eq_mapM_toList]
  simp only [Sem.run_bind,map_eq_pure_bind]
  erw [hvs]
  rfl
end
def qJ6:Nat→List V→List (Nat × V)
 | _,[]=>[]
 | k,x::xs=>(k,x)::qJ6 (k+1) xs
theorem qXk:∀ (xs:List V) (k t:Nat),qZy (qJ6 k xs) t=if k≤t then xs.getD (t-k) .undef else .undef
 | [],k,t=>by simp [qJ6,qZy]
 | x::xs,k,t=>by
  simp only [qJ6,qZy]
  by_cases e:k=t
  ·subst e;simp
  ·rw [qXk xs (k+1) t]
   simp only [e,if_false]
   by_cases hk:k≤t
   ·have h1:k+1≤t:=by omega
    have h2:t-k=(t-(k+1))+1:=by omega
    simp only [hk,h1,if_true]
    rw [h2]
    rfl
   ·have h1:¬ k+1≤t:=by omega
    simp [hk,h1]
def qOa (X:qZ9) (σ:St) (rs:List ResultVar):Out→Prop
 | .ret x=>zD3 X σ rs=some x
 | .panic _=>False
def zLp (X:qZ9) (rs:List ResultVar) (out:Out) (objs':List (Nat × Ob)):AEx→St→Prop
 | .normal,σ=>qOa X σ rs out∧qDg objs' σ.objs
 | .ret,σ=>qOa X σ rs out∧qDg objs' σ.objs
 | .panic p,σ=>(match out with | .ret _=>False | .panic q=>p=q)∧qDg objs' σ.objs
 | .exit _,_=>False
theorem AC.of_body {X : qZ9} (hT : TOK X.P X.T) {f : Nat} {fn : Func} {c : Code} (hf : X.P.funcs[f]? = some fn) (hb : fn.body = some c) (hname : (fn.name == "runtime.NumGoroutine") = false) (hnt : fn.ntmps = X.nt)
  {args:List V} {objs:List (Nat × Ob)} {out:Out} {objs':List (Nat × Ob)} {ms:List Nat} (hgiven:X.given=qQa objs++ms) (hal:args.length≤X.nt)
  (hms1:zJr ms (qXi args objs)) (hms2:∀ n∈ms,n ∉ qQa objs) (hms3:∀ n∈ms,n ∉ qQa objs')
  (hna:zJr (qQj args++qZz objs) (qQa objs++ms)) (hno:zJr (out.names++qZz objs') ((qQa objs++ms)++qQa objs'))
  (h:AWP X c ⟨qJ6 0 args,objs,qQa objs++ms⟩ (zLp X fn.results.toList out objs')):AC X.P X.gl f args objs out objs':=by
 have hna:=qKb hna
 have hno:=qKb hno
 have hms1:=qKb hms1
 have hout:∀ n,n∈(qQa objs++ms)++qQa objs'→n∈qQa objs∨n∈qQa objs'∨n∈qXi args objs:=by
  intro n hn
  rcases List.mem_append.1 hn with hn|hn
  ·rcases List.mem_append.1 hn with hn|hn
   ·exact .inl hn
   ·exact .inr (.inr (hms1 n hn))
  ·exact .inr (.inl hn)
 have hnone:∀ {l:List (Nat × Ob)} {n:Nat},n ∉ qQa l→qQc l n=none:=by
  intro l n hn
  cases e:qQc l n with
  | none=>rfl
  | some o=>exact absurd (qQi e) hn
 refine⟨⟨fn,hf,hname,by rw [hb];rfl⟩,fun n hn=>hout n (hno n (by simp [hn])),fun m o hm n hn=>hout n (hno n (by simp [(qWi hm).2 n hn])),?_⟩
 intro E w vs hB hl hr
 refine calls_of_wp hf hb ?_
 let C:Ctx:=⟨E,w,objs,ms,X.nt,[]⟩
 have hC:COK X C:=⟨hB.glob,rfl,fun n o hn=>by rw [hgiven];exact List.mem_append.2 (.inl (qQi hn)),fun n hn=>by rw [hgiven];exact List.mem_append.2 (.inr hn),by simp [C,qY7]⟩
 have hG:Ga C E ⟨qJ6 0 args,objs,qQa objs++ms⟩ { tmps:=vs.toArray++Array.replicate (fn.ntmps-vs.toArray.size) undef,defers:=[] } w:=by
  refine⟨?_,?_,⟨rfl,by simp [C,qY7]⟩,hB.heap,hB.obs,hB.apart,?_,?_,fun n o hn=>List.mem_append.2 (.inl (qQi hn)),Nat.le_refl _,⟨rfl,rfl,rfl⟩,fun _ _ _=>⟨fun _=>rfl,rfl⟩,Hle.refl _,fun n o b hn hb _=>⟨n,o,hn,hb⟩,fun n o _=>EExt.refl _ _,
   fun n hn=>⟨List.mem_append.2 (.inr hn),hnone (hms2 n hn),rfl,rfl,rfl⟩⟩
  ·intro t
   rw [qXk]
   simp only [Nat.zero_le,if_true,Nat.sub_zero]
   by_cases ht:t<args.length
   ·have hra:=RepVL.iff.1 hr t args[t] (List.getElem?_eq_getElem ht)
    obtain⟨v,hv,hrv⟩:=hra
    have h1:args.getD t .undef=args[t]:=by simp [List.getD,List.getElem?_eq_getElem ht]
    rw [h1]
    have h2:(vs.toArray++Array.replicate (fn.ntmps-vs.toArray.size) undef).getD t undef=v:=by
     rw [Array.getD_eq_getD_getElem?,Array.getElem?_append_left (by simp;omega)]
     simp [hv]
    rw [h2]
    exact hrv
   ·have h1:args.getD t .undef = .undef:=by simp [List.getD,List.getElem?_eq_none (by omega:args.length≤t)]
    rw [h1]
    simp [RepV]
  ·simp [C];omega
  ·intro t n hn
   refine hna n ?_
   rw [List.mem_append]
   left
   have:n∈qVo (qJ6 0 args):=qB7 hn
   have key:∀ (xs:List V) (k:Nat),n∈qVo (qJ6 k xs)→n∈qQj xs:=by
    intro xs
    induction xs with
    | nil=>intro k h;simp [qJ6,qVo] at h
    | cons x xs ih =>
     intro k h
     simp only [qJ6,qVo,List.mem_append] at h
     simp only [qQj,List.mem_append]
     rcases h with h|h
     ·exact .inl h
     ·exact .inr (ih (k+1) h)
   exact key args 0 this
  ·intro n o hn
   exact⟨List.mem_append.2 (.inl (qQi hn)),fun m hm=>hna m (by simp [(qWi hn).2 m hm])⟩
 refine wp_mono (h C E _ w hC hG) ?_
 rintro e a' w' ⟨E',σ',ae,hG',hrel,hq⟩
 -- the hidden side behind the call
 let E2:Env:=⟨E'.H,fun n=>if n∈qQa objs++qQa objs' then E'.g n else E.g n,fun n=>if n∈qQa objs++qQa objs' then E'.ver n else E.ver n,fun n=>if n∈qQa objs++qQa objs' then E'.sz n else E.sz n⟩
 have hE2:∀ n∈qQa objs++qQa objs',E2.g n=E'.g n∧E2.ver n=E'.ver n∧E2.sz n=E'.sz n:=by
  intro n hn
  have hn':n∈qQa objs∨n∈qQa objs':=List.mem_append.1 hn
  simp [E2,hn']
 have hEE0:∀ n∈qQa objs++qQa objs',EExt E' E2 n:=fun n hn=>EExt.of_eq (hE2 n hn).1 (hE2 n hn).2.1 (hE2 n hn).2.2
 have hEE:∀ n∈(qQa objs++ms)++qQa objs',EExt E' E2 n:=by
  intro n hn
  by_cases hm:n∈qQa objs++qQa objs'
  ·exact hEE0 n hm
  ·have hn':n∈ms:=by
    rcases List.mem_append.1 hn with hn|hn
    ·rcases List.mem_append.1 hn with hn|hn
     ·exact absurd (List.mem_append.2 (.inl hn)) hm
     ·exact hn
    ·exact absurd (List.mem_append.2 (.inr hn)) hm
   have hm':¬ (n∈qQa objs∨n∈qQa objs'):=fun h=>hm (List.mem_append.2 h)
   obtain⟨_,_,k3,k4,k5⟩:=hG'.keep n hn'
   exact EExt.of_eq (by simp [E2,hm'];exact k3.symm) (by simp [E2,hm'];exact k4.symm) (by simp [E2,hm'];exact k5.symm)
 have hdone:qDg objs' σ'.objs→zY1 E w objs E2 w' objs':=by
  intro hsub
  have hsub:=qW9 hsub
  have hk':∀ n o,qQc objs' n=some o→n∈qQa objs++qQa objs':=fun n o hn=>List.mem_append.2 (.inr (qQi hn))
  refine⟨fun b hb=>hG'.heap b hb,?_,?_,hG'.hle,hG'.grown,hG'.rest,?_,?_,?_,?_⟩
  ·intro n o hn
   have hm:=hk' n o hn
   exact (hG'.objs n o (hsub n o hn)).mono (Hle.refl _) (hE2 n hm).1 (hE2 n hm).2.1 (hE2 n hm).2.2 (fun m hm'=>hEE m (hno m (by simp [(qWi hn).2 m hm']))) (fun b _=>⟨rfl,rfl⟩)
  ·intro n m o o' hn hm hne b hb
   rw [(hE2 n (hk' n o hn)).1] at hb
   rw [(hE2 m (hk' m o' hm)).1]
   exact hG'.apart n m o o' (hsub n o hn) (hsub m o' hm) hne b hb
  ·intro b hb hnb
   exact hG'.same b hb (by rintro⟨n,o,hn,hbn⟩;exact hnb n o hn hbn)
  ·intro n o b hn hb
   rw [(hE2 n (hk' n o hn)).1] at hb
   by_cases hlt:b<w.heap.size
   ·obtain⟨m,o',hm,hbm⟩:=hG'.own n o b (hsub n o hn) hb hlt
    exact .inr ⟨m,o',hm,hbm⟩
   ·exact .inl (by omega)
  ·intro n o hn
   have hm:n∈qQa objs++qQa objs':=List.mem_append.2 (.inl (qQi hn))
   exact (hG'.ext n o hn).trans (hEE0 n hm)
  ·intro n h1 h2
   have hn:¬ (n∈qQa objs∨n∈qQa objs'):=by
    rintro (hn|hn)
    ·obtain⟨o,ho⟩:=qQ6 hn;rw [ho] at h1;cases h1
    ·obtain⟨o,ho⟩:=qQ6 hn;rw [ho] at h2;cases h2
   simp [E2,hn]
 have hret:qOa X σ' fn.results.toList out→qDg objs' σ'.objs →
   a'.defers=[] ∧ ∃ v,(results fn a'.tmps).run X.P w' = .ok v w' ∧ ∃ E',zY1 E w objs E' w' objs'∧qPx E' out (.returned v):=by
  intro ho hsub
  cases out with
  | panic p=>exact ho.elim
  | ret x =>
   obtain⟨v,hv,hrv⟩:=zWy hT hG' ho
   exact⟨hG'.defers.1,v,hv,E2,hdone hsub,v,rfl,RepV.mono (E:=E') (E':=E2) (Hle.refl _) x v (fun n hn=>hEE n (hno n (by simp [Out.names,hn]))) hrv⟩
 cases ae with
 | normal=>cases hrel;exact hret hq.1 hq.2
 | ret=>cases hrel;exact hret hq.1 hq.2
 | exit i=>exact hq.elim
 | panic p =>
  obtain⟨v,rfl,hv⟩:=hrel
  obtain⟨ho,hsub⟩:=hq
  cases out with
  | ret x=>exact ho.elim
  | panic q =>
   simp only at ho
   subst ho
   exact⟨hG'.defers.1,E2,hdone hsub,v,rfl,hv⟩
def qGn (n ver:Nat) (es:List (List PV)):V→V
 | .arr m v len=>if m=n∧v=ver then .pv (.slice (es.take len)) else .arr m v len
 | x=>x
def qC5 (n ver:Nat) (es:List (List PV)):List V→List V
 | []=>[]
 | x::xs=>qGn n ver es x::qC5 n ver es xs
def qB8 (n ver:Nat) (es:List (List PV)):V→V
 | .agg cs=>qAr (qC5 n ver es cs)
 | x=>qGn n ver es x
def zD4 (n ver:Nat) (es:List (List PV)):List (Nat × V)→List (Nat × V)
 | []=>[]
 | (t,x)::r=>(t,qB8 n ver es x)::zD4 n ver es r
def qJo (n ver:Nat) (es:List (List PV)):Ob→Ob
 | .box cs => .box (qC5 n ver es cs)
 | o=>o
def zY2 (n ver:Nat) (es:List (List PV)):List (Nat × Ob)→List (Nat × Ob)
 | []=>[]
 | (k,o)::r=>if k=n then zY2 n ver es r else (k,qJo n ver es o)::zY2 n ver es r
def St.frz (σ:St) (n ver:Nat) (es:List (List PV)):St:=⟨zD4 n ver es σ.slots,zY2 n ver es σ.objs,σ.used⟩
theorem qMf (n ver:Nat) (es:List (List PV)) (cs:List V):(qC5 n ver es cs).length=cs.length:=by
 induction cs with
 | nil=>rfl
 | cons c cs ih=>simp [qC5,ih]
theorem qE5 (n ver:Nat) (es:List (List PV)) (l:List (Nat × V)) (t:Nat):qZy (zD4 n ver es l) t=qB8 n ver es (qZy l t):=by
 induction l with
 | nil=>rfl
 | cons p r ih =>
  obtain⟨k,x⟩:=p
  simp only [zD4,qZy,ih]
  split<;>rfl
theorem qKx (n ver:Nat) (es:List (List PV)) (l:List (Nat × Ob)) (m:Nat):qQc (zY2 n ver es l) m=if m=n then none else (qQc l m).map (qJo n ver es):=by
 induction l with
 | nil=>simp [zY2,qQc]
 | cons p r ih =>
  obtain⟨k,x⟩:=p
  simp only [zY2,qQc]
  by_cases e:k=n
  ·subst e
   simp only [if_true,ih]
   by_cases e1:m=k
   ·simp [e1]
   ·have:¬ k=m:=fun h=>e1 h.symm
    simp [e1,this]
  ·simp only [e,if_false,qQc,ih]
   by_cases e1:k=m
   ·subst e1;simp [e]
   ·simp [e1]
section
variable {C:Ctx} {E:Env} {σ:St} {a:Act} {w:World}
theorem qD2 (n ver:Nat) (es:List (List PV)) (x:V):∀ m∈(qGn n ver es x).names,m∈x.names:=by
 intro m hm
 unfold qGn at hm
 split at hm
 ·split at hm
  ·simp [V.names] at hm
  ·exact hm
 ·exact hm
theorem qD3 (n ver:Nat) (es:List (List PV)) (cs:List V):∀ m∈qQj (qC5 n ver es cs),m∈qQj cs:=by
 induction cs with
 | nil=>intro m hm;exact hm
 | cons c cs ih =>
  intro m hm
  simp only [qC5,qQj,List.mem_append] at hm ⊢
  rcases hm with hm|hm
  ·exact .inl (qD2 n ver es c m hm)
  ·exact .inr (ih m hm)
theorem qOb (n ver:Nat) (es:List (List PV)) (x:V):∀ m∈(qB8 n ver es x).names,m∈x.names:=by
 intro m hm
 unfold qB8 at hm
 split at hm
 ·simp only [V.names]
  exact qD3 n ver es _ m (qWc _ m hm)
 ·exact qD2 n ver es x m hm
theorem Ga.frz (h:Ga C E σ a w) {n ver sz ty:Nat} {es:List (List PV)} (ho:qQc σ.objs n=some (.arr ver sz ty (pvE es))):∃ E',Ga C E' (σ.frz n ver es) a w:=by
 have hob:=h.objs n _ ho
 obtain⟨hver,hsz,hlen,_⟩:=id hob
 obtain⟨ad,cap,hgn,hlc,hlm,hh⟩:=qKu hob
 have hpl:(pvE es).length=es.length:=by simp [pvE]
 rw [hpl] at hgn hlc hlm
 -- the cells that are known from now on
 have hH:∃ H':Hp,Hle E.H H'∧HeapOK { E with H:=H' } w∧(∀ b,(∀ b',blk (E.g n)=some b'→b≠b')→H' b=E.H b)∧(es=[] ∨ ∃ b,ad=some ⟨b,0,none⟩∧RepE H' es (H' b)):=by
  rcases hh with ⟨h1,h2,h3⟩|⟨b,cur,hb,hcur,hcs,hr,hfree⟩
  ·exact⟨E.H,Hle.refl _,h.heap,fun _ _=>rfl,.inl (by simpa [pvE] using h2)⟩
  ·let H':Hp:=fun b'=>if b'=b then cur.toList.map sn else E.H b'
   have hHle:Hle E.H H':=by
    intro b'
    by_cases e:b'=b
    ·subst e;rw [hfree];exact List.nil_prefix
    ·simp [H',e]
   refine⟨H',hHle,?_,?_,.inr ⟨b,hb,?_⟩⟩
   ·intro b' hb'
    by_cases e:b'=b
    ·subst e
     exact⟨cur,ty,(0,0),hcur,by simp [H',Msk.sn],.inl rfl⟩
    ·have hb'':E.H b'≠[]:=by simpa [H',e] using hb'
     obtain⟨c,T,fr,hc,hp⟩:=h.heap b' hb''
     exact⟨c,T,fr,hc,by simpa [H',e] using hp.1,by simpa [H',e] using hp.2⟩
   ·intro b' hne
    have:b'≠b:=hne b (by rw [hgn,hb];rfl)
    simp [H',this]
   ·have hre:=(RepVE.toPv (qYn es) hr).sn
    have:H' b=cur.toList.map sn:=by simp [H']
    rw [this]
    exact RepE.mono hHle es _ _ List.prefix_rfl hre
 obtain⟨H',hHle,hheap,hsame,hdata⟩:=hH
 have hE:∀ m,EExt E { E with H:=H' } m:=fun m=>EExt.of_eq rfl rfl rfl
 have hc:=h.change (E':={ E with H:=H' }) n none (qNv σ.objs n) σ.used none .undef undef (fun m=>qW3 _ _ _) hHle (fun _ _=>⟨rfl,rfl,rfl⟩) (fun _=>hE n) (fun _=>⟨_,ho⟩) (Nat.le_refl _) ⟨rfl,rfl,rfl⟩
  (fun b _ hne=>⟨rfl,hsame b (fun b' hb' e=>hne _ ho (e ▸ hb'))⟩) hheap (fun o e=>by cases e) (fun o b e=>by cases e) (fun _ h=>h) (by simp [RepV]) (by simp [V.names]) (by simp)
 have hv1:∀ (x:V) (v:Value),RepV { E with H:=H' } x v→RepV { E with H:=H' } (qGn n ver es x) v:=by
  intro x v hx
  unfold qGn
  split
  ·rename_i m vv len
   split
   ·rename_i e
    obtain⟨rfl,rfl⟩:=e
    simp only [RepV] at hx
    obtain⟨_,_,hx⟩:=hx
    obtain⟨a',L,cap',hg',hv,hle⟩:=hx hver.symm
    rw [hgn] at hg'
    cases hg'
    have htl:(es.take len).length=len:=by simp;omega
    simp only [RepV,RepP]
    refine⟨ad,cap,by rw [hv,htl],by omega,by omega,?_⟩
    rcases hdata with rfl|⟨b,hb,hr⟩
    ·simp
    ·exact .inr ⟨b,0,hb,by simpa using hr.takeE len⟩
   ·exact hx
  ·exact hx
 have hvL:∀ (cs:List V) (vs:List Value),RepVL { E with H:=H' } cs vs→RepVL { E with H:=H' } (qC5 n ver es cs) vs:=by
  intro cs
  induction cs with
  | nil=>intro vs _;simp [qC5,RepVL]
  | cons c cs ih =>
   intro vs hr
   cases vs with
   | nil=>simp [RepVL] at hr
   | cons v vs =>
    simp only [RepVL] at hr
    simp only [qC5,RepVL]
    exact⟨hv1 c v hr.1,ih vs hr.2⟩
 refine⟨{ E with H:=H' },?_,hc.size,hc.defers,hc.heap,?_,?_,?_,?_,hc.usedG,hc.grown,hc.rest,hc.same,hc.hle,?_,hc.ext,fun k hk=>⟨(hc.keep k hk).1,?_,(hc.keep k hk).2.2⟩⟩
 ·intro t
  simp only [St.frz,qE5]
  have hx:=hc.slots t
  simp only [qBq] at hx
  unfold qB8
  split
  ·rename_i cs e
   rw [e] at hx
   simp only [RepV] at hx
   obtain⟨vs,hv,hl,hr⟩:=hx
   have hv:a.tmps.getD t undef = .agg vs.toArray:=hv
   rw [hv]
   exact qXz (by rw [hl,qMf]) (hvL cs vs hr)
  ·exact hv1 _ _ hx
 ·intro m o hm
  simp only [St.frz,qKx] at hm
  split at hm
  ·cases hm
  ·rename_i hne
   cases hq:qQc σ.objs m with
   | none=>rw [hq] at hm;cases hm
   | some q =>
    rw [hq] at hm
    simp only [Option.map_some,Option.some.injEq] at hm
    subst hm
    have hq':qQc (qNv σ.objs n) m=some q:=by rw [qW3,if_neg hne,hq]
    have hok:=hc.objs m q hq'
    cases q with
    | box cs =>
     obtain⟨b,c,T,h1,h2,h3,h4,h5⟩:=hok
     exact⟨b,c,T,h1,h2,by rw [h3,qMf],hvL cs _ h4,h5⟩
    | arr v s t es'=>exact hok
    | smap s es=>exact hok
    | siter l p=>exact hok
    | raw v x=>exact hok
 ·intro m m' o o' hm hm' hne b hb
  simp only [St.frz,qKx] at hm hm'
  split at hm
  ·cases hm
  ·split at hm'
   ·cases hm'
   ·cases hq:qQc σ.objs m with
    | none=>rw [hq] at hm;cases hm
    | some q =>
     cases hq':qQc σ.objs m' with
     | none=>rw [hq'] at hm';cases hm'
     | some q'=>exact h.apart m m' q q' hq hq' hne b hb
 ·intro t m hm
  simp only [St.frz,qE5] at hm
  exact h.usedS t m (qOb n ver es _ m hm)
 ·intro m o hm
  simp only [St.frz,qKx] at hm
  split at hm
  ·cases hm
  ·cases hq:qQc σ.objs m with
   | none=>rw [hq] at hm;cases hm
   | some q =>
    rw [hq] at hm
    simp only [Option.map_some,Option.some.injEq] at hm
    subst hm
    refine⟨(h.usedO m q hq).1,fun k hk=>(h.usedO m q hq).2 k ?_⟩
    cases q with
    | box cs=>exact qD3 n ver es cs k hk
    | arr v s t es'=>exact hk
    | smap s es=>exact hk
    | siter l p=>exact hk
    | raw v x=>exact hk
 ·intro m o b hm hb hlt
  simp only [St.frz,qKx] at hm
  split at hm
  ·cases hm
  ·cases hq:qQc σ.objs m with
   | none=>rw [hq] at hm;cases hm
   | some q=>exact h.own m q b hq hb hlt
 ·simp only [St.frz,qKx]
  have:=(h.keep k hk).2.1
  split
  ·rfl
  ·rw [this];rfl
end
section
variable {X:qZ9} {draw:Bool} {ops:List Oper} {K:St→List Eff→Prop} {Qp:PV→St→Prop} {o:Oper} {rest:List Oper} {σ:St} {tr:List Eff}
theorem zWz {c:Operand} {x y:Code} {Q:AEx→St→Prop} {v:V} (hv:σ.val X.gl c=v) (h:zAw v (AWP X x σ Q) (AWP X y σ Q)):AWP X (.cond c x y) σ Q:=by
 intro C E a w hC hG
 have hr:=qQg hG hC.glob c
 rw [hv] at hr
 unfold zAw at h
 split at h
 ·rename_i b
  exact wp_cond_split (qZv hr) (fun hb=>h.1 hb C E a w hC hG) (fun hb=>h.2 hb C E a w hC hG)
 ·simp only [RepV,RepP] at hr
  obtain⟨d,hr,hd⟩:=hr
  exact wp_cond_split hr (fun hb=>h.1 (hd hb) C E a w hC hG) (fun hb=>h.2 C E a w hC hG)
 ·cases h
end
theorem pvE_app (a b:List (List PV)):pvE a++pvE b=pvE (a++b):=by simp [pvE]
theorem pvE_len (a:List (List PV)):(pvE a).length=a.length:=by simp [pvE]
theorem zW0 (es:List (List PV)) (i:Nat):(pvE es)[i]? = (es[i]?).map pvL:=by simp [pvE]
def qXa (X:qZ9) (b:Code) (Q:AEx→St→Prop):Nat→St→Prop
 | 0,_=>False
 | n+1,σ=>AWP X b σ (qUq (qXa X b Q n) Q)
theorem qX4 {X:qZ9} {b:Code} {Q:AEx→St→Prop} {n:Nat} {σ:St} (h:AWP X b σ (qUq (qXa X b Q n) Q)):qXa X b Q (n+1) σ:=h
theorem qG3 {X:qZ9} {b:Code} {Q:AEx→St→Prop} {C:Ctx} (hC:COK X C):∀ (n:Nat) (σ:St) (E:Env) (a:Act) (w:World),Ga C E σ a w→qXa X b Q n σ→Code.rounds X.P b (qN9 C Q) n a w
 | 0,_,_,_,_,_,h=>h.elim
 | n+1,σ,E,a,w,hG,h=>by
  rw [rounds_succ]
  refine wp_mono (h C E a w hC hG) ?_
  rintro e a' w' ⟨E',σ',ae,hG',hrel,hq⟩
  cases ae with
  | normal=>cases hrel;exact qG3 hC n σ' E' a' w' hG' hq
  | exit i=>cases hrel;exact⟨E',σ',.exit i,hG',rfl,hq⟩
  | ret=>cases hrel;exact⟨E',σ',.ret,hG',rfl,hq⟩
  | panic p=>obtain⟨v,rfl,hv⟩:=hrel;exact⟨E',σ',.panic p,hG',⟨v,rfl,hv⟩,hq⟩
theorem zW1 (n:Nat) {X:qZ9} {b:Code} {Q:AEx→St→Prop} {σ:St} (h:qXa X b Q n σ):AWP X (.loop b) σ Q :=
 fun _ E a w hC hG=>wp_loop_rounds n (qG3 hC n σ E a w hG h)
section
variable {X:qZ9} {C:Ctx}
end
section
variable {C:Ctx} {E:Env} {σ:St} {a:Act} {w:World}
def qUb (K:List PV→PV) (n:Nat) (ps:List PV):V→V
 | .loc m off=>if m=n then .pv (K (ps.drop off)) else .loc m off
 | x=>x
def qP3 (K:List PV→PV) (n:Nat) (ps:List PV):List V→List V
 | []=>[]
 | x::xs=>qUb K n ps x::qP3 K n ps xs
def zD5 (K:List PV→PV) (n:Nat) (ps:List PV):List (Nat × V)→List (Nat × V)
 | []=>[]
 | (t,x)::r=>(t,qUb K n ps x)::zD5 K n ps r
def qE6 (K:List PV→PV) (n:Nat) (ps:List PV):Ob→Ob
 | .box cs => .box (qP3 K n ps cs)
 | o=>o
def zY3 (K:List PV→PV) (n:Nat) (ps:List PV):List (Nat × Ob)→List (Nat × Ob)
 | []=>[]
 | (k,o)::r=>if k=n then zY3 K n ps r else (k,qE6 K n ps o)::zY3 K n ps r
def St.frb (K:List PV→PV) (σ:St) (n:Nat) (ps:List PV):St:=⟨zD5 K n ps σ.slots,zY3 K n ps σ.objs,σ.used⟩
theorem qUs (K:List PV→PV) (n:Nat) (ps:List PV) (cs:List V):(qP3 K n ps cs).length=cs.length:=by
 induction cs with
 | nil=>rfl
 | cons c cs ih=>simp [qP3,ih]
theorem qE7 (K:List PV→PV) (n:Nat) (ps:List PV) (l:List (Nat × V)) (t:Nat):qZy (zD5 K n ps l) t=qUb K n ps (qZy l t):=by
 induction l with
 | nil=>rfl
 | cons p r ih =>
  obtain⟨k,x⟩:=p
  simp only [zD5,qZy,ih]
  split<;>rfl
theorem qKy (K:List PV→PV) (n:Nat) (ps:List PV) (l:List (Nat × Ob)) (m:Nat):qQc (zY3 K n ps l) m=if m=n then none else (qQc l m).map (qE6 K n ps):=by
 induction l with
 | nil=>simp [zY3,qQc]
 | cons p r ih =>
  obtain⟨k,x⟩:=p
  simp only [zY3,qQc]
  by_cases e:k=n
  ·subst e
   simp only [if_true,ih]
   by_cases e1:m=k
   ·simp [e1]
   ·have:¬ k=m:=fun h=>e1 h.symm
    simp [e1,this]
  ·simp only [e,if_false,qQc,ih]
   by_cases e1:k=m
   ·subst e1;simp [e]
   ·simp [e1]
theorem qD4 (K:List PV→PV) (n:Nat) (ps:List PV) (x:V):∀ m∈(qUb K n ps x).names,m∈x.names:=by
 intro m hm
 unfold qUb at hm
 split at hm
 ·split at hm
  ·simp [V.names] at hm
  ·exact hm
 ·exact hm
theorem qOc (K:List PV→PV) (n:Nat) (ps:List PV) (cs:List V):∀ m∈qQj (qP3 K n ps cs),m∈qQj cs:=by
 induction cs with
 | nil=>intro m hm;exact hm
 | cons c cs ih =>
  intro m hm
  simp only [qP3,qQj,List.mem_append] at hm ⊢
  rcases hm with hm|hm
  ·exact .inl (qD4 K n ps c m hm)
  ·exact .inr (ih m hm)
def flgs:List PV→List PV→Prop
 | [],[]=>True
 | .bool c::qs,.flg b::ps=>(c=true→b=true)∧flgs qs ps
 | q::qs,p::ps=>(q=p ∧ ∀ b,p ≠ .flg b)∧flgs qs ps
 | _,_=>False
def kn:List PV→List Value→List Value
 | [],l=>l.map sn
 | _,[]=>[]
 | .flg b::ps,_::l=>mark b::kn ps l
 | _::ps,v::l=>sn v::kn ps l
theorem Msk.cons {u v:Value} {l m:List Value} (h:Msk l m) (h1:(u=v∧(∀ b,u≠mark b))∨u=qAq ∨ ∃ b c,u=mark b∧v = .bool c∧(c=true→b=true)):Msk (u::l) (v::m):=by
 refine⟨by have:=h.1;simp;omega,fun i x hi h2 h3 => ?_,fun i b hi => ?_⟩
 ·cases i with
  | zero =>
   simp at hi
   subst hi
   rcases h1 with ⟨rfl,_⟩|rfl|⟨b,c,rfl,_⟩
   ·rfl
   ·exact absurd rfl h2
   ·exact absurd rfl (h3 b)
  | succ i=>simpa using h.2.1 i x (by simpa using hi) h2 h3
 ·cases i with
  | zero =>
   simp at hi
   subst hi
   rcases h1 with ⟨_,h1⟩|h1|⟨b',c,h1,rfl,h2⟩
   ·exact absurd rfl (h1 b)
   ·exact absurd h1 (zWr b)
   ·rw [qL9 h1];exact⟨c,rfl,h2⟩
  | succ i=>simpa using h.2.2 i b (by simpa using hi)
theorem qUt (v:Value):(sn v=v ∧ ∀ b,sn v≠mark b)∨sn v=qAq:=by
 by_cases h:sn v=qAq
 ·exact .inr h
 ·exact .inl ⟨zAs h,zAr v⟩
theorem zW2 {H:Hp} : ∀ {qs ps:List PV} {l:List Value},flgs qs ps→RepL H qs l→Msk (kn ps l) l∧RepK H ps (kn ps l)
 | [],[],l,_,_=>⟨by simp only [kn];exact Msk.sn l,by simp only [RepK]⟩
 | [],_::_,_,h,_=>by simp [flgs] at h
 | q::qs,[],_,h,_=>by cases q<;>simp [flgs] at h
 | q::qs,p::ps,[],h,r=>by simp [RepL] at r
 | q::qs,p::ps,v::l,h,r=>by
  simp only [RepL] at r
  by_cases hp:∃ b,p = .flg b
  ·obtain⟨b,rfl⟩:=hp
   cases q<;>simp [flgs] at h
   rename_i c
   obtain⟨h1,h2⟩:=zW2 h.2 r.2
   have hv:=r.1
   simp only [RepP] at hv
   simp only [kn]
   exact⟨h1.cons (.inr (.inr ⟨b,c,rfl,hv,h.1⟩)),RepK.cons (.inr ⟨b,rfl,rfl⟩) h2⟩
  ·have hp:∀ b,p ≠ .flg b:=fun b e=>hp ⟨b,e⟩
   have hf:q=p∧flgs qs ps:=by
    rw [flgs.eq_3 _ _ _ _ (fun c b _ e=>hp b e)] at h
    exact⟨h.1.1,h.2⟩
   obtain⟨rfl,hf⟩:=hf
   obtain⟨h1,h2⟩:=zW2 hf r.2
   rw [kn.eq_4 _ _ _ _ (fun b e=>hp b e)]
   refine⟨h1.cons ?_,RepK.cons (.inl ⟨?_,hp⟩) h2⟩
   ·rcases qUt v with h|h
    ·exact .inl h
    ·exact .inr (.inl h)
   ·rw [r.1.sn];exact r.1
def qG4 (K:List PV→PV) (qs ps:List PV):Prop :=
 ∀ (H:Hp) (cur:List Value),RepL H qs cur→∃ l,Msk l cur∧(∀ v∈l,True) ∧ ∀ (b:Nat) (H':Hp),Hle H H'→H' b=l→∀ off,RepP H' (K (ps.drop off)) (.pointer (some ⟨b,off,none⟩))
theorem qUu {qs ps:List PV} (h:flgs qs ps):qG4 PV.nptr qs ps:=by
 intro H cur r
 obtain⟨h1,h2⟩:=zW2 h r
 refine⟨kn ps cur,h1,fun _ _=>trivial,fun b H' hh e off => ?_⟩
 simp only [RepP]
 exact⟨b,off,rfl,by rw [e];exact RepK.drop off (RepK.mono hh ps _ _ List.prefix_rfl h2)⟩
theorem Ga.frb (h:Ga C E σ a w) {K:List PV→PV} {n:Nat} {qs ps:List PV} (ho:qQc σ.objs n=some (.box (pvL qs))) (hcan:qG4 K qs ps):∃ E',Ga C E' (σ.frb K n ps) a w:=by
 obtain⟨b,cur,T,hgn,hcur,hcs,hr,hfree⟩:=h.objs n _ ho
 obtain⟨l,hl1,_,hl2⟩:=hcan E.H cur.toList (RepVL.toPv (qPj qs) hr)
 let H':Hp:=fun b'=>if b'=b then l else E.H b'
 have hHle:Hle E.H H':=by
  intro b'
  by_cases e:b'=b
  ·subst e;rw [hfree];exact List.nil_prefix
  ·simp [H',e]
 have hheap:HeapOK { E with H:=H' } w:=by
  intro b' hb'
  by_cases e:b'=b
  ·subst e
   exact⟨cur,T,(0,0),hcur,by simpa [H'] using hl1,.inl rfl⟩
  ·have hb'':E.H b'≠[]:=by simpa [H',e] using hb'
   obtain⟨c,T,fr,hc,hp⟩:=h.heap b' hb''
   exact⟨c,T,fr,hc,by simpa [H',e] using hp.1,by simpa [H',e] using hp.2⟩
 have hsame:∀ b',b'≠b→H' b'=E.H b':=by intro b' hne;simp [H',hne]
 have hE:∀ m,EExt E { E with H:=H' } m:=fun m=>EExt.of_eq rfl rfl rfl
 have hc:=h.change (E':={ E with H:=H' }) n none (qNv σ.objs n) σ.used none .undef undef (fun m=>qW3 _ _ _) hHle (fun _ _=>⟨rfl,rfl,rfl⟩) (fun _=>hE n) (fun _=>⟨_,ho⟩) (Nat.le_refl _) ⟨rfl,rfl,rfl⟩
  (fun b' _ hne=>⟨rfl,hsame b' (fun e=>hne _ ho (by rw [e,hgn];rfl))⟩) hheap (fun o e=>by cases e) (fun o b e=>by cases e) (fun _ h=>h) (by simp [RepV]) (by simp [V.names]) (by simp)
 have hv1:∀ (x:V) (v:Value),RepV { E with H:=H' } x v→RepV { E with H:=H' } (qUb K n ps x) v:=by
  intro x v hx
  unfold qUb
  split
  ·rename_i m off
   split
   ·rename_i e
    subst e
    simp only [RepV] at hx
    obtain⟨b',hg',hv⟩:=hx
    rw [hgn] at hg'
    cases hg'
    simp only [RepV]
    rw [hv]
    exact hl2 b H' hHle (by simp [H']) off
   ·exact hx
  ·exact hx
 have hvL:∀ (cs:List V) (vs:List Value),RepVL { E with H:=H' } cs vs→RepVL { E with H:=H' } (qP3 K n ps cs) vs:=by
  intro cs
  induction cs with
  | nil=>intro vs _;simp [qP3,RepVL]
  | cons c cs ih =>
   intro vs hr
   cases vs with
   | nil=>simp [RepVL] at hr
   | cons v vs =>
    simp only [RepVL] at hr
    simp only [qP3,RepVL]
    exact⟨hv1 c v hr.1,ih vs hr.2⟩
 refine⟨{ E with H:=H' },?_,hc.size,hc.defers,hc.heap,?_,?_,?_,?_,hc.usedG,hc.grown,hc.rest,hc.same,hc.hle,?_,hc.ext,fun k hk=>⟨(hc.keep k hk).1,?_,(hc.keep k hk).2.2⟩⟩
 ·intro t
  simp only [St.frb,qE7]
  exact hv1 _ _ (hc.slots t)
 ·intro m o hm
  simp only [St.frb,qKy] at hm
  split at hm
  ·cases hm
  ·rename_i hne
   cases hq:qQc σ.objs m with
   | none=>rw [hq] at hm;cases hm
   | some q =>
    rw [hq] at hm
    simp only [Option.map_some,Option.some.injEq] at hm
    subst hm
    have hq':qQc (qNv σ.objs n) m=some q:=by rw [qW3,if_neg hne,hq]
    have hok:=hc.objs m q hq'
    cases q with
    | box cs =>
     obtain⟨b,c,T,h1,h2,h3,h4,h5⟩:=hok
     exact⟨b,c,T,h1,h2,by rw [h3,qUs],hvL cs _ h4,h5⟩
    | arr v s t es'=>exact hok
    | smap s es=>exact hok
    | siter l p=>exact hok
    | raw v x=>exact hok
 ·intro m m' o o' hm hm' hne b hb
  simp only [St.frb,qKy] at hm hm'
  split at hm
  ·cases hm
  ·split at hm'
   ·cases hm'
   ·cases hq:qQc σ.objs m with
    | none=>rw [hq] at hm;cases hm
    | some q =>
     cases hq':qQc σ.objs m' with
     | none=>rw [hq'] at hm';cases hm'
     | some q'=>exact h.apart m m' q q' hq hq' hne b hb
 ·intro t m hm
  simp only [St.frb,qE7] at hm
  exact h.usedS t m (qD4 K n ps _ m hm)
 ·intro m o hm
  simp only [St.frb,qKy] at hm
  split at hm
  ·cases hm
  ·cases hq:qQc σ.objs m with
   | none=>rw [hq] at hm;cases hm
   | some q =>
    rw [hq] at hm
    simp only [Option.map_some,Option.some.injEq] at hm
    subst hm
    refine⟨(h.usedO m q hq).1,fun k hk=>(h.usedO m q hq).2 k ?_⟩
    cases q with
    | box cs=>exact qOc K n ps cs k hk
    | arr v s t es'=>exact hk
    | smap s es=>exact hk
    | siter l p=>exact hk
    | raw v x=>exact hk
 ·intro m o b hm hb hlt
  simp only [St.frb,qKy] at hm
  split at hm
  ·cases hm
  ·cases hq:qQc σ.objs m with
   | none=>rw [hq] at hm;cases hm
   | some q=>exact h.own m q b hq hb hlt
 ·simp only [St.frb,qKy]
  have:=(h.keep k hk).2.1
  split
  ·rfl
  ·rw [this];rfl
end
end Go.Lg
namespace Go.Lg
mutual
def V.ren (ρ:Nat→Nat):V→V
 | .undef => .undef
 | .pv p => .pv p
 | .loc n off => .loc (ρ n) off
 | .eloc n ver i off => .eloc (ρ n) ver i off
 | .arr n ver len => .arr (ρ n) ver len
 | .map n => .map (ρ n)
 | .vsl es => .vsl (qI9 ρ es)
 | .fsl es => .fsl es
 | .fn f cs => .fn f (qE8 ρ cs)
 | .bfn f cs => .bfn f (qE8 ρ cs)
 | .agg cs => .agg (qE8 ρ cs)
 | .tuple cs => .tuple (qE8 ρ cs)
def qE8 (ρ:Nat→Nat):List V→List V
 | []=>[]
 | c::cs=>c.ren ρ::qE8 ρ cs
def qI9 (ρ:Nat→Nat):List (List V)→List (List V)
 | []=>[]
 | e::es=>qE8 ρ e::qI9 ρ es
end
theorem zW3 (ρ:Nat→Nat) (l:List V):qE8 ρ l=l.map (V.ren ρ):=by
 induction l with
 | nil=>rfl
 | cons c l ih=>simp [qE8,ih]
theorem qP4 (ρ:Nat→Nat) (l:List (List V)):qI9 ρ l=l.map (qE8 ρ):=by
 induction l with
 | nil=>rfl
 | cons c l ih=>simp [qI9,ih]
theorem qVi (ρ:Nat→Nat) (l:List V):(qE8 ρ l).length=l.length:=by simp [zW3]
theorem qMg (ρ:Nat→Nat) (l:List (List V)):(qI9 ρ l).length=l.length:=by simp [qP4]
def qUv (ρ:Nat→Nat):List (SK × V)→List (SK × V)
 | []=>[]
 | (k,x)::r=>(k,x.ren ρ)::qUv ρ r
def Ob.ren (ρ:Nat→Nat):Ob→Ob
 | .box cs => .box (qE8 ρ cs)
 | .arr ver sz ty es => .arr ver sz ty (qI9 ρ es)
 | .smap s es => .smap s (qUv ρ es)
 | .siter l p => .siter l p
 | .raw v x => .raw v x
def qLa (ρ:Nat→Nat):List (Nat × Ob)→List (Nat × Ob)
 | []=>[]
 | (n,o)::r=>(ρ n,o.ren ρ)::qLa ρ r
def Out.ren (ρ:Nat→Nat):Out→Out
 | .ret x => .ret (x.ren ρ)
 | .panic p => .panic p
def Env.comp (E:Env) (ρ:Nat→Nat):Env:=⟨E.H,fun n=>E.g (ρ n),fun n=>E.ver (ρ n),fun n=>E.sz (ρ n)⟩
mutual
theorem RepV.ren {E:Env} {ρ:Nat→Nat} : ∀ (x:V) (v:Value),RepV E (x.ren ρ) v↔RepV (E.comp ρ) x v
 | .undef,_=>by simp [V.ren,RepV]
 | .pv p,v=>by simp [V.ren,RepV,Env.comp]
 | .loc n off,v=>by simp [V.ren,RepV,Env.comp]
 | .eloc n ver i off,v=>by simp [V.ren,RepV,Env.comp]
 | .arr n ver len,v=>by simp [V.ren,RepV,Env.comp]
 | .map n,v=>by simp [V.ren,RepV,Env.comp]
 | .vsl es,v=>by
  simp only [V.ren,RepV,qMg]
  have h:∀ vs,RepVE E (qI9 ρ es) vs↔RepVE (E.comp ρ) es vs:=RepVE.ren es
  have hn:qI9 ρ es=[]↔es=[]:=by cases es<;>simp [qI9]
  simp only [h,hn]
  rfl
 | .fsl es,v=>by simp [V.ren,RepV,Env.comp]
 | .fn f cs,v=>by simp only [V.ren,RepV,qVi,RepVL.ren cs]
 | .bfn f cs,v=>by simp only [V.ren,RepV,qVi,RepVL.ren cs]
 | .agg cs,v=>by simp only [V.ren,RepV,qVi,RepVL.ren cs]
 | .tuple cs,v=>by simp only [V.ren,RepV,qVi,RepVL.ren cs]
theorem RepVL.ren {E:Env} {ρ:Nat→Nat} : ∀ (cs:List V) (vs:List Value),RepVL E (qE8 ρ cs) vs↔RepVL (E.comp ρ) cs vs
 | [],_=>by simp [qE8,RepVL]
 | c::cs,[]=>by simp [qE8,RepVL]
 | c::cs,v::vs=>by simp only [qE8,RepVL,RepV.ren c v,RepVL.ren cs vs]
theorem RepVE.ren {E:Env} {ρ:Nat→Nat} : ∀ (es:List (List V)) (vs:List Value),RepVE E (qI9 ρ es) vs↔RepVE (E.comp ρ) es vs
 | [],_=>by simp [qI9,RepVE]
 | e::es,vs=>by simp only [qI9,RepVE,qVi,RepVL.ren e vs,RepVE.ren es (vs.drop e.length)]
end
theorem EntsS.ren {E:Env} {ρ:Nat→Nat} {s:Bool} : ∀ (es:List (SK × V)) (ms:List MapEntry),EntsS E s (qUv ρ es) ms↔EntsS (E.comp ρ) s es ms
 | [],[]=>Iff.rfl
 | [],_::_=>Iff.rfl
 | (k,x)::es,[]=>Iff.rfl
 | (k,x)::es,m::ms=>by simp only [qUv,EntsS,RepV.ren x,EntsS.ren es ms]
theorem ObOK.ren {E:Env} {w:World} {ρ:Nat→Nat} {n:Nat} (o:Ob):ObOK E w (ρ n) (o.ren ρ)↔ObOK (E.comp ρ) w n o:=by
 cases o with
 | box cs=>simp only [Ob.ren,ObOK,qVi,RepVL.ren cs];rfl
 | arr ver sz ty es =>
  have h:(∀ e∈qI9 ρ es,e.length=sz) ↔ ∀ e∈es,e.length=sz:=by
   rw [qP4]
   simp [qVi]
  simp only [Ob.ren,ObOK,qMg,RepVE.ren es,h]
  rfl
 | smap s es=>simp only [Ob.ren,ObOK,EntsS.ren es];rfl
 | siter l p=>simp only [Ob.ren,ObOK];rfl
 | raw v x=>simp only [Ob.ren,ObOK];rfl
mutual
theorem V.ren_names (ρ:Nat→Nat):∀ x:V,(x.ren ρ).names=x.names.map ρ
 | .undef=>rfl
 | .pv _=>rfl
 | .loc _ _=>rfl
 | .eloc _ _ _ _=>rfl
 | .arr _ _ _=>rfl
 | .map _=>rfl
 | .vsl es=>by simp only [V.ren,V.names,qYs ρ es]
 | .fsl _=>rfl
 | .fn _ cs=>by simp only [V.ren,V.names,qZ4 ρ cs]
 | .bfn _ cs=>by simp only [V.ren,V.names,qZ4 ρ cs]
 | .agg cs=>by simp only [V.ren,V.names,qZ4 ρ cs]
 | .tuple cs=>by simp only [V.ren,V.names,qZ4 ρ cs]
theorem qZ4 (ρ:Nat→Nat):∀ l:List V,qQj (qE8 ρ l)=(qQj l).map ρ
 | []=>rfl
 | c::cs=>by simp only [qE8,qQj,V.ren_names ρ c,qZ4 ρ cs,List.map_append]
theorem qYs (ρ:Nat→Nat):∀ l:List (List V),qQm (qI9 ρ l)=(qQm l).map ρ
 | []=>rfl
 | e::es=>by simp only [qI9,qQm,qZ4 ρ e,qYs ρ es,List.map_append]
end
theorem qD5 (ρ:Nat→Nat):∀ l:List (SK × V),qZg (qUv ρ l)=(qZg l).map ρ
 | []=>rfl
 | (k,x)::r=>by simp only [qUv,qZg,V.ren_names ρ x,qD5 ρ r,List.map_append]
theorem Ob.ren_names (ρ:Nat→Nat) (o:Ob):(o.ren ρ).names=o.names.map ρ:=by
 cases o with
 | box cs=>simp only [Ob.ren,Ob.names,qZ4]
 | arr ver sz ty es=>simp only [Ob.ren,Ob.names,qYs]
 | smap s es=>simp only [Ob.ren,Ob.names,qD5]
 | siter l p=>rfl
 | raw v x=>rfl
section
variable {ρ:Nat→Nat} (hρ:∀ n,ρ (ρ n)=n)
include hρ
theorem qP5 {a b:Nat} (h:ρ a=ρ b):a=b:=by rw [← hρ a,h,hρ]
theorem qE9 (l:List (Nat × Ob)) (n:Nat):qQc (qLa ρ l) n=(qQc l (ρ n)).map (Ob.ren ρ):=by
 induction l with
 | nil=>rfl
 | cons p r ih =>
  obtain⟨k,o⟩:=p
  simp only [qLa,qQc,ih]
  by_cases e:ρ k=n
  ·subst e
   simp [hρ]
  ·have:¬ k=ρ n:=fun h=>e (by rw [h,hρ])
   simp [e,this]
theorem qX5 (l:List (Nat × Ob)):qQa (qLa ρ l)=(qQa l).map ρ:=by
 induction l with
 | nil=>rfl
 | cons p r ih =>
  obtain⟨k,o⟩:=p
  simp only [qLa,qQa,List.map_cons] at ih ⊢
  rw [ih]
theorem qG5 (args:List V) (l:List (Nat × Ob)):qXi (qE8 ρ args) (qLa ρ l)=(qXi args l).map ρ:=by
 have h:qJ4 (qLa ρ l)=(qJ4 l).map ρ:=by
  induction l with
  | nil=>rfl
  | cons p r ih =>
   obtain⟨k,o⟩:=p
   simp only [qLa,qJ4,List.map_append,Ob.ren_names,ih]
 simp only [qXi,qZ4,h,List.map_append]
theorem AC.ren {P:Program} {gl:Nat→Option (List PV)} {f:Nat} {args:List V} {objs:List (Nat × Ob)} {out:Out} {objs':List (Nat × Ob)} (h:AC P gl f args objs out objs') :
  AC P gl f (qE8 ρ args) (qLa ρ objs) (out.ren ρ) (qLa ρ objs'):=by
 have hmem:∀ {l:List Nat} {n:Nat},n∈l.map ρ↔ρ n∈l:=by
  intro l n
  rw [List.mem_map]
  exact⟨fun ⟨m,hm,e⟩=>by rw [← e,hρ];exact hm,fun hm=>⟨ρ n,hm,hρ n⟩⟩
 have hget:∀ {l:List (Nat × Ob)} {n:Nat} {o:Ob},qQc (qLa ρ l) n=some o→∃ o',qQc l (ρ n)=some o'∧o'.ren ρ=o:=by
  intro l n o hn
  rw [qE9 hρ] at hn
  cases e:qQc l (ρ n) with
  | none=>rw [e] at hn;cases hn
  | some o'=>rw [e] at hn;exact⟨o',rfl,Option.some.inj hn⟩
 have hget':∀ {l:List (Nat × Ob)} {n:Nat} {o:Ob},qQc l n=some o→qQc (qLa ρ l) (ρ n)=some (o.ren ρ):=by
  intro l n o hn
  rw [qE9 hρ,hρ,hn]
  rfl
 have hnone:∀ {l:List (Nat × Ob)} {n:Nat},qQc (qLa ρ l) n=none→qQc l (ρ n)=none:=by
  intro l n hn
  rw [qE9 hρ] at hn
  cases e:qQc l (ρ n) with
  | none=>rfl
  | some o'=>rw [e] at hn;cases hn
 refine⟨h.direct,?_,?_,?_⟩
 ·intro n hn
  rw [qX5 hρ,qX5 hρ,qG5 hρ,hmem,hmem,hmem]
  cases out with
  | ret x =>
   simp only [Out.ren,Out.names,V.ren_names,hmem] at hn
   exact h.names (ρ n) hn
  | panic p=>simp [Out.ren,Out.names] at hn
 ·intro m o hm n hn
  obtain⟨o',ho',rfl⟩:=hget hm
  rw [Ob.ren_names,hmem] at hn
  rw [qX5 hρ,qX5 hρ,qG5 hρ,hmem,hmem,hmem]
  exact h.namesO _ o' ho' _ hn
 ·intro E w vs hB hl hr
  have hB':zAv gl (E.comp ρ) w objs:=by
   refine⟨hB.heap,hB.glob,fun n o hn=>(ObOK.ren o).1 (hB.obs _ _ (hget' hn)),fun n m o o' hn hm hne b hb => ?_⟩
   exact hB.apart (ρ n) (ρ m) _ _ (hget' hn) (hget' hm) (fun e=>hne (qP5 hρ e)) b hb
  refine (h.calls (E.comp ρ) w vs hB' (by rw [hl,qVi]) ((RepVL.ren args vs).1 hr)).mono ?_
  rintro e w' ⟨E',hD,ho⟩
  have hcomp:∀ F:Env,(F.comp ρ).comp ρ=F:=by
   intro F
   simp [Env.comp,hρ]
  refine⟨E'.comp ρ,⟨hD.heap,?_,?_,hD.hle,hD.size,hD.rest,?_,?_,?_,?_⟩,?_⟩
  ·intro n o hn
   obtain⟨o',ho',rfl⟩:=hget hn
   have:=hD.obs _ o' ho'
   rw [← hcomp E'] at this
   have:=(ObOK.ren (E:=E'.comp ρ) (n:=ρ n) o').2 this
   rwa [hρ] at this
  ·intro n m o o' hn hm hne b hb
   obtain⟨q,hq,_⟩:=hget hn
   obtain⟨q',hq',_⟩:=hget hm
   exact hD.apart (ρ n) (ρ m) q q' hq hq' (fun e=>hne (qP5 hρ e)) b hb
  ·intro b hb hnb
   refine hD.same b hb (fun n o hn e => ?_)
   exact hnb (ρ n) _ (hget' hn) e
  ·intro n o b hn hb
   obtain⟨q,hq,_⟩:=hget hn
   rcases hD.own (ρ n) q b hq hb with h1|⟨m,o',hm,hbm⟩
   ·exact .inl h1
   ·exact .inr ⟨ρ m,_,hget' hm,hbm⟩
  ·intro n o hn
   obtain⟨q,hq,_⟩:=hget hn
   have:=hD.ext (ρ n) q hq
   simpa [EExt,Env.comp,hρ] using this
  ·intro n h1 h2
   have:=hD.other (ρ n) (hnone h1) (hnone h2)
   simpa [Env.comp,hρ] using this
  ·cases out with
   | ret x =>
    obtain⟨v,rfl,hv⟩:=ho
    refine⟨v,rfl,?_⟩
    rw [← hcomp E'] at hv
    exact (RepV.ren x v).2 hv
   | panic p =>
    obtain⟨v,rfl,hv⟩:=ho
    exact⟨v,rfl,hv⟩
end
end Go.Lg
namespace Go.Lg
end Go.Lg
namespace Go.Lg
end Go.Lg
namespace Go.Lg
theorem AC.le {P:Program} {gl:Nat→Option (List PV)} {f:Nat} {args args':List V} {objs objs':List (Nat × Ob)} {out:Out} (h:AC P gl f args' objs out objs') (hl:args.length=args'.length) (hm:qXi args objs=qXi args' objs)
  (hr:∀ E vs,RepVL E args vs→RepVL E args' vs):AC P gl f args objs out objs' :=
 ⟨h.direct,by rw [hm];exact h.names,by rw [hm];exact h.namesO,fun E w vs hB hv hR=>h.calls E w vs hB (hv.trans hl) (hr E vs hR)⟩
theorem AC.leO {P:Program} {gl:Nat→Option (List PV)} {f:Nat} {args:List V} {objs objs':List (Nat × Ob)} {p q:PV} (h:AC P gl f args objs (.ret (.pv p)) objs') (hr:∀ H v,RepP H p v→RepP H q v):AC P gl f args objs (.ret (.pv q)) objs':=by
 refine⟨h.direct,h.names,h.namesO,fun E w vs hB hv hR=>(h.calls E w vs hB hv hR).mono ?_⟩
 rintro e w' ⟨E',hd,v,he,hv⟩
 exact⟨E',hd,v,he,hr _ _ hv⟩
theorem qUw {H:Hp} {v:Value} (h:RepP H .nils v):RepP H (.slice []) v:=by
 simp only [RepP] at h ⊢
 exact⟨none,0,by simpa using h,by simp,by simp,by simp⟩
end Go.Lg
