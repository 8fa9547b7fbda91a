/- The logic of contracts; no conditions. -/
import Derived.Test.YtodjpfpmhjdhbaaGreatDoorTwiceA9
set_option linter.all false
namespace Go.Lg
theorem TIOK.mk' {P:Program} {t:Nat} {ti:TI} {d:TypeDesc} (h1:(P.info? t).map (fun i=>(i.size,i.bytes,i.zero))=some (ti.size,ti.bytes,some ti.zero)) (h2:P.underlying t=some d) (hk:TKOK P d ti.k)
  (h3:ti.zero.cells.size=ti.size) (h4:RepL (fun _=>[]) ti.zc ti.zero.cells.toList) (h5:ti.zc.length=ti.size) (h6:ti.k.isIface=true∨P.concrete t=true):TIOK P t ti:=by
 refine⟨?_,⟨d,h2,hk⟩,h3,h4,h5,h6⟩
 cases hi:P.info? t with
 | none=>rw [hi] at h1;cases h1
 | some i =>
  rw [hi] at h1
  simp only [Option.map_some,Option.some.injEq,Prod.mk.injEq] at h1
  exact⟨i,rfl,h1.1,h1.2.1,h1.2.2⟩
def resOne (X:Env1) (σ:St):ResultVar→Option V
 | .tmp t=>some (getS σ.slots t)
 | .cell a t=>match X.T t,getS σ.slots a with
  | some ti,.loc n off=>match getO σ.objs n with
   | some (.box cs)=>rdV ti.isAgg ti.size (cs.drop off)
   | _=>none
  | _,_=>none
def resL (X:Env1) (σ:St):List ResultVar→Option (List V)
 | []=>some []
 | r::rs=>match resOne X σ r,resL X σ rs with
  | some x,some xs=>some (x::xs)
  | _,_=>none
def mkTup (xs:List V):V:=match xs with
 | [x]=>x
 | xs=>match unL xs with
  | some ps => .pv (.tuple ps)
  | none => .tuple xs
def resV (X:Env1) (σ:St) (rs:List ResultVar):Option V:=(resL X σ rs).map mkTup
theorem mkTup_rep {E:Env} {xs:List V} {vs:Array Value} (hl:vs.size=xs.length) (r:RepVL E xs vs.toList):RepV E (mkTup xs) (if h:vs.size=1 then vs[0] else .tuple vs):=by
 unfold mkTup
 split
 ·rename_i x
  have h1:vs.size=1:=by simpa using hl
  rw [dif_pos h1]
  have:vs.toList=[vs[0]]:=by
   apply List.ext_getElem
   ·simpa using h1
   ·intro i h1 h2
    have:i=0:=by simp at h2;omega
    subst this
    simp
  rw [this] at r
  simpa [RepVL] using r
 ·rename_i hne
  have h1:¬ vs.size=1:=by
   intro h1
   rw [h1] at hl
   cases xs with
   | nil=>simp at hl
   | cons x xs =>
    cases xs with
    | nil=>exact hne x rfl
    | cons y ys=>simp at hl
  rw [dif_neg h1]
  split
  ·rename_i ps e
   simp only [RepV,RepP]
   exact⟨vs.toList,by simp,by rw [unL_len e];simpa using hl,RepVL.toPv e r⟩
  ·simp only [RepV]
   exact⟨vs.toList,by simp,by simpa using hl,r⟩
section
variable {X:Env1} {C:Ctx} {E:Env} {σ:St} {a:Act} {w:World}
theorem res_one (hT:TOK X.P X.T) (h:Ga C E σ a w) {r:ResultVar} {x:V} (hr:resOne X σ r=some x) :
  ∃ v,((match r with
   | .tmp t=>pure (a.tmps.getD t undef)
   | .cell b t=>do loadVar t (← asAddr (a.tmps.getD b undef))):Sem Value).run X.P w = .ok v w∧RepV E x v:=by
 cases r with
 | tmp t =>
  simp only [resOne,Option.some.injEq] at hr
  subst hr
  exact⟨_,rfl,h.slots t⟩
 | cell b t =>
  simp only [resOne] at hr
  split at hr
  ·rename_i ti n off et eb
   split at hr
   ·rename_i cs eo
    have hti:=hT t ti et
    have hx:=h.slots b
    rw [eb] at hx
    simp only [RepV] at hx
    obtain⟨bb,hgn,hv⟩:=hx
    obtain⟨b',c,T',hgn',hcell,hsz,hrr,_⟩:=h.objs n _ eo
    rw [hgn] at hgn'
    cases hgn'
    obtain⟨h1,h2,h3⟩:=rdV_rep hr (hrr.drop off)
    have hload:∀ v,(Instr.loadAt t (.pointer (some ⟨bb,off,none⟩))).run X.P w = .ok v w→(do loadVar t (← asAddr (a.tmps.getD b undef)):Sem Value).run X.P w = .ok v w:=by
     intro v hl
     rw [hv]
     simp only [Instr.loadAt,Instr.sureAddr,Sem.run_bind,Sem.run_pure,Result.andThen_ok] at hl
     simp only [asAddr,Sem.run_bind,Sem.run_pure,Result.andThen_ok]
     exact hl
    cases hagg:ti.isAgg with
    | true =>
     obtain⟨hle,hy⟩:=h1 hagg
     by_cases h0:off+ti.size≤c.size
     ·exact⟨_,hload _ (run_loadAt_agg hti hagg hcell h0),hy⟩
     ·have h00:ti.size=0:=by simp at hle;omega
      have hll:(loadCells ⟨bb,off,none⟩ 0).run X.P w = .ok #[] w:=by simp [loadCells,loadCellsFrom]
      rw [h00] at hy
      refine⟨_,hload _ ?_,hy⟩
      simp [Instr.loadAt,Instr.sureAddr,loadVar,hti.run_agg,hagg,hti.run_size,h00,hll]
    | false =>
     obtain⟨v,hv0,hy⟩:=h2 hagg
     have hget:c[off]? = some v:=by simpa using hv0
     exact⟨v,hload _ (run_loadAt_one hti hagg hcell hget),hy⟩
   ·cases hr
  ·cases hr
theorem res_list (hT:TOK X.P X.T) (h:Ga C E σ a w):∀ {rs:List ResultVar} {xs:List V},resL X σ rs=some xs →
  ∃ vs:List Value,(rs.mapM fun r=>match r with
   | .tmp t=>pure (a.tmps.getD t undef)
   | .cell b t=>do loadVar t (← asAddr (a.tmps.getD b undef)):Sem (List Value)).run X.P w = .ok vs w∧vs.length=xs.length∧RepVL E xs vs
 | [],xs,hr=>by
  simp only [resL,Option.some.injEq] at hr
  subst hr
  exact⟨[],rfl,rfl,by simp [RepVL]⟩
 | r::rs,xs,hr=>by
  simp only [resL] at hr
  split at hr
  ·rename_i x xs' e1 e2
   cases hr
   obtain⟨v,hv,hrv⟩:=res_one hT h e1
   obtain⟨vs,hvs,hl,hrl⟩:=res_list hT h e2
   refine⟨v::vs,?_,by simp [hl],by simp only [RepVL];exact⟨hrv,hrl⟩⟩
   rw [List.mapM_cons]
   simp only [Sem.run_bind]
   rw [hv]
   simp only [Result.andThen_ok,Sem.run_bind]
   rw [hvs]
   rfl
  ·cases hr
theorem res_run (hT:TOK X.P X.T) (h:Ga C E σ a w) {fn:Func} {x:V} (hr:resV X σ fn.results.toList=some x):∃ v,(results fn a.tmps).run X.P w = .ok v w∧RepV E x v:=by
 unfold resV at hr
 cases hx:resL X σ fn.results.toList with
 | none=>rw [hx] at hr;cases hr
 | some xs =>
  rw [hx] at hr
  simp only [Option.map_some,Option.some.injEq] at hr
  subst hr
  obtain⟨vs,hvs,hl,hrl⟩:=res_list hT h hx
  refine⟨_,?_,mkTup_rep (vs:=vs.toArray) (by simpa using hl) (by simpa using hrl)⟩
  unfold results
  rw [Array.mapM_eq_mapM_toList]
  simp only [Sem.run_bind,map_eq_pure_bind]
  erw [hvs]
  rfl
end
def zipArgs:Nat→List V→List (Nat × V)
 | _,[]=>[]
 | k,x::xs=>(k,x)::zipArgs (k+1) xs
theorem zipArgs_get:∀ (xs:List V) (k t:Nat),getS (zipArgs k xs) t=if k≤t then xs.getD (t-k) .undef else .undef
 | [],k,t=>by simp [zipArgs,getS]
 | x::xs,k,t=>by
  simp only [zipArgs,getS]
  by_cases e:k=t
  ·subst e;simp
  ·rw [zipArgs_get xs (k+1) t]
   simp only [e,if_false]
   by_cases hk:k≤t
   ·have h1:k+1≤t:=by omega
    have h2:t-k=(t-(k+1))+1:=by omega
    simp only [hk,h1,if_true]
    rw [h2]
    rfl
   ·have h1:¬ k+1≤t:=by omega
    simp [hk,h1]
def retIs (X:Env1) (σ:St) (rs:List ResultVar):Out→Prop
 | .ret x=>resV X σ rs=some x
 | .panic _=>False
def endQ (X:Env1) (rs:List ResultVar) (out:Out) (objs':List (Nat × Ob)):AEx→St→Prop
 | .normal,σ=>retIs X σ rs out∧subO objs' σ.objs
 | .ret,σ=>retIs X σ rs out∧subO objs' σ.objs
 | .panic p,σ=>(match out with | .ret _=>False | .panic q=>p=q)∧subO objs' σ.objs
 | .exit _,_=>False
theorem AC.of_body {X : Env1} (hT : TOK X.P X.T) {f : Nat} {fn : Func} {c : Code} (hf : X.P.funcs[f]? = some fn) (hb : fn.body = some c) (hname : (fn.name == "runtime.NumGoroutine") = false) (hnt : fn.ntmps = X.nt)
  {args:List V} {objs:List (Nat × Ob)} {out:Out} {objs':List (Nat × Ob)} {ms:List Nat} (hgiven:X.given=keysO objs++ms) (hal:args.length≤X.nt)
  (hms1:subL ms (mentL args objs)) (hms2:∀ n∈ms,n ∉ keysO objs) (hms3:∀ n∈ms,n ∉ keysO objs')
  (hna:subL (namesL args++namesOb objs) (keysO objs++ms)) (hno:subL (out.names++namesOb objs') ((keysO objs++ms)++keysO objs'))
  (h:AWP X c ⟨zipArgs 0 args,objs,keysO objs++ms⟩ (endQ X fn.results.toList out objs')):AC X.P X.gl f args objs out objs':=by
 have hna:=subL_spec hna
 have hno:=subL_spec hno
 have hms1:=subL_spec hms1
 have hout:∀ n,n∈(keysO objs++ms)++keysO objs'→n∈keysO objs∨n∈keysO objs'∨n∈mentL args objs:=by
  intro n hn
  rcases List.mem_append.1 hn with hn|hn
  ·rcases List.mem_append.1 hn with hn|hn
   ·exact .inl hn
   ·exact .inr (.inr (hms1 n hn))
  ·exact .inr (.inl hn)
 have hnone:∀ {l:List (Nat × Ob)} {n:Nat},n ∉ keysO l→getO l n=none:=by
  intro l n hn
  cases e:getO l n with
  | none=>rfl
  | some o=>exact absurd (getO_some_mem e) hn
 refine⟨⟨fn,hf,hname,by rw [hb];rfl⟩,fun n hn=>hout n (hno n (by simp [hn])),fun m o hm n hn=>hout n (hno n (by simp [(namesOb_get hm).2 n hn])),?_⟩
 intro E w vs hB hl hr
 refine calls_of_wp hf hb ?_
 let C:Ctx:=⟨E,w,objs,ms,X.nt,[]⟩
 have hC:COK X C:=⟨hB.glob,rfl,fun n o hn=>by rw [hgiven];exact List.mem_append.2 (.inl (getO_some_mem hn)),fun n hn=>by rw [hgiven];exact List.mem_append.2 (.inr hn),by simp [C,namesD]⟩
 have hG:Ga C E ⟨zipArgs 0 args,objs,keysO objs++ms⟩ { tmps:=vs.toArray++Array.replicate (fn.ntmps-vs.toArray.size) undef,defers:=[] } w:=by
  refine⟨?_,?_,⟨rfl,by simp [C,namesD]⟩,hB.heap,hB.obs,hB.apart,?_,?_,fun n o hn=>List.mem_append.2 (.inl (getO_some_mem hn)),Nat.le_refl _,⟨rfl,rfl,rfl⟩,fun _ _ _=>⟨rfl,rfl⟩,Hle.refl _,fun n o b hn hb _=>⟨n,o,hn,hb⟩,fun n o _=>EExt.refl _ _,
   fun n hn=>⟨List.mem_append.2 (.inr hn),hnone (hms2 n hn),rfl,rfl,rfl⟩⟩
  ·intro t
   rw [zipArgs_get]
   simp only [Nat.zero_le,if_true,Nat.sub_zero]
   by_cases ht:t<args.length
   ·have hra:=RepVL.iff.1 hr t args[t] (List.getElem?_eq_getElem ht)
    obtain⟨v,hv,hrv⟩:=hra
    have h1:args.getD t .undef=args[t]:=by simp [List.getD,List.getElem?_eq_getElem ht]
    rw [h1]
    have h2:(vs.toArray++Array.replicate (fn.ntmps-vs.toArray.size) undef).getD t undef=v:=by
     rw [Array.getD_eq_getD_getElem?,Array.getElem?_append_left (by simp;omega)]
     simp [hv]
    rw [h2]
    exact hrv
   ·have h1:args.getD t .undef = .undef:=by simp [List.getD,List.getElem?_eq_none (by omega:args.length≤t)]
    rw [h1]
    simp [RepV]
  ·simp [C];omega
  ·intro t n hn
   refine hna n ?_
   rw [List.mem_append]
   left
   have:n∈namesSl (zipArgs 0 args):=namesSl_get hn
   have key:∀ (xs:List V) (k:Nat),n∈namesSl (zipArgs k xs)→n∈namesL xs:=by
    intro xs
    induction xs with
    | nil=>intro k h;simp [zipArgs,namesSl] at h
    | cons x xs ih =>
     intro k h
     simp only [zipArgs,namesSl,List.mem_append] at h
     simp only [namesL,List.mem_append]
     rcases h with h|h
     ·exact .inl h
     ·exact .inr (ih (k+1) h)
   exact key args 0 this
  ·intro n o hn
   exact⟨List.mem_append.2 (.inl (getO_some_mem hn)),fun m hm=>hna m (by simp [(namesOb_get hn).2 m hm])⟩
 refine wp_mono (h C E _ w hC hG) ?_
 rintro e a' w' ⟨E',σ',ae,hG',hrel,hq⟩
 -- the hidden side behind the call
 let E2:Env:=⟨E'.H,fun n=>if n∈keysO objs++keysO objs' then E'.g n else E.g n,fun n=>if n∈keysO objs++keysO objs' then E'.ver n else E.ver n,fun n=>if n∈keysO objs++keysO objs' then E'.sz n else E.sz n⟩
 have hE2:∀ n∈keysO objs++keysO objs',E2.g n=E'.g n∧E2.ver n=E'.ver n∧E2.sz n=E'.sz n:=by
  intro n hn
  have hn':n∈keysO objs∨n∈keysO objs':=List.mem_append.1 hn
  simp [E2,hn']
 have hEE0:∀ n∈keysO objs++keysO objs',EExt E' E2 n:=fun n hn=>EExt.of_eq (hE2 n hn).1 (hE2 n hn).2.1 (hE2 n hn).2.2
 have hEE:∀ n∈(keysO objs++ms)++keysO objs',EExt E' E2 n:=by
  intro n hn
  by_cases hm:n∈keysO objs++keysO objs'
  ·exact hEE0 n hm
  ·have hn':n∈ms:=by
    rcases List.mem_append.1 hn with hn|hn
    ·rcases List.mem_append.1 hn with hn|hn
     ·exact absurd (List.mem_append.2 (.inl hn)) hm
     ·exact hn
    ·exact absurd (List.mem_append.2 (.inr hn)) hm
   have hm':¬ (n∈keysO objs∨n∈keysO objs'):=fun h=>hm (List.mem_append.2 h)
   obtain⟨_,_,k3,k4,k5⟩:=hG'.keep n hn'
   exact EExt.of_eq (by simp [E2,hm'];exact k3.symm) (by simp [E2,hm'];exact k4.symm) (by simp [E2,hm'];exact k5.symm)
 have hdone:subO objs' σ'.objs→Done E w objs E2 w' objs':=by
  intro hsub
  have hsub:=subO_spec hsub
  have hk':∀ n o,getO objs' n=some o→n∈keysO objs++keysO objs':=fun n o hn=>List.mem_append.2 (.inr (getO_some_mem hn))
  refine⟨fun b hb=>hG'.heap b hb,?_,?_,hG'.hle,hG'.grown,hG'.rest,?_,?_,?_,?_⟩
  ·intro n o hn
   have hm:=hk' n o hn
   exact (hG'.objs n o (hsub n o hn)).mono (Hle.refl _) (hE2 n hm).1 (hE2 n hm).2.1 (hE2 n hm).2.2 (fun m hm'=>hEE m (hno m (by simp [(namesOb_get hn).2 m hm']))) (fun b _=>⟨rfl,rfl⟩)
  ·intro n m o o' hn hm hne b hb
   rw [(hE2 n (hk' n o hn)).1] at hb
   rw [(hE2 m (hk' m o' hm)).1]
   exact hG'.apart n m o o' (hsub n o hn) (hsub m o' hm) hne b hb
  ·intro b hb hnb
   exact hG'.same b hb (by rintro⟨n,o,hn,hbn⟩;exact hnb n o hn hbn)
  ·intro n o b hn hb
   rw [(hE2 n (hk' n o hn)).1] at hb
   by_cases hlt:b<w.heap.size
   ·obtain⟨m,o',hm,hbm⟩:=hG'.own n o b (hsub n o hn) hb hlt
    exact .inr ⟨m,o',hm,hbm⟩
   ·exact .inl (by omega)
  ·intro n o hn
   have hm:n∈keysO objs++keysO objs':=List.mem_append.2 (.inl (getO_some_mem hn))
   exact (hG'.ext n o hn).trans (hEE0 n hm)
  ·intro n h1 h2
   have hn:¬ (n∈keysO objs∨n∈keysO objs'):=by
    rintro (hn|hn)
    ·obtain⟨o,ho⟩:=getO_of_mem hn;rw [ho] at h1;cases h1
    ·obtain⟨o,ho⟩:=getO_of_mem hn;rw [ho] at h2;cases h2
   simp [E2,hn]
 have hret:retIs X σ' fn.results.toList out→subO objs' σ'.objs →
   a'.defers=[] ∧ ∃ v,(results fn a'.tmps).run X.P w' = .ok v w' ∧ ∃ E',Done E w objs E' w' objs'∧OutRel E' out (.returned v):=by
  intro ho hsub
  cases out with
  | panic p=>exact ho.elim
  | ret x =>
   obtain⟨v,hv,hrv⟩:=res_run hT hG' ho
   exact⟨hG'.defers.1,v,hv,E2,hdone hsub,v,rfl,RepV.mono (E:=E') (E':=E2) (Hle.refl _) x v (fun n hn=>hEE n (hno n (by simp [Out.names,hn]))) hrv⟩
 cases ae with
 | normal=>cases hrel;exact hret hq.1 hq.2
 | ret=>cases hrel;exact hret hq.1 hq.2
 | exit i=>exact hq.elim
 | panic p =>
  obtain⟨v,rfl,hv⟩:=hrel
  obtain⟨ho,hsub⟩:=hq
  cases out with
  | ret x=>exact ho.elim
  | panic q =>
   simp only at ho
   subst ho
   exact⟨hG'.defers.1,E2,hdone hsub,v,rfl,hv⟩
def frzV (n ver:Nat) (es:List (List PV)):V→V
 | .arr m v len=>if m=n∧v=ver then .pv (.slice (es.take len)) else .arr m v len
 | x=>x
def frzL (n ver:Nat) (es:List (List PV)):List V→List V
 | []=>[]
 | x::xs=>frzV n ver es x::frzL n ver es xs
def frzA (n ver:Nat) (es:List (List PV)):V→V
 | .agg cs=>mkAgg (frzL n ver es cs)
 | x=>frzV n ver es x
def frzS (n ver:Nat) (es:List (List PV)):List (Nat × V)→List (Nat × V)
 | []=>[]
 | (t,x)::r=>(t,frzA n ver es x)::frzS n ver es r
def frzOb (n ver:Nat) (es:List (List PV)):Ob→Ob
 | .box cs => .box (frzL n ver es cs)
 | o=>o
def frzO (n ver:Nat) (es:List (List PV)):List (Nat × Ob)→List (Nat × Ob)
 | []=>[]
 | (k,o)::r=>if k=n then frzO n ver es r else (k,frzOb n ver es o)::frzO n ver es r
def St.frz (σ:St) (n ver:Nat) (es:List (List PV)):St:=⟨frzS n ver es σ.slots,frzO n ver es σ.objs,σ.used⟩
theorem frzL_len (n ver:Nat) (es:List (List PV)) (cs:List V):(frzL n ver es cs).length=cs.length:=by
 induction cs with
 | nil=>rfl
 | cons c cs ih=>simp [frzL,ih]
theorem frzS_get (n ver:Nat) (es:List (List PV)) (l:List (Nat × V)) (t:Nat):getS (frzS n ver es l) t=frzA n ver es (getS l t):=by
 induction l with
 | nil=>rfl
 | cons p r ih =>
  obtain⟨k,x⟩:=p
  simp only [frzS,getS,ih]
  split<;>rfl
theorem frzO_get (n ver:Nat) (es:List (List PV)) (l:List (Nat × Ob)) (m:Nat):getO (frzO n ver es l) m=if m=n then none else (getO l m).map (frzOb n ver es):=by
 induction l with
 | nil=>simp [frzO,getO]
 | cons p r ih =>
  obtain⟨k,x⟩:=p
  simp only [frzO,getO]
  by_cases e:k=n
  ·subst e
   simp only [if_true,ih]
   by_cases e1:m=k
   ·simp [e1]
   ·have:¬ k=m:=fun h=>e1 h.symm
    simp [e1,this]
  ·simp only [e,if_false,getO,ih]
   by_cases e1:k=m
   ·subst e1;simp [e]
   ·simp [e1]
section
variable {C:Ctx} {E:Env} {σ:St} {a:Act} {w:World}
theorem frzV_names (n ver:Nat) (es:List (List PV)) (x:V):∀ m∈(frzV n ver es x).names,m∈x.names:=by
 intro m hm
 unfold frzV at hm
 split at hm
 ·split at hm
  ·simp [V.names] at hm
  ·exact hm
 ·exact hm
theorem frzL_names (n ver:Nat) (es:List (List PV)) (cs:List V):∀ m∈namesL (frzL n ver es cs),m∈namesL cs:=by
 induction cs with
 | nil=>intro m hm;exact hm
 | cons c cs ih =>
  intro m hm
  simp only [frzL,namesL,List.mem_append] at hm ⊢
  rcases hm with hm|hm
  ·exact .inl (frzV_names n ver es c m hm)
  ·exact .inr (ih m hm)
theorem frzA_names (n ver:Nat) (es:List (List PV)) (x:V):∀ m∈(frzA n ver es x).names,m∈x.names:=by
 intro m hm
 unfold frzA at hm
 split at hm
 ·simp only [V.names]
  exact frzL_names n ver es _ m (mkAgg_names _ m hm)
 ·exact frzV_names n ver es x m hm
theorem Ga.frz (h:Ga C E σ a w) {n ver sz ty:Nat} {es:List (List PV)} (ho:getO σ.objs n=some (.arr ver sz ty (pvE es))):∃ E',Ga C E' (σ.frz n ver es) a w:=by
 have hob:=h.objs n _ ho
 obtain⟨hver,hsz,hlen,_⟩:=id hob
 obtain⟨ad,cap,hgn,hlc,hlm,hh⟩:=arr_header hob
 have hpl:(pvE es).length=es.length:=by simp [pvE]
 rw [hpl] at hgn hlc hlm
 -- the cells that are known from now on
 have hH:∃ H':Hp,Hle E.H H'∧HeapOK { E with H:=H' } w∧(∀ b,(∀ b',blk (E.g n)=some b'→b≠b')→H' b=E.H b)∧(es=[] ∨ ∃ b,ad=some ⟨b,0,none⟩∧RepE H' es (H' b)):=by
  rcases hh with ⟨h1,h2,h3⟩|⟨b,cur,hb,hcur,hcs,hr,hfree⟩
  ·exact⟨E.H,Hle.refl _,h.heap,fun _ _=>rfl,.inl (by simpa [pvE] using h2)⟩
  ·let H':Hp:=fun b'=>if b'=b then cur.toList else E.H b'
   have hHle:Hle E.H H':=by
    intro b'
    by_cases e:b'=b
    ·subst e;rw [hfree];exact List.nil_prefix
    ·simp [H',e]
   refine⟨H',hHle,?_,?_,.inr ⟨b,hb,?_⟩⟩
   ·intro b' hb'
    by_cases e:b'=b
    ·subst e
     exact⟨cur,ty,(0,0),hcur,by simp [H',Msk.refl],.inl rfl⟩
    ·have hb'':E.H b'≠[]:=by simpa [H',e] using hb'
     obtain⟨c,T,fr,hc,hp⟩:=h.heap b' hb''
     exact⟨c,T,fr,hc,by simpa [H',e] using hp.1,by simpa [H',e] using hp.2⟩
   ·intro b' hne
    have:b'≠b:=hne b (by rw [hgn,hb];rfl)
    simp [H',this]
   ·have hre:=RepVE.toPv (unE_pvE es) hr
    have:H' b=cur.toList:=by simp [H']
    rw [this]
    exact RepE.mono hHle es _ _ List.prefix_rfl hre
 obtain⟨H',hHle,hheap,hsame,hdata⟩:=hH
 have hE:∀ m,EExt E { E with H:=H' } m:=fun m=>EExt.of_eq rfl rfl rfl
 have hc:=h.change (E':={ E with H:=H' }) n none (delO σ.objs n) σ.used none .undef undef (fun m=>getO_delO _ _ _) hHle (fun _ _=>⟨rfl,rfl,rfl⟩) (fun _=>hE n) (fun _=>⟨_,ho⟩) (Nat.le_refl _) ⟨rfl,rfl,rfl⟩
  (fun b _ hne=>⟨rfl,hsame b (fun b' hb' e=>hne _ ho (e ▸ hb'))⟩) hheap (fun o e=>by cases e) (fun o b e=>by cases e) (fun _ h=>h) (by simp [RepV]) (by simp [V.names]) (by simp)
 have hv1:∀ (x:V) (v:Value),RepV { E with H:=H' } x v→RepV { E with H:=H' } (frzV n ver es x) v:=by
  intro x v hx
  unfold frzV
  split
  ·rename_i m vv len
   split
   ·rename_i e
    obtain⟨rfl,rfl⟩:=e
    simp only [RepV] at hx
    obtain⟨_,_,hx⟩:=hx
    obtain⟨a',L,cap',hg',hv,hle⟩:=hx hver.symm
    rw [hgn] at hg'
    cases hg'
    have htl:(es.take len).length=len:=by simp;omega
    simp only [RepV,RepP]
    refine⟨ad,cap,by rw [hv,htl],by omega,by omega,?_⟩
    rcases hdata with rfl|⟨b,hb,hr⟩
    ·simp
    ·exact .inr ⟨b,0,hb,by simpa using hr.takeE len⟩
   ·exact hx
  ·exact hx
 have hvL:∀ (cs:List V) (vs:List Value),RepVL { E with H:=H' } cs vs→RepVL { E with H:=H' } (frzL n ver es cs) vs:=by
  intro cs
  induction cs with
  | nil=>intro vs _;simp [frzL,RepVL]
  | cons c cs ih =>
   intro vs hr
   cases vs with
   | nil=>simp [RepVL] at hr
   | cons v vs =>
    simp only [RepVL] at hr
    simp only [frzL,RepVL]
    exact⟨hv1 c v hr.1,ih vs hr.2⟩
 refine⟨{ E with H:=H' },?_,hc.size,hc.defers,hc.heap,?_,?_,?_,?_,hc.usedG,hc.grown,hc.rest,hc.same,hc.hle,?_,hc.ext,fun k hk=>⟨(hc.keep k hk).1,?_,(hc.keep k hk).2.2⟩⟩
 ·intro t
  simp only [St.frz,frzS_get]
  have hx:=hc.slots t
  simp only [putS] at hx
  unfold frzA
  split
  ·rename_i cs e
   rw [e] at hx
   simp only [RepV] at hx
   obtain⟨vs,hv,hl,hr⟩:=hx
   have hv:a.tmps.getD t undef = .agg vs.toArray:=hv
   rw [hv]
   exact mkAgg_rep (by rw [hl,frzL_len]) (hvL cs vs hr)
  ·exact hv1 _ _ hx
 ·intro m o hm
  simp only [St.frz,frzO_get] at hm
  split at hm
  ·cases hm
  ·rename_i hne
   cases hq:getO σ.objs m with
   | none=>rw [hq] at hm;cases hm
   | some q =>
    rw [hq] at hm
    simp only [Option.map_some,Option.some.injEq] at hm
    subst hm
    have hq':getO (delO σ.objs n) m=some q:=by rw [getO_delO,if_neg hne,hq]
    have hok:=hc.objs m q hq'
    cases q with
    | box cs =>
     obtain⟨b,c,T,h1,h2,h3,h4,h5⟩:=hok
     exact⟨b,c,T,h1,h2,by rw [h3,frzL_len],hvL cs _ h4,h5⟩
    | arr v s t es'=>exact hok
    | cache D F=>exact hok
    | imap es=>exact hok
 ·intro m m' o o' hm hm' hne b hb
  simp only [St.frz,frzO_get] at hm hm'
  split at hm
  ·cases hm
  ·split at hm'
   ·cases hm'
   ·cases hq:getO σ.objs m with
    | none=>rw [hq] at hm;cases hm
    | some q =>
     cases hq':getO σ.objs m' with
     | none=>rw [hq'] at hm';cases hm'
     | some q'=>exact h.apart m m' q q' hq hq' hne b hb
 ·intro t m hm
  simp only [St.frz,frzS_get] at hm
  exact h.usedS t m (frzA_names n ver es _ m hm)
 ·intro m o hm
  simp only [St.frz,frzO_get] at hm
  split at hm
  ·cases hm
  ·cases hq:getO σ.objs m with
   | none=>rw [hq] at hm;cases hm
   | some q =>
    rw [hq] at hm
    simp only [Option.map_some,Option.some.injEq] at hm
    subst hm
    refine⟨(h.usedO m q hq).1,fun k hk=>(h.usedO m q hq).2 k ?_⟩
    cases q with
    | box cs=>exact frzL_names n ver es cs k hk
    | arr v s t es'=>exact hk
    | cache D F=>exact hk
    | imap es=>exact hk
 ·intro m o b hm hb hlt
  simp only [St.frz,frzO_get] at hm
  split at hm
  ·cases hm
  ·cases hq:getO σ.objs m with
   | none=>rw [hq] at hm;cases hm
   | some q=>exact h.own m q b hq hb hlt
 ·simp only [St.frz,frzO_get]
  have:=(h.keep k hk).2.1
  split
  ·rfl
  ·rw [this];rfl
end
theorem AWP.freeze {X:Env1} {c:Code} {σ:St} {Q:AEx→St→Prop} (n:Nat) {ver sz ty:Nat} {es:List (List PV)} (ho:getO σ.objs n=some (.arr ver sz ty (pvE es))) (h:AWP X c (σ.frz n ver es) Q):AWP X c σ Q:=by
 intro C E a w hC hG
 obtain⟨E',hG'⟩:=hG.frz ho
 exact h C E' a w hC hG'
end Go.Lg
