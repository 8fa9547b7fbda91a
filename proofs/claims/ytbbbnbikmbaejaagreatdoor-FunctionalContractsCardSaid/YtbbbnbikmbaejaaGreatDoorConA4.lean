/- The logic of contracts; no conditions. -/
import Derived.Test.YtbbbnbikmbaejaaGreatDoorConA3
import Derived.LoopN
import Derived.Defers
import Derived.Recover
set_option linter.all false
namespace Go.Lg
inductive AEx where
 | normal
 | exit (id:Nat)
 | ret
 | panic (p:PV)
def zD4 (E:Env):AEx→Exit→Prop
 | .normal,e=>e = .normal
 | .exit i,e=>e = .exit i
 | .ret,e=>e = .ret
 | .panic p,e => ∃ v,e = .panic [{ v,recovered:=false }]∧RepP E.H p v
structure COK (X:Env1) (C:Ctx):Prop where
 glob:GOK X.gl C.E0.H
 nt:C.nt=X.nt
 given:∀ n o,qQc C.given n=some o→n∈X.given
 ms:∀ n∈C.ms,n∈X.given
 defs:∀ n∈qVl C.defs,n∈X.given
def qF5 (C:Ctx) (Q:AEx→St→Prop) (e:Exit) (a:Act) (w:World):Prop:=∃ E σ ae,Ga C E σ a w∧zD4 E ae e∧Q ae σ
def AWP (X:Env1) (c:Code) (σ:St) (Q:AEx→St→Prop):Prop :=
 ∀ C E a w,COK X C→Ga C E σ a w→c.wp X.P (qF5 C Q) a w
def qP7 (next:St→Prop) (Q:AEx→St→Prop):AEx→St→Prop
 | .normal,σ=>next σ
 | e,σ=>Q e σ
def qXd (id:Nat) (Q:AEx→St→Prop):AEx→St→Prop
 | .exit i,σ=>if i=id then Q .normal σ else Q (.exit i) σ
 | e,σ=>Q e σ
def zWe (v:V) (yes no:Prop):Prop:=match v with
 | .pv (.bool b)=>(b=true→yes)∧(b=false→no)
 | .pv (.flg b)=>(b=true→yes)∧no
 | _=>False
theorem AWP.mono {X:Env1} {c:Code} {σ:St} {Q Q':AEx→St→Prop} (h:AWP X c σ Q) (hq:∀ e σ,Q e σ→Q' e σ):AWP X c σ Q' :=
 fun C E a w hC hG=>wp_mono (h C E a w hC hG) fun _ _ _ ⟨E',σ',ae,h1,h2,h3⟩=>⟨E',σ',ae,h1,h2,hq _ _ h3⟩
theorem AWP.seq {X:Env1} {x y:Code} {σ:St} {Q:AEx→St→Prop} (h:AWP X x σ (qP7 (fun σ'=>AWP X y σ' Q) Q)):AWP X (.seq x y) σ Q:=by
 intro C E a w hC hG
 refine wp_seq (wp_mono (h C E a w hC hG) ?_)
 rintro e a' w' ⟨E',σ',ae,hG',hr,hq⟩
 cases ae with
 | normal=>cases hr;exact hq C E' a' w' hC hG'
 | exit i=>cases hr;exact⟨E',σ',.exit i,hG',rfl,hq⟩
 | ret=>cases hr;exact⟨E',σ',.ret,hG',rfl,hq⟩
 | panic p=>obtain⟨v,rfl,hv⟩:=hr;exact⟨E',σ',.panic p,hG',⟨v,rfl,hv⟩,hq⟩
theorem AWP.block {X:Env1} {id:Nat} {x:Code} {σ:St} {Q:AEx→St→Prop} (h:AWP X x σ (qXd id Q)):AWP X (.block id x) σ Q:=by
 intro C E a w hC hG
 refine wp_block (wp_mono (h C E a w hC hG) ?_)
 rintro e a' w' ⟨E',σ',ae,hG',hr,hq⟩
 cases ae with
 | normal=>cases hr;exact⟨E',σ',.normal,hG',rfl,hq⟩
 | exit i =>
  cases hr
  simp only [qXd] at hq
  simp only [Exit.inBlock]
  split
  ·rename_i e;rw [if_pos e] at hq;exact⟨E',σ',.normal,hG',rfl,hq⟩
  ·rename_i e;rw [if_neg e] at hq;exact⟨E',σ',.exit i,hG',rfl,hq⟩
 | ret=>cases hr;exact⟨E',σ',.ret,hG',rfl,hq⟩
 | panic p=>obtain⟨v,rfl,hv⟩:=hr;exact⟨E',σ',.panic p,hG',⟨v,rfl,hv⟩,hq⟩
def qPg:List Nat→List Nat→Prop
 | [],_=>True
 | n::r,u=>n∈u∧qPg r u
def qB3:List (Nat × V)→List (Nat × V)→Prop
 | [],_=>True
 | (t,x)::r,l=>qZi l t=x∧qB3 r l
def qZn:List (Nat × V)→List Nat
 | []=>[]
 | (_,x)::r=>x.names++qZn r
def qZg:List (Nat × Ob)→List Nat
 | []=>[]
 | (n,o)::r=>n::o.names++qZg r
structure Weak (X:Env1) (σ τ:St):Prop where
 slots:qB3 τ.slots σ.slots
 objs:qWu τ.objs σ.objs
 names:qPg (qZn τ.slots++qZg τ.objs++X.given) τ.used
theorem qJ6:∀ {l u:List Nat},qPg l u→∀ n∈l,n∈u
 | [],_,_,n,h=>by simp at h
 | k::r,u,hf,n,h=>by
  rcases List.mem_cons.1 h with rfl|h
  ·exact hf.1
  ·exact qJ6 hf.2 n h
theorem qXe:∀ {l m:List (Nat × V)},qB3 l m→∀ t,qZi l t = .undef∨qZi l t=qZi m t
 | [],_,_,t => .inl rfl
 | (k,x)::r,m,h,t=>by
  simp only [qZi]
  split
  ·rename_i e;subst e;exact .inr h.1.symm
  ·exact qXe h.2 t
theorem qWw {l:List (Nat × V)} {t n:Nat} (h:n∈(qZi l t).names):n∈qZn l:=by
 induction l with
 | nil=>grind [qZi,V.names]
 | cons p r ih =>
  grind [qZi,qZn]
theorem qZw {l:List (Nat × Ob)} {m:Nat} {o:Ob} (h:qQc l m=some o):m∈qZg l ∧ ∀ n∈o.names,n∈qZg l:=by
 induction l with
 | nil=>grind [qQc]
 | cons p r ih =>
  grind [qQc,qZg]
theorem Weak.ga {X:Env1} {σ τ:St} (h:Weak X σ τ) {C:Ctx} (hC:COK X C) {E:Env} {a:Act} {w:World} (hG:Ga C E σ a w):Ga C E τ a w:=by
 have hs:=qXe h.slots
 have ho:=qZ0 h.objs
 have hn:=qJ6 h.names
 refine⟨?_,hG.size,⟨hG.defers.1,fun n hm=>hn n (by simp [hC.defs n hm])⟩,hG.heap,fun n o hno=>hG.objs n o (ho n o hno),fun n m o o' hno hmo=>hG.apart n m o o' (ho n o hno) (ho m o' hmo),?_,?_,?_,hG.grown,hG.rest,hG.same,hG.hle,fun n o b hno=>hG.own n o b (ho n o hno),hG.ext,fun n hm=>⟨hn n (by simp [hC.ms n hm]),?_,(hG.keep n hm).2.2⟩⟩
 rotate_left 4
 ·cases e:qQc τ.objs n with
  | none=>rfl
  | some o =>
   have:=ho n o e
   rw [(hG.keep n hm).2.1] at this
   cases this
 ·intro t
  rcases hs t with e|e
  ·rw [e];simp [RepV]
  ·rw [e];exact hG.slots t
 ·grind [qWw]
 ·intro n o hno
  obtain⟨h1,h2⟩:=qZw hno
  simp_all
 ·intro n o hno
  exact hn n (by simp [hC.given n o hno])
open Classical in
theorem TIOK.mk' {P:Program} {t:Nat} {ti:TI} {d:TypeDesc} (h1:(P.info? t).map (fun i=>(i.size,i.bytes,i.zero))=some (ti.size,ti.bytes,some ti.zero)) (h2:P.underlying t=some d) (hk:qK9 P d ti.k)
  (h3:ti.zero.cells.size=ti.size) (h4:RepL (fun _=>[]) ti.zc ti.zero.cells.toList) (h5:ti.zc.length=ti.size) (h6:ti.k.isIface=true∨P.concrete t=true):TIOK P t ti:=by
 refine⟨?_,⟨d,h2,hk⟩,h3,h4,h5,h6⟩
 simp_all
def qXf (X:Env1) (σ:St):ResultVar→Option V
 | .tmp t=>some (qZi σ.slots t)
 | .cell a t=>match X.T t,qZi σ.slots a with
  | some ti,.loc n off=>match qQc σ.objs n with
   | some (.box cs)=>rdV ti.isAgg ti.size (cs.drop off)
   | _=>none
  | _,_=>none
def qP8 (X:Env1) (σ:St):List ResultVar→Option (List V)
 | []=>some []
 | r::rs=>match qXf X σ r,qP8 X σ rs with
  | some x,some xs=>some (x::xs)
  | _,_=>none
def qIw (xs:List V):V:=match xs with
 | [x]=>x
 | xs=>match unL xs with
  | some ps => .pv (.tuple ps)
  | none => .tuple xs
def qMk (X:Env1) (σ:St) (rs:List ResultVar):Option V:=(qP8 X σ rs).map qIw
theorem qMl {E:Env} {xs:List V} {vs:Array Value} (hl:vs.size=xs.length) (r:RepVL E xs vs.toList):RepV E (qIw xs) (if h:vs.size=1 then vs[0] else .tuple vs):=by
 unfold qIw
 split
 ·have h1:vs.size=1:=by omega
  have:vs.toList=[vs[0]]:=by
   apply List.ext_getElem
   ·omega
   simp_all
  grind [RepVL]
 ·have h1:¬ vs.size=1:=by
   intro h1
   rw [h1] at hl
   cases xs with
   | nil=>simp at hl
   | cons x xs =>
    cases xs with
    | nil=>grind
    | cons y ys=>simp at hl
  rw [dif_neg h1]
  grind [RepV,RepP,qBp,RepVL.toPv]
section
variable {X:Env1} {C:Ctx} {E:Env} {σ:St} {a:Act} {w:World}
theorem zQn (hT:TOK X.P X.T) (h:Ga C E σ a w) {r:ResultVar} {x:V} (hr:qXf X σ r=some x) :
  ∃ v,((match r with
   | .tmp t=>pure (a.tmps.getD t undef)
   | .cell b t=>do loadVar t (← asAddr (a.tmps.getD b undef))):Sem Value).run X.P w = .ok v w∧RepV E x v:=by
 cases r with
 | tmp t =>
  simp only [qXf,Option.some.injEq] at hr
  subst hr
  exact⟨_,rfl,h.slots t⟩
 | cell b t =>
  simp only [qXf] at hr
  split at hr
  ·rename_i ti n off et eb
   split at hr
   ·rename_i cs eo
    have hti:=hT t ti et
    have hx:=h.slots b
    rw [eb] at hx
    obtain⟨bb,hgn,hv⟩:=hx
    obtain⟨b',c,T',hgn',hcell,hsz,hrr,_⟩:=h.objs n _ eo
    obtain⟨h1,h2,h3⟩:=qFs hr (hrr.drop off)
    have hload:∀ v,(Instr.loadAt t (.pointer (some ⟨bb,off,none⟩))).run X.P w = .ok v w→(do loadVar t (← asAddr (a.tmps.getD b undef)):Sem Value).run X.P w = .ok v w:=by
     intro v hl
     rw [hv]
     exact hl
    cases hagg:ti.isAgg with
    | true =>
     obtain⟨hle,hy⟩:=h1 hagg
     by_cases h0:off+ti.size≤c.size
     ·grind [qZb]
     ·have h00:ti.size=0:=by grind
      have hll:(loadCells ⟨bb,off,none⟩ 0).run X.P w = .ok #[] w:=by rfl
      refine⟨_,hload _ ?_,hy⟩
      simp [Instr.loadAt,Instr.sureAddr,loadVar,hti.run_agg,hagg,hti.run_size,h00,hll]
    | false =>
     grind [qZc]
   ·cases hr
  ·cases hr
theorem qHe (hT:TOK X.P X.T) (h:Ga C E σ a w):∀ {rs:List ResultVar} {xs:List V},qP8 X σ rs=some xs →
  ∃ vs:List Value,(rs.mapM fun r=>match r with
   | .tmp t=>pure (a.tmps.getD t undef)
   | .cell b t=>do loadVar t (← asAddr (a.tmps.getD b undef)):Sem (List Value)).run X.P w = .ok vs w∧vs.length=xs.length∧RepVL E xs vs
 | [],xs,hr=>by
  simp only [qP8,Option.some.injEq] at hr
  subst hr
  exact⟨[],rfl,rfl,by simp [RepVL]⟩
 | r::rs,xs,hr=>by
  simp only [qP8] at hr
  split at hr
  ·rename_i x xs' e1 e2
   cases hr
   obtain⟨v,hv,hrv⟩:=zQn hT h e1
   obtain⟨vs,hvs,hl,hrl⟩:=qHe hT h e2
   refine⟨v::vs,?_,by simp [hl],by grind [RepVL]⟩
   simp_all
  ·cases hr
theorem qMm (hT:TOK X.P X.T) (h:Ga C E σ a w) {fn:Func} {x:V} (hr:qMk X σ fn.results.toList=some x):∃ v,(results fn a.tmps).run X.P w = .ok v w∧RepV E x v:=by
 unfold qMk at hr
 cases hx:qP8 X σ fn.results.toList with
 | none=>rw [hx] at hr;cases hr
 | some xs =>
  rw [hx] at hr
  simp only [Option.map_some,Option.some.injEq] at hr
  subst hr
  obtain⟨vs,hvs,hl,hrl⟩:=qHe hT h hx
  refine⟨_,?_,qMl (vs:=vs.toArray) (by omega) (by omega)⟩
  unfold results
  rw [Array.mapM_eq_mapM_toList]
  simp only [Sem.run_bind,map_eq_pure_bind]
  erw [hvs]
  rfl
end
def qQ8:Nat→List V→List (Nat × V)
 | _,[]=>[]
 | k,x::xs=>(k,x)::qQ8 (k+1) xs
theorem qJg:∀ (xs:List V) (k t:Nat),qZi (qQ8 k xs) t=if k≤t then xs.getD (t-k) .undef else .undef
 | [],k,t=>by simp [qQ8,qZi]
 | x::xs,k,t=>by
  simp only [qQ8,qZi]
  by_cases e:k=t
  ·simp_all
  ·rw [qJg xs (k+1) t]
   grind
def qIx (X:Env1) (σ:St) (rs:List ResultVar):Out→Prop
 | .ret x=>qMk X σ rs=some x
 | .panic _=>False
def zD5 (X:Env1) (rs:List ResultVar) (out:Out) (objs':List (Nat × Ob)):AEx→St→Prop
 | .normal,σ=>qIx X σ rs out∧qWu objs' σ.objs
 | .ret,σ=>qIx X σ rs out∧qWu objs' σ.objs
 | .panic p,σ=>(match out with | .ret _=>False | .panic q=>p=q)∧qWu objs' σ.objs
 | .exit _,_=>False
theorem AC.of_body {X : Env1} (hT : TOK X.P X.T) {f : Nat} {fn : Func} {c : Code} (hf : X.P.funcs[f]? = some fn) (hb : fn.body = some c) (hname : (fn.name == "runtime.NumGoroutine") = false) (hnt : fn.ntmps = X.nt)
  {args:List V} {objs:List (Nat × Ob)} {out:Out} {objs':List (Nat × Ob)} {ms:List Nat} (hgiven:X.given=qQa objs++ms) (hal:args.length≤X.nt)
  (hms1:qPg ms (qWv args objs)) (hms2:∀ n∈ms,n ∉ qQa objs) (hms3:∀ n∈ms,n ∉ qQa objs')
  (hna:qPg (qQg args++qZg objs) (qQa objs++ms)) (hno:qPg (out.names++qZg objs') ((qQa objs++ms)++qQa objs'))
  (h:AWP X c ⟨qQ8 0 args,objs,qQa objs++ms⟩ (zD5 X fn.results.toList out objs')):AC X.P X.gl f args objs out objs':=by
 have hna:=qJ6 hna
 have hno:=qJ6 hno
 have hms1:=qJ6 hms1
 have hout:∀ n,n∈(qQa objs++ms)++qQa objs'→n∈qQa objs∨n∈qQa objs'∨n∈qWv args objs:=by
  grind
 have hnone:∀ {l:List (Nat × Ob)} {n:Nat},n ∉ qQa l→qQc l n=none:=by
  intro l n hn
  cases e:qQc l n with
  | none=>rfl
  | some o=>grind [absurd,qQe]
 refine⟨⟨fn,hf,hname,by rw [hb];rfl⟩,fun n hn=>hout n (hno n (by simp [hn])),fun m o hm n hn=>hout n (hno n (by grind [qZw])),?_⟩
 intro E w vs hB hl hr
 refine calls_of_wp hf hb ?_
 let C:Ctx:=⟨E,w,objs,ms,X.nt,[]⟩
 have hC:COK X C:=⟨hB.glob,rfl,fun n o hn=>by rw [hgiven];grind,fun n hn=>by rw [hgiven];grind,by simp [C,qVl]⟩
 have hG:Ga C E ⟨qQ8 0 args,objs,qQa objs++ms⟩ { tmps:=vs.toArray++Array.replicate (fn.ntmps-vs.toArray.size) undef,defers:=[] } w:=by
  refine⟨?_,?_,⟨rfl,by simp [C,qVl]⟩,hB.heap,hB.obs,hB.apart,?_,?_,fun n o hn=>List.mem_append.2 (.inl (qQe hn)),Nat.le_refl _,⟨rfl,rfl,rfl⟩,fun _ _ _=>⟨fun _=>rfl,rfl⟩,Hle.refl _,fun n o b hn hb _=>⟨n,o,hn,hb⟩,fun n o _=>EExt.refl _ _,
   fun n hn=>⟨List.mem_append.2 (.inr hn),hnone (hms2 n hn),rfl,rfl,rfl⟩⟩
  ·intro t
   rw [qJg]
   simp only [Nat.zero_le,if_true,Nat.sub_zero]
   by_cases ht:t<args.length
   ·have hra:=RepVL.iff.1 hr t args[t] (List.getElem?_eq_getElem ht)
    obtain⟨v,hv,hrv⟩:=hra
    have h1:args.getD t .undef=args[t]:=by simp_all
    rw [h1]
    have h2:(vs.toArray++Array.replicate (fn.ntmps-vs.toArray.size) undef).getD t undef=v:=by
     rw [Array.getD_eq_getD_getElem?,Array.getElem?_append_left (by simp;omega)]
     simp [hv]
    rw [h2]
    exact hrv
   grind [List.getD,RepV]
  ·grind
  ·intro t n hn
   refine hna n ?_
   rw [List.mem_append]
   left
   have:n∈qZn (qQ8 0 args):=qWw hn
   have key:∀ (xs:List V) (k:Nat),n∈qZn (qQ8 k xs)→n∈qQg xs:=by
    intro xs
    induction xs with
    | nil=>intro k h;simp [qQ8,qZn] at h
    | cons x xs ih =>
     intro k h
     simp only [qQ8,qZn,List.mem_append] at h
     simp only [qQg,List.mem_append]
     rcases h with h|h
     ·exact .inl h
     ·exact .inr (ih (k+1) h)
   exact key args 0 this
  grind [qQe,qZw]
 refine wp_mono (h C E _ w hC hG) ?_
 rintro e a' w' ⟨E',σ',ae,hG',hrel,hq⟩
 -- the hidden side behind the call
 let E2:Env:=⟨E'.H,fun n=>if n∈qQa objs++qQa objs' then E'.g n else E.g n,fun n=>if n∈qQa objs++qQa objs' then E'.ver n else E.ver n,fun n=>if n∈qQa objs++qQa objs' then E'.sz n else E.sz n⟩
 have hE2:∀ n∈qQa objs++qQa objs',E2.g n=E'.g n∧E2.ver n=E'.ver n∧E2.sz n=E'.sz n:=by
  intro n hn
  have hn':n∈qQa objs∨n∈qQa objs':=List.mem_append.1 hn
  simp [E2,hn']
 have hEE0:∀ n∈qQa objs++qQa objs',EExt E' E2 n:=fun n hn=>EExt.of_eq (hE2 n hn).1 (hE2 n hn).2.1 (hE2 n hn).2.2
 have hEE:∀ n∈(qQa objs++ms)++qQa objs',EExt E' E2 n:=by
  intro n hn
  by_cases hm:n∈qQa objs++qQa objs'
  ·exact hEE0 n hm
  ·have hn':n∈ms:=by
    rcases List.mem_append.1 hn with hn|hn
    ·rcases List.mem_append.1 hn with hn|hn
     ·exact absurd (List.mem_append.2 (.inl hn)) hm
     ·exact hn
    ·exact absurd (List.mem_append.2 (.inr hn)) hm
   have hm':¬ (n∈qQa objs∨n∈qQa objs'):=fun h=>hm (List.mem_append.2 h)
   obtain⟨_,_,k3,k4,k5⟩:=hG'.keep n hn'
   exact EExt.of_eq (by simp [E2,hm'];exact k3.symm) (by simp [E2,hm'];exact k4.symm) (by simp [E2,hm'];exact k5.symm)
 have hdone:qWu objs' σ'.objs→qPf E w objs E2 w' objs':=by
  intro hsub
  have hsub:=qZ0 hsub
  have hk':∀ n o,qQc objs' n=some o→n∈qQa objs++qQa objs':=fun n o hn=>List.mem_append.2 (.inr (qQe hn))
  refine⟨fun b hb=>hG'.heap b hb,?_,?_,hG'.hle,hG'.grown,hG'.rest,?_,?_,?_,?_⟩
  ·intro n o hn
   have hm:=hk' n o hn
   exact (hG'.objs n o (hsub n o hn)).mono (Hle.refl _) (hE2 n hm).1 (hE2 n hm).2.1 (hE2 n hm).2.2 (fun m hm'=>hEE m (hno m (by simp [(qZw hn).2 m hm']))) (fun b _=>⟨rfl,rfl⟩)
  ·intro n m o o' hn hm hne b hb
   rw [(hE2 n (hk' n o hn)).1] at hb
   rw [(hE2 m (hk' m o' hm)).1]
   exact hG'.apart n m o o' (hsub n o hn) (hsub m o' hm) hne b hb
  ·intro b hb hnb
   exact hG'.same b hb (by rintro⟨n,o,hn,hbn⟩;exact hnb n o hn hbn)
  ·intro n o b hn hb
   rw [(hE2 n (hk' n o hn)).1] at hb
   by_cases hlt:b<w.heap.size
   ·obtain⟨m,o',hm,hbm⟩:=hG'.own n o b (hsub n o hn) hb hlt
    exact .inr ⟨m,o',hm,hbm⟩
   ·exact .inl (by omega)
  ·intro n o hn
   have hm:n∈qQa objs++qQa objs':=List.mem_append.2 (.inl (qQe hn))
   exact (hG'.ext n o hn).trans (hEE0 n hm)
  ·intro n h1 h2
   have hn:¬ (n∈qQa objs∨n∈qQa objs'):=by
    rintro (hn|hn)
    ·obtain⟨o,ho⟩:=qQs hn;rw [ho] at h1;cases h1
    ·obtain⟨o,ho⟩:=qQs hn;rw [ho] at h2;cases h2
   simp [E2,hn]
 have hret:qIx X σ' fn.results.toList out→qWu objs' σ'.objs →
   a'.defers=[] ∧ ∃ v,(results fn a'.tmps).run X.P w' = .ok v w' ∧ ∃ E',qPf E w objs E' w' objs'∧qD0 E' out (.returned v):=by
  intro ho hsub
  cases out with
  | panic p=>exact ho.elim
  | ret x =>
   obtain⟨v,hv,hrv⟩:=qMm hT hG' ho
   exact⟨hG'.defers.1,v,hv,E2,hdone hsub,v,rfl,RepV.mono (E:=E') (E':=E2) (Hle.refl _) x v (fun n hn=>hEE n (hno n (by simp [Out.names,hn]))) hrv⟩
 cases ae with
 | normal=>cases hrel;exact hret hq.1 hq.2
 | ret=>cases hrel;exact hret hq.1 hq.2
 | exit i=>exact hq.elim
 | panic p =>
  obtain⟨v,rfl,hv⟩:=hrel
  obtain⟨ho,hsub⟩:=hq
  cases out with
  | ret x=>exact ho.elim
  | panic q =>
   subst ho
   exact⟨hG'.defers.1,E2,hdone hsub,v,rfl,hv⟩
def qLq (n ver:Nat) (es:List (List PV)):V→V
 | .arr m v len=>if m=n∧v=ver then .pv (.slice (es.take len)) else .arr m v len
 | x=>x
def qLr (n ver:Nat) (es:List (List PV)):List V→List V
 | []=>[]
 | x::xs=>qLq n ver es x::qLr n ver es xs
def qD4 (n ver:Nat) (es:List (List PV)):V→V
 | .agg cs=>qXm (qLr n ver es cs)
 | x=>qLq n ver es x
def zX2 (n ver:Nat) (es:List (List PV)):List (Nat × V)→List (Nat × V)
 | []=>[]
 | (t,x)::r=>(t,qD4 n ver es x)::zX2 n ver es r
def qKd (n ver:Nat) (es:List (List PV)):Ob→Ob
 | .box cs => .box (qLr n ver es cs)
 | o=>o
def zVp (n ver:Nat) (es:List (List PV)):List (Nat × Ob)→List (Nat × Ob)
 | []=>[]
 | (k,o)::r=>if k=n then zVp n ver es r else (k,qKd n ver es o)::zVp n ver es r
def St.frz (σ:St) (n ver:Nat) (es:List (List PV)):St:=⟨zX2 n ver es σ.slots,zVp n ver es σ.objs,σ.used⟩
theorem qHf (n ver:Nat) (es:List (List PV)) (cs:List V):(qLr n ver es cs).length=cs.length:=by
 induction cs with
 | nil=>rfl
 | cons c cs ih=>simp [qLr,ih]
theorem qB4 (n ver:Nat) (es:List (List PV)) (l:List (Nat × V)) (t:Nat):qZi (zX2 n ver es l) t=qD4 n ver es (qZi l t):=by
 induction l with
 | nil=>rfl
 | cons p r ih =>
  simp only [zX2,qZi,ih]
  split<;>rfl
theorem qWb (n ver:Nat) (es:List (List PV)) (l:List (Nat × Ob)) (m:Nat):qQc (zVp n ver es l) m=if m=n then none else (qQc l m).map (qKd n ver es):=by
 induction l with
 | nil=>simp [zVp,qQc]
 | cons p r ih =>
  obtain⟨k,x⟩:=p
  simp only [zVp,qQc]
  by_cases e:k=n
  ·grind
  ·simp only [e,if_false,qQc,ih]
   grind
section
variable {C:Ctx} {E:Env} {σ:St} {a:Act} {w:World}
theorem qA6 (n ver:Nat) (es:List (List PV)) (x:V):∀ m∈(qLq n ver es x).names,m∈x.names:=by
 intro m hm
 unfold qLq at hm
 grind [V.names]
theorem qA7 (n ver:Nat) (es:List (List PV)) (cs:List V):∀ m∈qQg (qLr n ver es cs),m∈qQg cs:=by
 induction cs with
 | nil=>intro m hm;exact hm
 | cons c cs ih =>
  grind [qLr,qQg,qA6]
theorem qIy (n ver:Nat) (es:List (List PV)) (x:V):∀ m∈(qD4 n ver es x).names,m∈x.names:=by
 intro m hm
 unfold qD4 at hm
 grind [V.names,qA7,qJ8,qA6]
theorem Ga.frz (h:Ga C E σ a w) {n ver sz ty:Nat} {es:List (List PV)} (ho:qQc σ.objs n=some (.arr ver sz ty (pvE es))):∃ E',Ga C E' (σ.frz n ver es) a w:=by
 have hob:=h.objs n _ ho
 obtain⟨hver,hsz,hlen,_⟩:=id hob
 obtain⟨ad,cap,hgn,hlc,hlm,hh⟩:=qV8 hob
 have hpl:(pvE es).length=es.length:=by simp [pvE]
 rw [hpl] at hgn hlc hlm
 -- the cells that are known from now on
 have hH:∃ H':Hp,Hle E.H H'∧HeapOK { E with H:=H' } w∧(∀ b,(∀ b',blk (E.g n)=some b'→b≠b')→H' b=E.H b)∧(es=[] ∨ ∃ b,ad=some ⟨b,0,none⟩∧RepE H' es (H' b)):=by
  rcases hh with ⟨h1,h2,h3⟩|⟨b,cur,hb,hcur,hcs,hr,hfree⟩
  ·exact⟨E.H,Hle.refl _,h.heap,fun _ _=>rfl,.inl (by simp_all)⟩
  ·let H':Hp:=fun b'=>if b'=b then cur.toList.map sn else E.H b'
   have hHle:Hle E.H H':=by
    intro b'
    grind
   refine⟨H',hHle,?_,?_,.inr ⟨b,hb,?_⟩⟩
   ·intro b' hb'
    by_cases e:b'=b
    ·subst e
     exact⟨cur,ty,(0,0),hcur,by simp [H',Msk.sn],.inl rfl⟩
    ·have hb'':E.H b'≠[]:=by grind
     obtain⟨c,T,fr,hc,hp⟩:=h.heap b' hb''
     grind
   ·intro b' hne
    have:b'≠b:=hne b (by rw [hgn,hb];rfl)
    grind
   ·have hre:=(RepVE.toPv (qVq es) hr).sn
    have:H' b=cur.toList.map sn:=by simp [H']
    rw [this]
    exact RepE.mono hHle es _ _ List.prefix_rfl hre
 obtain⟨H',hHle,hheap,hsame,hdata⟩:=hH
 have hE:∀ m,EExt E { E with H:=H' } m:=fun m=>EExt.of_eq rfl rfl rfl
 have hc:=h.change (E':={ E with H:=H' }) n none (qPe σ.objs n) σ.used none .undef undef (fun m=>qVp _ _ _) hHle (fun _ _=>⟨rfl,rfl,rfl⟩) (fun _=>hE n) (fun _=>⟨_,ho⟩) (Nat.le_refl _) ⟨rfl,rfl,rfl⟩
  (fun b _ hne=>⟨rfl,hsame b (fun b' hb' e=>hne _ ho (e ▸ hb'))⟩) hheap (fun o e=>by cases e) (fun o b e=>by cases e) (fun _ h=>h) (by simp [RepV]) (by simp [V.names]) (by simp)
 have hv1:∀ (x:V) (v:Value),RepV { E with H:=H' } x v→RepV { E with H:=H' } (qLq n ver es x) v:=by
  intro x v hx
  unfold qLq
  split
  ·rename_i m vv len
   split
   ·rename_i e
    obtain⟨rfl,rfl⟩:=e
    simp only [RepV] at hx
    obtain⟨_,_,hx⟩:=hx
    obtain⟨a',L,cap',hg',hv,hle⟩:=hx hver.symm
    rw [hgn] at hg'
    cases hg'
    have htl:(es.take len).length=len:=by simp;omega
    simp only [RepV,RepP]
    refine⟨ad,cap,by rw [hv,htl],by omega,by omega,?_⟩
    rcases hdata with rfl|⟨b,hb,hr⟩
    ·simp
    ·exact .inr ⟨b,0,hb,by simpa using hr.takeE len⟩
   ·exact hx
  ·exact hx
 have hvL:∀ (cs:List V) (vs:List Value),RepVL { E with H:=H' } cs vs→RepVL { E with H:=H' } (qLr n ver es cs) vs:=by
  intro cs
  induction cs with
  | nil=>intro vs _;simp [qLr,RepVL]
  | cons c cs ih =>
   intro vs hr
   cases vs with
   | nil=>simp [RepVL] at hr
   | cons v vs =>
    simp only [RepVL] at hr
    simp only [qLr,RepVL]
    exact⟨hv1 c v hr.1,ih vs hr.2⟩
 refine⟨{ E with H:=H' },?_,hc.size,hc.defers,hc.heap,?_,?_,?_,?_,hc.usedG,hc.grown,hc.rest,hc.same,hc.hle,?_,hc.ext,fun k hk=>⟨(hc.keep k hk).1,?_,(hc.keep k hk).2.2⟩⟩
 ·intro t
  simp only [St.frz,qB4]
  have hx:=hc.slots t
  simp only [qAd] at hx
  unfold qD4
  split
  ·rename_i cs e
   rw [e] at hx
   simp only [RepV] at hx
   obtain⟨vs,hv,hl,hr⟩:=hx
   have hv:a.tmps.getD t undef = .agg vs.toArray:=hv
   rw [hv]
   exact qW6 (by rw [hl,qHf]) (hvL cs vs hr)
  ·exact hv1 _ _ hx
 ·intro m o hm
  simp only [St.frz,qWb] at hm
  split at hm
  ·cases hm
  ·rename_i hne
   cases hq:qQc σ.objs m with
   | none=>rw [hq] at hm;cases hm
   | some q =>
    rw [hq] at hm
    simp only [Option.map_some,Option.some.injEq] at hm
    subst hm
    have hq':qQc (qPe σ.objs n) m=some q:=by rw [qVp,if_neg hne,hq]
    have hok:=hc.objs m q hq'
    cases q with
    | box cs =>
     obtain⟨b,c,T,h1,h2,h3,h4,h5⟩:=hok
     exact⟨b,c,T,h1,h2,by rw [h3,qHf],hvL cs _ h4,h5⟩
    | arr v s t es'=>exact hok
    | smap s es=>exact hok
    | cache D F=>exact hok
    | siter l p=>exact hok
    | raw v x=>exact hok
    | grow v s t es'=>exact hok
 ·intro m m' o o' hm hm' hne b hb
  simp only [St.frz,qWb] at hm hm'
  split at hm
  ·cases hm
  ·split at hm'
   ·cases hm'
   ·cases hq:qQc σ.objs m with
    | none=>rw [hq] at hm;cases hm
    | some q =>
     cases hq':qQc σ.objs m' with
     | none=>rw [hq'] at hm';cases hm'
     | some q'=>exact h.apart m m' q q' hq hq' hne b hb
 ·intro t m hm
  simp only [St.frz,qB4] at hm
  exact h.usedS t m (qIy n ver es _ m hm)
 ·intro m o hm
  simp only [St.frz,qWb] at hm
  split at hm
  ·cases hm
  ·cases hq:qQc σ.objs m with
   | none=>rw [hq] at hm;cases hm
   | some q =>
    rw [hq] at hm
    simp only [Option.map_some,Option.some.injEq] at hm
    subst hm
    refine⟨(h.usedO m q hq).1,fun k hk=>(h.usedO m q hq).2 k ?_⟩
    cases q with
    | box cs=>exact qA7 n ver es cs k hk
    | arr v s t es'=>exact hk
    | smap s es=>exact hk
    | cache D F=>exact hk
    | siter l p=>exact hk
    | raw v x=>exact hk
    | grow v s t es'=>exact hk
 ·intro m o b hm hb hlt
  simp only [St.frz,qWb] at hm
  split at hm
  ·cases hm
  ·cases hq:qQc σ.objs m with
   | none=>rw [hq] at hm;cases hm
   | some q=>exact h.own m q b hq hb hlt
 ·simp only [St.frz,qWb]
  have:=(h.keep k hk).2.1
  split
  ·rfl
  ·rw [this];rfl
end
theorem qAm {val:Operand→V} {op:Op} (h:(match op with | .call _=>false|_=>true)=true):qQ1 val op=none:=by
 unfold qQ1
 grind
section
variable {X:Env1} {draw:Bool} {ops:List Oper} {K:St→List Eff→Prop} {Qp:PV→St→Prop} {o:Oper} {rest:List Oper} {σ:St} {tr:List Eff}
theorem zQo {c:Operand} {x y:Code} {Q:AEx→St→Prop} {v:V} (hv:σ.val X.gl c=v) (h:zWe v (AWP X x σ Q) (AWP X y σ Q)):AWP X (.cond c x y) σ Q:=by
 intro C E a w hC hG
 have hr:=qQd hG hC.glob c
 rw [hv] at hr
 unfold zWe at h
 split at h
 ·exact wp_cond_split (qZe hr) (fun hb=>h.1 hb C E a w hC hG) (fun hb=>h.2 hb C E a w hC hG)
 ·obtain⟨d,hr,hd⟩:=hr
  exact wp_cond_split hr (fun hb=>h.1 (hd hb) C E a w hC hG) (fun hb=>h.2 C E a w hC hG)
 ·cases h
end
theorem pvE_app (a b:List (List PV)):pvE a++pvE b=pvE (a++b):=by simp [pvE]
theorem pvE_len (a:List (List PV)):(pvE a).length=a.length:=by simp [pvE]
section
variable {X:Env1} {ops rest:List Oper} {o:Oper} {σ:St} {K:St→List Eff→Prop} {Qp:PV→St→Prop} {tr:List Eff}
end
def qKe (X:Env1) (b:Code) (Q:AEx→St→Prop):Nat→St→Prop
 | 0,_=>False
 | n+1,σ=>AWP X b σ (qP7 (qKe X b Q n) Q)
theorem qHg {X:Env1} {b:Code} {Q:AEx→St→Prop} {n:Nat} {σ:St} (h:AWP X b σ (qP7 (qKe X b Q n) Q)):qKe X b Q (n+1) σ:=h
theorem qD5 {X:Env1} {b:Code} {Q:AEx→St→Prop} {C:Ctx} (hC:COK X C):∀ (n:Nat) (σ:St) (E:Env) (a:Act) (w:World),Ga C E σ a w→qKe X b Q n σ→Code.rounds X.P b (qF5 C Q) n a w
 | 0,_,_,_,_,_,h=>h.elim
 | n+1,σ,E,a,w,hG,h=>by
  refine wp_mono (h C E a w hC hG) ?_
  rintro e a' w' ⟨E',σ',ae,hG',hrel,hq⟩
  cases ae with
  | normal=>cases hrel;exact qD5 hC n σ' E' a' w' hG' hq
  | exit i=>cases hrel;exact⟨E',σ',.exit i,hG',rfl,hq⟩
  | ret=>cases hrel;exact⟨E',σ',.ret,hG',rfl,hq⟩
  | panic p=>obtain⟨v,rfl,hv⟩:=hrel;exact⟨E',σ',.panic p,hG',⟨v,rfl,hv⟩,hq⟩
theorem zQp (n:Nat) {X:Env1} {b:Code} {Q:AEx→St→Prop} {σ:St} (h:qKe X b Q n σ):AWP X (.loop b) σ Q :=
 fun _ E a w hC hG=>wp_loop_rounds n (qD5 hC n σ E a w hG h)
section
variable {X:Env1} {C:Ctx}
end
section
variable {C:Ctx} {E:Env} {σ:St} {a:Act} {w:World}
def qPh (K:List PV→PV) (n:Nat) (ps:List PV):V→V
 | .loc m off=>if m=n then .pv (K (ps.drop off)) else .loc m off
 | x=>x
def qMn (K:List PV→PV) (n:Nat) (ps:List PV):List V→List V
 | []=>[]
 | x::xs=>qPh K n ps x::qMn K n ps xs
def zX3 (K:List PV→PV) (n:Nat) (ps:List PV):List (Nat × V)→List (Nat × V)
 | []=>[]
 | (t,x)::r=>(t,qPh K n ps x)::zX3 K n ps r
def qB5 (K:List PV→PV) (n:Nat) (ps:List PV):Ob→Ob
 | .box cs => .box (qMn K n ps cs)
 | o=>o
def zVq (K:List PV→PV) (n:Nat) (ps:List PV):List (Nat × Ob)→List (Nat × Ob)
 | []=>[]
 | (k,o)::r=>if k=n then zVq K n ps r else (k,qB5 K n ps o)::zVq K n ps r
def St.frb (K:List PV→PV) (σ:St) (n:Nat) (ps:List PV):St:=⟨zX3 K n ps σ.slots,zVq K n ps σ.objs,σ.used⟩
theorem qP9 (K:List PV→PV) (n:Nat) (ps:List PV) (cs:List V):(qMn K n ps cs).length=cs.length:=by
 induction cs with
 | nil=>rfl
 | cons c cs ih=>simp [qMn,ih]
theorem qB6 (K:List PV→PV) (n:Nat) (ps:List PV) (l:List (Nat × V)) (t:Nat):qZi (zX3 K n ps l) t=qPh K n ps (qZi l t):=by
 induction l with
 | nil=>rfl
 | cons p r ih =>
  simp only [zX3,qZi,ih]
  split<;>rfl
theorem qWc (K:List PV→PV) (n:Nat) (ps:List PV) (l:List (Nat × Ob)) (m:Nat):qQc (zVq K n ps l) m=if m=n then none else (qQc l m).map (qB5 K n ps):=by
 induction l with
 | nil=>simp [zVq,qQc]
 | cons p r ih =>
  obtain⟨k,x⟩:=p
  simp only [zVq,qQc]
  by_cases e:k=n
  ·grind
  ·simp only [e,if_false,qQc,ih]
   grind
theorem qA8 (K:List PV→PV) (n:Nat) (ps:List PV) (x:V):∀ m∈(qPh K n ps x).names,m∈x.names:=by
 intro m hm
 unfold qPh at hm
 grind [V.names]
theorem qIz (K:List PV→PV) (n:Nat) (ps:List PV) (cs:List V):∀ m∈qQg (qMn K n ps cs),m∈qQg cs:=by
 induction cs with
 | nil=>intro m hm;exact hm
 | cons c cs ih =>
  grind [qMn,qQg,qA8]
def flgs:List PV→List PV→Prop
 | [],[]=>True
 | .bool c::qs,.flg b::ps=>(c=true→b=true)∧flgs qs ps
 | q::qs,p::ps=>(q=p ∧ ∀ b,p ≠ .flg b)∧flgs qs ps
 | _,_=>False
def kn:List PV→List Value→List Value
 | [],l=>l.map sn
 | _,[]=>[]
 | .flg b::ps,_::l=>mark b::kn ps l
 | _::ps,v::l=>sn v::kn ps l
theorem Msk.cons {u v:Value} {l m:List Value} (h:Msk l m) (h1:(u=v∧(∀ b,u≠mark b))∨u=qK8 ∨ ∃ b c,u=mark b∧v = .bool c∧(c=true→b=true)):Msk (u::l) (v::m):=by
 refine⟨by have:=h.1;simp;omega,fun i x hi h2 h3 => ?_,fun i b hi => ?_⟩
 ·cases i with
  | zero =>
   simp_all
  | succ i=>simpa using h.2.1 i x (by simp_all) h2 h3
 ·cases i with
  | zero =>
   simp at hi
   subst hi
   rcases h1 with ⟨_,h1⟩|h1|⟨b',c,h1,rfl,h2⟩
   ·grind
   ·grind [absurd,zQc]
   ·rw [qG4 h1];simp_all
  | succ i=>simpa using h.2.2 i b (by simp_all)
theorem qRa (v:Value):(sn v=v ∧ ∀ b,sn v≠mark b)∨sn v=qK8:=by
 grind [sn,qK8,zWb,zQd]
theorem zQq {H:Hp} : ∀ {qs ps:List PV} {l:List Value},flgs qs ps→RepL H qs l→Msk (kn ps l) l∧RepK H ps (kn ps l)
 | [],[],l,_,_=>⟨by simp [kn,Msk.sn],by simp [RepK]⟩
 | [],_::_,_,h,_=>by grind [flgs]
 | q::qs,[],_,h,_=>by cases q<;>simp [flgs] at h
 | q::qs,p::ps,[],h,r=>by grind [RepL]
 | q::qs,p::ps,v::l,h,r=>by
  by_cases hp:∃ b,p = .flg b
  ·obtain⟨b,rfl⟩:=hp
   cases q<;>simp [flgs] at h
   rename_i c
   obtain⟨h1,h2⟩:=zQq h.2 r.2
   have hv:=r.1
   exact⟨h1.cons (.inr (.inr ⟨b,c,rfl,hv,h.1⟩)),RepK.cons (.inr ⟨b,rfl,rfl⟩) h2⟩
  ·have hp:∀ b,p ≠ .flg b:=fun b e=>hp ⟨b,e⟩
   have hf:q=p∧flgs qs ps:=by
    rw [flgs.eq_3 _ _ _ _ (fun c b _ e=>hp b e)] at h
    simp_all
   obtain⟨rfl,hf⟩:=hf
   obtain⟨h1,h2⟩:=zQq hf r.2
   rw [kn.eq_4 _ _ _ _ (fun b e=>hp b e)]
   refine⟨h1.cons ?_,RepK.cons (.inl ⟨?_,hp⟩) h2⟩
   ·grind [qRa]
   ·rw [r.1.sn];exact r.1
def qD6 (K:List PV→PV) (qs ps:List PV):Prop :=
 ∀ (H:Hp) (cur:List Value),RepL H qs cur→∃ l,Msk l cur∧(∀ v∈l,True) ∧ ∀ (b:Nat) (H':Hp),Hle H H'→H' b=l→∀ off,RepP H' (K (ps.drop off)) (.pointer (some ⟨b,off,none⟩))
theorem qRb {qs ps:List PV} (h:flgs qs ps):qD6 PV.nptr qs ps:=by
 intro H cur r
 obtain⟨h1,h2⟩:=zQq h r
 refine⟨kn ps cur,h1,fun _ _=>trivial,fun b H' hh e off => ?_⟩
 exact⟨b,off,rfl,by rw [e];exact RepK.drop off (RepK.mono hh ps _ _ List.prefix_rfl h2)⟩
theorem Ga.frb (h:Ga C E σ a w) {K:List PV→PV} {n:Nat} {qs ps:List PV} (ho:qQc σ.objs n=some (.box (pvL qs))) (hcan:qD6 K qs ps):∃ E',Ga C E' (σ.frb K n ps) a w:=by
 obtain⟨b,cur,T,hgn,hcur,hcs,hr,hfree⟩:=h.objs n _ ho
 obtain⟨l,hl1,_,hl2⟩:=hcan E.H cur.toList (RepVL.toPv (qLz qs) hr)
 let H':Hp:=fun b'=>if b'=b then l else E.H b'
 have hHle:Hle E.H H':=by
  intro b'
  grind
 have hheap:HeapOK { E with H:=H' } w:=by
  intro b' hb'
  by_cases e:b'=b
  ·grind
  ·have hb'':E.H b'≠[]:=by grind
   obtain⟨c,T,fr,hc,hp⟩:=h.heap b' hb''
   grind
 have hsame:∀ b',b'≠b→H' b'=E.H b':=by grind
 have hE:∀ m,EExt E { E with H:=H' } m:=fun m=>EExt.of_eq rfl rfl rfl
 have hc:=h.change (E':={ E with H:=H' }) n none (qPe σ.objs n) σ.used none .undef undef (fun m=>qVp _ _ _) hHle (fun _ _=>⟨rfl,rfl,rfl⟩) (fun _=>hE n) (fun _=>⟨_,ho⟩) (Nat.le_refl _) ⟨rfl,rfl,rfl⟩
  (fun b' _ hne=>⟨rfl,hsame b' (fun e=>hne _ ho (by rw [e,hgn];rfl))⟩) hheap (fun o e=>by cases e) (fun o b e=>by cases e) (fun _ h=>h) (by simp [RepV]) (by simp [V.names]) (by simp)
 have hv1:∀ (x:V) (v:Value),RepV { E with H:=H' } x v→RepV { E with H:=H' } (qPh K n ps x) v:=by
  intro x v hx
  unfold qPh
  grind [RepV]
 have hvL:∀ (cs:List V) (vs:List Value),RepVL { E with H:=H' } cs vs→RepVL { E with H:=H' } (qMn K n ps cs) vs:=by
  intro cs
  induction cs with
  | nil=>simp [qMn,RepVL]
  | cons c cs ih =>
   intro vs hr
   cases vs with
   | nil=>grind [RepVL]
   | cons v vs =>
    grind [RepVL,qMn]
 refine⟨{ E with H:=H' },?_,hc.size,hc.defers,hc.heap,?_,?_,?_,?_,hc.usedG,hc.grown,hc.rest,hc.same,hc.hle,?_,hc.ext,fun k hk=>⟨(hc.keep k hk).1,?_,(hc.keep k hk).2.2⟩⟩
 ·intro t
  simp only [St.frb,qB6]
  exact hv1 _ _ (hc.slots t)
 ·intro m o hm
  simp only [St.frb,qWc] at hm
  split at hm
  ·cases hm
  ·rename_i hne
   cases hq:qQc σ.objs m with
   | none=>rw [hq] at hm;cases hm
   | some q =>
    rw [hq] at hm
    simp only [Option.map_some,Option.some.injEq] at hm
    subst hm
    have hq':qQc (qPe σ.objs n) m=some q:=by rw [qVp,if_neg hne,hq]
    have hok:=hc.objs m q hq'
    cases q with
    | box cs =>
     obtain⟨b,c,T,h1,h2,h3,h4,h5⟩:=hok
     exact⟨b,c,T,h1,h2,by rw [h3,qP9],hvL cs _ h4,h5⟩
    | arr v s t es'=>exact hok
    | smap s es=>exact hok
    | cache D F=>exact hok
    | siter l p=>exact hok
    | raw v x=>exact hok
    | grow v s t es'=>exact hok
 ·intro m m' o o' hm hm' hne b hb
  simp only [St.frb,qWc] at hm hm'
  split at hm
  ·cases hm
  ·split at hm'
   ·cases hm'
   ·cases hq:qQc σ.objs m with
    | none=>rw [hq] at hm;cases hm
    | some q =>
     cases hq':qQc σ.objs m' with
     | none=>rw [hq'] at hm';cases hm'
     | some q'=>exact h.apart m m' q q' hq hq' hne b hb
 ·intro t m hm
  simp only [St.frb,qB6] at hm
  exact h.usedS t m (qA8 K n ps _ m hm)
 ·intro m o hm
  simp only [St.frb,qWc] at hm
  split at hm
  ·cases hm
  ·cases hq:qQc σ.objs m with
   | none=>rw [hq] at hm;cases hm
   | some q =>
    rw [hq] at hm
    simp only [Option.map_some,Option.some.injEq] at hm
    subst hm
    refine⟨(h.usedO m q hq).1,fun k hk=>(h.usedO m q hq).2 k ?_⟩
    cases q with
    | box cs=>exact qIz K n ps cs k hk
    | arr v s t es'=>exact hk
    | smap s es=>exact hk
    | cache D F=>exact hk
    | siter l p=>exact hk
    | raw v x=>exact hk
    | grow v s t es'=>exact hk
 ·intro m o b hm hb hlt
  simp only [St.frb,qWc] at hm
  split at hm
  ·cases hm
  ·cases hq:qQc σ.objs m with
   | none=>rw [hq] at hm;cases hm
   | some q=>exact h.own m q b hq hb hlt
 ·simp only [St.frb,qWc]
  have:=(h.keep k hk).2.1
  split
  ·rfl
  ·rw [this];rfl
end
theorem Ga.entry {X:Env1} {fn:Func} (hnt:fn.ntmps=X.nt) {args:List V} {objs:List (Nat × Ob)} {ms:List Nat} (hal:args.length≤X.nt) (hms2:∀ n∈ms,n ∉ qQa objs)
  (hna:qPg (qQg args++qZg objs) (qQa objs++ms)) {E:Env} {w:World} {vs:List Value} (hB:qMe X.gl E w objs) (hl:vs.length=args.length) (hr:RepVL E args vs) :
  Ga ⟨E,w,objs,ms,X.nt,[]⟩ E ⟨qQ8 0 args,objs,qQa objs++ms⟩ { tmps:=vs.toArray++Array.replicate (fn.ntmps-vs.toArray.size) undef,defers:=[] } w:=by
 have hna:=qJ6 hna
 have hnone:∀ {l:List (Nat × Ob)} {n:Nat},n ∉ qQa l→qQc l n=none:=by
  intro l n hn
  cases e:qQc l n with
  | none=>rfl
  | some o=>grind [absurd,qQe]
 refine⟨?_,?_,⟨rfl,by simp [qVl]⟩,hB.heap,hB.obs,hB.apart,?_,?_,fun n o hn=>List.mem_append.2 (.inl (qQe hn)),Nat.le_refl _,⟨rfl,rfl,rfl⟩,fun _ _ _=>⟨fun _=>rfl,rfl⟩,Hle.refl _,fun n o b hn hb _=>⟨n,o,hn,hb⟩,fun n o _=>EExt.refl _ _,
  fun n hn=>⟨List.mem_append.2 (.inr hn),hnone (hms2 n hn),rfl,rfl,rfl⟩⟩
 ·intro t
  rw [qJg]
  simp only [Nat.zero_le,if_true,Nat.sub_zero]
  by_cases ht:t<args.length
  ·have hra:=RepVL.iff.1 hr t args[t] (List.getElem?_eq_getElem ht)
   obtain⟨v,hv,hrv⟩:=hra
   have h1:args.getD t .undef=args[t]:=by simp_all
   rw [h1]
   have h2:(vs.toArray++Array.replicate (fn.ntmps-vs.toArray.size) undef).getD t undef=v:=by
    rw [Array.getD_eq_getD_getElem?,Array.getElem?_append_left (by simp;omega)]
    simp [hv]
   rw [h2]
   exact hrv
  grind [List.getD,RepV]
 ·simp;omega
 ·intro t n hn
  have:n∈qZn (qQ8 0 args):=qWw hn
  have key:∀ (xs:List V) (k:Nat),n∈qZn (qQ8 k xs)→n∈qQg xs:=by
   intro xs
   induction xs with
   | nil=>simp [qQ8,qZn]
   | cons x xs ih =>
    grind [qQ8,qZn,qQg]
  grind
 grind [qQe,qZw]
theorem Ga.done {C:Ctx} {E':Env} {σ':St} {a':Act} {w':World} (hG':Ga C E' σ' a' w') {objs':List (Nat × Ob)}
  (hno:∀ m o,qQc objs' m=some o→∀ n∈o.names,n∈(qQa C.given++C.ms)++qQa objs') (hsub:qWu objs' σ'.objs) :
  ∃ E2:Env,qPf C.E0 C.w0 C.given E2 w' objs'∧E2.H=E'.H ∧ ∀ n∈(qQa C.given++C.ms)++qQa objs',EExt E' E2 n:=by
 let E2:Env:=⟨E'.H,fun n=>if n∈qQa C.given++qQa objs' then E'.g n else C.E0.g n,fun n=>if n∈qQa C.given++qQa objs' then E'.ver n else C.E0.ver n,fun n=>if n∈qQa C.given++qQa objs' then E'.sz n else C.E0.sz n⟩
 have hE2:∀ n∈qQa C.given++qQa objs',E2.g n=E'.g n∧E2.ver n=E'.ver n∧E2.sz n=E'.sz n:=by
  grind
 have hEE0:∀ n∈qQa C.given++qQa objs',EExt E' E2 n:=fun n hn=>EExt.of_eq (hE2 n hn).1 (hE2 n hn).2.1 (hE2 n hn).2.2
 have hEE:∀ n∈(qQa C.given++C.ms)++qQa objs',EExt E' E2 n:=by
  intro n hn
  by_cases hm:n∈qQa C.given++qQa objs'
  ·simp_all
  ·have hn':n∈C.ms:=by
    simp_all
   have hm':¬ (n∈qQa C.given∨n∈qQa objs'):=fun h=>hm (List.mem_append.2 h)
   obtain⟨_,_,k3,k4,k5⟩:=hG'.keep n hn'
   grind [EExt.of_eq]
 have hsub:=qZ0 hsub
 have hk':∀ n o,qQc objs' n=some o→n∈qQa C.given++qQa objs':=fun n o hn=>List.mem_append.2 (.inr (qQe hn))
 refine⟨E2,⟨fun b hb=>hG'.heap b hb,?_,?_,hG'.hle,hG'.grown,hG'.rest,?_,?_,?_,?_⟩,rfl,hEE⟩
 ·intro n o hn
  have hm:=hk' n o hn
  exact (hG'.objs n o (hsub n o hn)).mono (Hle.refl _) (hE2 n hm).1 (hE2 n hm).2.1 (hE2 n hm).2.2 (fun m hm'=>hEE m (hno n o hn m hm')) (fun b _=>⟨rfl,rfl⟩)
 ·intro n m o o' hn hm hne b hb
  rw [(hE2 n (hk' n o hn)).1] at hb
  rw [(hE2 m (hk' m o' hm)).1]
  exact hG'.apart n m o o' (hsub n o hn) (hsub m o' hm) hne b hb
 ·intro b hb hnb
  exact hG'.same b hb (by rintro⟨n,o,hn,hbn⟩;simp_all)
 ·intro n o b hn hb
  rw [(hE2 n (hk' n o hn)).1] at hb
  by_cases hlt:b<C.w0.heap.size
  ·obtain⟨m,o',hm,hbm⟩:=hG'.own n o b (hsub n o hn) hb hlt
   grind
  omega
 ·intro n o hn
  have hm:n∈qQa C.given++qQa objs':=List.mem_append.2 (.inl (qQe hn))
  exact (hG'.ext n o hn).trans (hEE0 n hm)
 grind [qQa,qQs]
def zQr (P:Program) (gl:Nat→Option (List PV)) (fc:Nat) (caps:List V) (objs:List (Nat × Ob)) (p:PV) (objs':List (Nat × Ob)):Prop :=
 ∀ (E:Env) (w:World) (vs:List Value) (v:Value),qMe gl E w objs→vs.length=caps.length→RepVL E caps vs→RepP E.H p v →
  CallsD P fc vs.toArray (.panicking [{ v,recovered:=false }]) w fun e u' w'=>(∃ r,e = .returned r)∧u' = .panicking [{ v,recovered:=true }] ∧ ∃ E',qPf E w objs E' w' objs'
def zQs (P:Program) (fc:Nat) (n:Nat):Prop :=
 ∀ (w:World) (vs:List Value),vs.length=n→CallsD P fc vs.toArray .returning w fun e u' w'=>(∃ r,e = .returned r)∧u' = .returning∧w'=w
theorem Ga.defer {C:Ctx} {E:Env} {σ:St} {a:Act} {w:World} (h:Ga C E σ a w) {f:Nat} {caps:List V} {cv:List Value} (hl:cv.length=caps.length) (hr:RepVL E caps cv) (hn:∀ n∈qQg caps,n∈σ.used) :
  Ga { C with defs:=(f,caps)::C.defs } E σ { a with defers:={ target:=.fn (.func f) cv.toArray,args:=#[] } :: a.defers } w :=
 ⟨h.slots,h.size,⟨⟨cv,a.defers,rfl,hl,hr,h.defers.1⟩,fun n hm=>by
  simp only [qVl,List.mem_append] at hm
  rcases hm with hm|hm
  ·simp_all
  ·exact h.defers.2 n hm⟩,h.heap,h.objs,h.apart,h.usedS,h.usedO,h.usedG,h.grown,h.rest,h.same,h.hle,h.own,h.ext,h.keep⟩
def qMo (X:Env1) (rs:List ResultVar) (fc:Nat) (caps:List V) (x:V) (objs':List (Nat × Ob)):AEx→St→Prop
 | .normal,σ=>qMk X σ rs=some x∧qWu objs' σ.objs
 | .ret,σ=>qMk X σ rs=some x∧qWu objs' σ.objs
 | .panic p,σ => ∃ co co':List (Nat × Ob),zQr X.P X.gl fc caps co p co'∧qWu co σ.objs∧qQa co'=qQa co∧qZg co'=qQa co' ∧
   qMk X (σ.eff none (qQz .undef co co')) rs=some x∧qWu objs' (σ.eff none (qQz .undef co co')).objs
 | .exit _,_=>False
def Env1.more (X:Env1) (l:List Nat):Env1:={ X with given:=X.given++l }
mutual
def V.ren (ρ:Nat→Nat):V→V
 | .undef => .undef
 | .pv p => .pv p
 | .loc n off => .loc (ρ n) off
 | .eloc n ver i off => .eloc (ρ n) ver i off
 | .arr n ver len => .arr (ρ n) ver len
 | .map n => .map (ρ n)
 | .vsl es => .vsl (qF6 ρ es)
 | .fsl es => .fsl es
 | .gsl n ver es => .gsl (ρ n) ver es
 | .fn f cs => .fn f (qB7 ρ cs)
 | .bfn f cs => .bfn f (qB7 ρ cs)
 | .agg cs => .agg (qB7 ρ cs)
 | .tuple cs => .tuple (qB7 ρ cs)
def qB7 (ρ:Nat→Nat):List V→List V
 | []=>[]
 | c::cs=>c.ren ρ::qB7 ρ cs
def qF6 (ρ:Nat→Nat):List (List V)→List (List V)
 | []=>[]
 | e::es=>qB7 ρ e::qF6 ρ es
end
theorem zQt (ρ:Nat→Nat) (l:List V):qB7 ρ l=l.map (V.ren ρ):=by
 induction l with
 | nil=>rfl
 | cons c l ih=>simp [qB7,ih]
theorem qMp (ρ:Nat→Nat) (l:List (List V)):qF6 ρ l=l.map (qB7 ρ):=by
 induction l with
 | nil=>rfl
 | cons c l ih=>simp [qF6,ih]
theorem qJq (ρ:Nat→Nat) (l:List V):(qB7 ρ l).length=l.length:=by simp [zQt]
theorem qHh (ρ:Nat→Nat) (l:List (List V)):(qF6 ρ l).length=l.length:=by simp [qMp]
def zVr (ρ:Nat→Nat):List (SK × V)→List (SK × V)
 | []=>[]
 | (k,x)::r=>(k,x.ren ρ)::zVr ρ r
def Ob.ren (ρ:Nat→Nat):Ob→Ob
 | .box cs => .box (qB7 ρ cs)
 | .arr ver sz ty es => .arr ver sz ty (qF6 ρ es)
 | .smap s es => .smap s (zVr ρ es)
 | .cache D F => .cache D F
 | .siter l p => .siter l p
 | .raw v x => .raw v x
 | .grow v s t es => .grow v s t es
def qI0 (ρ:Nat→Nat):List (Nat × Ob)→List (Nat × Ob)
 | []=>[]
 | (n,o)::r=>(ρ n,o.ren ρ)::qI0 ρ r
def Out.ren (ρ:Nat→Nat):Out→Out
 | .ret x => .ret (x.ren ρ)
 | .panic p => .panic p
def Env.comp (E:Env) (ρ:Nat→Nat):Env:=⟨E.H,fun n=>E.g (ρ n),fun n=>E.ver (ρ n),fun n=>E.sz (ρ n)⟩
mutual
theorem RepV.ren {E:Env} {ρ:Nat→Nat} : ∀ (x:V) (v:Value),RepV E (x.ren ρ) v↔RepV (E.comp ρ) x v
 | .undef,_=>by simp [V.ren,RepV]
 | .pv p,v=>by simp [V.ren,RepV,Env.comp]
 | .loc n off,v=>by simp [V.ren,RepV,Env.comp]
 | .eloc n ver i off,v=>by simp [V.ren,RepV,Env.comp]
 | .arr n ver len,v=>by simp [V.ren,RepV,Env.comp]
 | .map n,v=>by simp [V.ren,RepV,Env.comp]
 | .vsl es,v=>by
  simp only [V.ren,RepV,qHh]
  have h:∀ vs,RepVE E (qF6 ρ es) vs↔RepVE (E.comp ρ) es vs:=RepVE.ren es
  have hn:qF6 ρ es=[]↔es=[]:=by cases es<;>simp [qF6]
  simp only [h,hn]
  rfl
 | .fsl es,v=>by simp [V.ren,RepV,Env.comp]
 | .gsl n ver es,v=>by simp [V.ren,RepV,Env.comp]
 | .fn f cs,v=>by simp only [V.ren,RepV,qJq,RepVL.ren cs]
 | .bfn f cs,v=>by simp only [V.ren,RepV,qJq,RepVL.ren cs]
 | .agg cs,v=>by simp only [V.ren,RepV,qJq,RepVL.ren cs]
 | .tuple cs,v=>by simp only [V.ren,RepV,qJq,RepVL.ren cs]
theorem RepVL.ren {E:Env} {ρ:Nat→Nat} : ∀ (cs:List V) (vs:List Value),RepVL E (qB7 ρ cs) vs↔RepVL (E.comp ρ) cs vs
 | [],_=>by simp [qB7,RepVL]
 | c::cs,[]=>by simp [qB7,RepVL]
 | c::cs,v::vs=>by simp only [qB7,RepVL,RepV.ren c v,RepVL.ren cs vs]
theorem RepVE.ren {E:Env} {ρ:Nat→Nat} : ∀ (es:List (List V)) (vs:List Value),RepVE E (qF6 ρ es) vs↔RepVE (E.comp ρ) es vs
 | [],_=>by simp [qF6,RepVE]
 | e::es,vs=>by simp only [qF6,RepVE,qJq,RepVL.ren e vs,RepVE.ren es (vs.drop e.length)]
end
theorem EntsS.ren {E:Env} {ρ:Nat→Nat} {s:Bool} : ∀ (es:List (SK × V)) (ms:List MapEntry),EntsS E s (zVr ρ es) ms↔EntsS (E.comp ρ) s es ms
 | [],[]=>Iff.rfl
 | [],_::_=>Iff.rfl
 | (k,x)::es,[]=>Iff.rfl
 | (k,x)::es,m::ms=>by simp [zVr,EntsS,RepV.ren,EntsS.ren]
theorem ObOK.ren {E:Env} {w:World} {ρ:Nat→Nat} {n:Nat} (o:Ob):ObOK E w (ρ n) (o.ren ρ)↔ObOK (E.comp ρ) w n o:=by
 cases o with
 | box cs=>simp only [Ob.ren,ObOK,qJq,RepVL.ren cs];rfl
 | arr ver sz ty es =>
  have h:(∀ e∈qF6 ρ es,e.length=sz) ↔ ∀ e∈es,e.length=sz:=by
   rw [qMp]
   simp [qJq]
  simp only [Ob.ren,ObOK,qHh,RepVE.ren es,h]
  rfl
 | smap s es=>simp only [Ob.ren,ObOK,EntsS.ren es];rfl
 | cache D F=>simp only [Ob.ren,ObOK];rfl
 | siter l p=>rfl
 | raw v x=>rfl
 | grow v s t es=>rfl
mutual
theorem V.ren_names (ρ:Nat→Nat):∀ x:V,(x.ren ρ).names=x.names.map ρ
 | .undef=>rfl
 | .pv _=>rfl
 | .loc _ _=>rfl
 | .eloc _ _ _ _=>rfl
 | .arr _ _ _=>rfl
 | .map _=>rfl
 | .vsl es=>by simp only [V.ren,V.names,qKy ρ es]
 | .fsl _=>rfl
 | .gsl _ _ _=>rfl
 | .fn _ cs=>by simp only [V.ren,V.names,qZk ρ cs]
 | .bfn _ cs=>by simp only [V.ren,V.names,qZk ρ cs]
 | .agg cs=>by simp only [V.ren,V.names,qZk ρ cs]
 | .tuple cs=>by simp only [V.ren,V.names,qZk ρ cs]
theorem qZk (ρ:Nat→Nat):∀ l:List V,qQg (qB7 ρ l)=(qQg l).map ρ
 | []=>rfl
 | c::cs=>by simp only [qB7,qQg,V.ren_names ρ c,qZk ρ cs,List.map_append]
theorem qKy (ρ:Nat→Nat):∀ l:List (List V),qQw (qF6 ρ l)=(qQw l).map ρ
 | []=>rfl
 | e::es=>by simp only [qF6,qQw,qZk ρ e,qKy ρ es,List.map_append]
end
theorem qA9 (ρ:Nat→Nat):∀ l:List (SK × V),qZm (zVr ρ l)=(qZm l).map ρ
 | []=>rfl
 | (k,x)::r=>by simp [zVr,qZm,V.ren_names,qA9,List.map_append]
theorem Ob.ren_names (ρ:Nat→Nat) (o:Ob):(o.ren ρ).names=o.names.map ρ:=by
 cases o with
 | box cs=>simp [Ob.ren,Ob.names,qZk]
 | arr ver sz ty es=>simp [Ob.ren,Ob.names,qKy]
 | smap s es=>simp [Ob.ren,Ob.names,qA9]
 | cache D F=>rfl
 | siter l p=>rfl
 | raw v x=>rfl
 | grow v s t es=>rfl
section
variable {ρ:Nat→Nat} (hρ:∀ n,ρ (ρ n)=n)
include hρ
theorem qMq {a b:Nat} (h:ρ a=ρ b):a=b:=by rw [← hρ a,h,hρ]
theorem qB8 (l:List (Nat × Ob)) (n:Nat):qQc (qI0 ρ l) n=(qQc l (ρ n)).map (Ob.ren ρ):=by
 induction l with
 | nil=>rfl
 | cons p r ih =>
  grind [qI0,qQc]
theorem qKf (l:List (Nat × Ob)):qQa (qI0 ρ l)=(qQa l).map ρ:=by
 induction l with
 | nil=>rfl
 | cons p r ih =>
  grind [qI0,qQa]
theorem qD7 (args:List V) (l:List (Nat × Ob)):qWv (qB7 ρ args) (qI0 ρ l)=(qWv args l).map ρ:=by
 have h:qJl (qI0 ρ l)=(qJl l).map ρ:=by
  induction l with
  | nil=>rfl
  | cons p r ih =>
   grind [qI0,qJl,Ob.ren_names]
 grind [qWv,qZk]
theorem AC.ren {P:Program} {gl:Nat→Option (List PV)} {f:Nat} {args:List V} {objs:List (Nat × Ob)} {out:Out} {objs':List (Nat × Ob)} (h:AC P gl f args objs out objs') :
  AC P gl f (qB7 ρ args) (qI0 ρ objs) (out.ren ρ) (qI0 ρ objs'):=by
 have hmem:∀ {l:List Nat} {n:Nat},n∈l.map ρ↔ρ n∈l:=by
  grind
 have hget:∀ {l:List (Nat × Ob)} {n:Nat} {o:Ob},qQc (qI0 ρ l) n=some o→∃ o',qQc l (ρ n)=some o'∧o'.ren ρ=o:=by
  intro l n o hn
  rw [qB8 hρ] at hn
  simp_all
 have hget':∀ {l:List (Nat × Ob)} {n:Nat} {o:Ob},qQc l n=some o→qQc (qI0 ρ l) (ρ n)=some (o.ren ρ):=by
  intro l n o hn
  rw [qB8 hρ,hρ,hn]
  rfl
 have hnone:∀ {l:List (Nat × Ob)} {n:Nat},qQc (qI0 ρ l) n=none→qQc l (ρ n)=none:=by
  intro l n hn
  rw [qB8 hρ] at hn
  simp_all
 refine⟨h.direct,?_,?_,?_⟩
 ·intro n hn
  rw [qKf hρ,qKf hρ,qD7 hρ,hmem,hmem,hmem]
  cases out with
  | ret x =>
   simp only [Out.ren,Out.names,V.ren_names,hmem] at hn
   exact h.names (ρ n) hn
  | panic p=>simp [Out.ren,Out.names] at hn
 ·intro m o hm n hn
  obtain⟨o',ho',rfl⟩:=hget hm
  rw [Ob.ren_names,hmem] at hn
  rw [qKf hρ,qKf hρ,qD7 hρ,hmem,hmem,hmem]
  exact h.namesO _ o' ho' _ hn
 ·intro E w vs hB hl hr
  have hB':qMe gl (E.comp ρ) w objs:=by
   refine⟨hB.heap,hB.glob,fun n o hn=>(ObOK.ren o).1 (hB.obs _ _ (hget' hn)),fun n m o o' hn hm hne b hb => ?_⟩
   exact hB.apart (ρ n) (ρ m) _ _ (hget' hn) (hget' hm) (fun e=>hne (qMq hρ e)) b hb
  refine (h.calls (E.comp ρ) w vs hB' (by rw [hl,qJq]) ((RepVL.ren args vs).1 hr)).mono ?_
  rintro e w' ⟨E',hD,ho⟩
  have hcomp:∀ F:Env,(F.comp ρ).comp ρ=F:=by
   intro F
   simp [Env.comp,hρ]
  refine⟨E'.comp ρ,⟨hD.heap,?_,?_,hD.hle,hD.size,hD.rest,?_,?_,?_,?_⟩,?_⟩
  ·intro n o hn
   obtain⟨o',ho',rfl⟩:=hget hn
   have:=hD.obs _ o' ho'
   rw [← hcomp E'] at this
   have:=(ObOK.ren (E:=E'.comp ρ) (n:=ρ n) o').2 this
   rwa [hρ] at this
  ·intro n m o o' hn hm hne b hb
   obtain⟨q,hq,_⟩:=hget hn
   obtain⟨q',hq',_⟩:=hget hm
   exact hD.apart (ρ n) (ρ m) q q' hq hq' (fun e=>hne (qMq hρ e)) b hb
  ·intro b hb hnb
   refine hD.same b hb (fun n o hn e => ?_)
   exact hnb (ρ n) _ (hget' hn) e
  ·intro n o b hn hb
   obtain⟨q,hq,_⟩:=hget hn
   rcases hD.own (ρ n) q b hq hb with h1|⟨m,o',hm,hbm⟩
   ·exact .inl h1
   ·exact .inr ⟨ρ m,_,hget' hm,hbm⟩
  ·intro n o hn
   obtain⟨q,hq,_⟩:=hget hn
   have:=hD.ext (ρ n) q hq
   simpa [EExt,Env.comp,hρ] using this
  ·intro n h1 h2
   have:=hD.other (ρ n) (hnone h1) (hnone h2)
   simpa [Env.comp,hρ] using this
  ·cases out with
   | ret x =>
    obtain⟨v,rfl,hv⟩:=ho
    refine⟨v,rfl,?_⟩
    rw [← hcomp E'] at hv
    exact (RepV.ren x v).2 hv
   | panic p =>
    obtain⟨v,rfl,hv⟩:=ho
    exact⟨v,rfl,hv⟩
end
end Go.Lg
namespace Go.Lg
end Go.Lg
namespace Go.Lg
end Go.Lg
namespace Go.Lg
theorem AC.le {P:Program} {gl:Nat→Option (List PV)} {f:Nat} {args args':List V} {objs objs':List (Nat × Ob)} {out:Out} (h:AC P gl f args' objs out objs') (hl:args.length=args'.length) (hm:qWv args objs=qWv args' objs)
  (hr:∀ E vs,RepVL E args vs→RepVL E args' vs):AC P gl f args objs out objs' :=
 ⟨h.direct,by rw [hm];exact h.names,by rw [hm];exact h.namesO,fun E w vs hB hv hR=>h.calls E w vs hB (hv.trans hl) (hr E vs hR)⟩
theorem AC.leO {P:Program} {gl:Nat→Option (List PV)} {f:Nat} {args:List V} {objs objs':List (Nat × Ob)} {p q:PV} (h:AC P gl f args objs (.ret (.pv p)) objs') (hr:∀ H v,RepP H p v→RepP H q v):AC P gl f args objs (.ret (.pv q)) objs':=by
 refine⟨h.direct,h.names,h.namesO,fun E w vs hB hv hR=>(h.calls E w vs hB hv hR).mono ?_⟩
 rintro e w' ⟨E',hd,v,he,hv⟩
 exact⟨E',hd,v,he,hr _ _ hv⟩
theorem qRc {H:Hp} {v:Value} (h:RepP H .nils v):RepP H (.slice []) v:=by
 grind [RepP]
end Go.Lg
