/- The logic of contracts; no conditions. -/
import Derived.Test.YtnkoaepelgbhfaaGreatDoorPA3
import Derived.LoopN
import Derived.Defers
import Derived.Recover
set_option linter.all false
namespace Go.Lg
theorem TIOK.mk' {P:Program} {t:Nat} {ti:TI} {d:TypeDesc} (h1:(P.info? t).map (λ i=>(i.size,i.bytes,i.zero))=some (ti.size,ti.bytes,some ti.zero)) (h2:P.underlying t=some d) (hk:IB P d ti.k)
  (h3:ti.zero.cells.size=ti.size) (h4:RepL (λ _=>[]) ti.zc ti.zero.cells.toList) (h5:ti.zc.length=ti.size) (h6:ti.k.isIface=true\/P.concrete t=true):TIOK P t ti:=by
 refine⟨?_,⟨d,h2,hk⟩,h3,h4,h5,h6⟩
 cases hi:P.info? t with
 | none=>rw [hi] at h1;cases h1
 | some i =>
  rw [hi] at h1;simp only [Option.map_some,Option.some.injEq,Prod.mk.injEq] at h1;exact⟨i,rfl,h1.1,h1.2.1,h1.2.2⟩
def wJ (X:PA) (σ:St):ResultVar->Option V
 | .tmp t=>some (IA σ.slots t)
 | .cell a t=>match X.T t,IA σ.slots a with
  | some ti,.loc n off=>match jA σ.objs n with
   | some (.box cs)=>lH ti.isAgg ti.size (cs.drop off)
   | _=>none
  | _,_=>none
def jI (X:PA) (σ:St):List ResultVar->Option (List V)
 | []=>some []
 | r::rs=>match wJ X σ r,jI X σ rs with
  | some x,some xs=>some (x::xs)
  | _,_=>none
def uO (xs:List V):V:=match xs with
 | [x]=>x
 | xs=>match rD xs with
  | some ps => .pv (.tuple ps)
  | none => .tuple xs
def CQ (X:PA) (σ:St) (rs:List ResultVar):Option V:=(jI X σ rs).map uO
theorem Rh {E:Env} {xs:List V} {vs:Array Value} (hl:vs.size=xs.length) (r:RepVL E xs vs.toList):RepV E (uO xs) (if h:vs.size=1 then vs[0] else .tuple vs):=by
 unfold uO;split
 ·rename_i x;have h1:vs.size=1:=by simpa using hl
  rw [dif_pos h1];have:vs.toList=[vs[0]]:=by
   apply List.ext_getElem
   ·simpa using h1
   ·intro i h1 h2;have:i=0:=by simp at h2;omega
    subst this;simp
  rw [this] at r;simpa [RepVL] using r
 ·rename_i hne;have h1:¬ vs.size=1:=by
   intro h1;rw [h1] at hl
   cases xs with
   | nil=>simp at hl
   | cons x xs =>
    cases xs with
    | nil=>exact hne x rfl
    | cons y ys=>simp at hl
  rw [dif_neg h1];split
  ·rename_i ps e;simp only [RepV,RepP];exact⟨vs.toList,by simp,by rw [gQ e];simpa using hl,RepVL.toPv e r⟩
  ·simp only [RepV];exact⟨vs.toList,by simp,by simpa using hl,r⟩
section
variable {X:PA} {C:Ctx} {E:Env} {σ:St} {a:Act} {w:World}
theorem Sh (hT:xB X.P X.T) (h:Ga C E σ a w) {r:ResultVar} {x:V} (hr:wJ X σ r=some x) :
  ∃ v,((match r with
   | .tmp t=>pure (a.tmps.getD t undef)
   | .cell b t=>do loadVar t (<- asAddr (a.tmps.getD b undef))):Sem Value).run X.P w = .ok v w/\RepV E x v:=by
 cases r with
 | tmp t =>
  simp only [wJ,Option.some.injEq] at hr;subst hr;exact⟨_,rfl,h.slots t⟩
 | cell b t =>
  simp only [wJ] at hr;split at hr
  ·rename_i ti n off et eb;split at hr
   ·rename_i cs eo;have hti:=hT t ti et;have hx:=h.slots b;rw [eb] at hx;simp only [RepV] at hx;obtain⟨bb,hgn,hv⟩:=hx;obtain⟨b',c,T',hgn',hcell,hsz,hrr,_⟩:=h.objs n _ eo;rw [hgn] at hgn';cases hgn';obtain⟨h1,h2,h3⟩:=YT hr (hrr.drop off);have hload:∀ v,(Instr.loadAt t (.pointer (some ⟨bb,off,none⟩))).run X.P w = .ok v w->(do loadVar t (<- asAddr (a.tmps.getD b undef)):Sem Value).run X.P w = .ok v w:=by
     intro v hl;rw [hv];simp only [Instr.loadAt,Instr.sureAddr,Sem.run_bind,Sem.run_pure,Result.andThen_ok] at hl;simp only [asAddr,Sem.run_bind,Sem.run_pure,Result.andThen_ok];exact hl
    cases hagg:ti.isAgg with
    | true =>
     obtain⟨hle,hy⟩:=h1 hagg;by_cases h0:off+ti.size<=c.size
     ·exact⟨_,hload _ (TN hti hagg hcell h0),hy⟩
     ·have h00:ti.size=0:=by simp at hle;omega
      have hll:(loadCells ⟨bb,off,none⟩ 0).run X.P w = .ok #[] w:=by simp [loadCells,loadCellsFrom]
      rw [h00] at hy;refine⟨_,hload _ ?_,hy⟩;simp [Instr.loadAt,Instr.sureAddr,loadVar,hti.run_agg,hagg,hti.run_size,h00,hll]
    | false =>
     obtain⟨v,hv0,hy⟩:=h2 hagg;have hget:c[off]? = some v:=by simpa using hv0
     exact⟨v,hload _ (UN hti hagg hcell hget),hy⟩
   ·cases hr
  ·cases hr
theorem IY (hT:xB X.P X.T) (h:Ga C E σ a w):∀ {rs:List ResultVar} {xs:List V},jI X σ rs=some xs ->
  ∃ vs:List Value,(rs.mapM λ r=>match r with
   | .tmp t=>pure (a.tmps.getD t undef)
   | .cell b t=>do loadVar t (<- asAddr (a.tmps.getD b undef)):Sem (List Value)).run X.P w = .ok vs w/\vs.length=xs.length/\RepVL E xs vs
 | [],xs,hr=>by
  simp only [jI,Option.some.injEq] at hr;subst hr;exact⟨[],rfl,rfl,by simp [RepVL]⟩
 | r::rs,xs,hr=>by
  simp only [jI] at hr;split at hr
  ·rename_i x xs' e1 e2;cases hr;obtain⟨v,hv,hrv⟩:=Sh hT h e1;obtain⟨vs,hvs,hl,hrl⟩:=IY hT h e2;refine⟨v::vs,?_,by simp [hl],by simp only [RepVL];exact⟨hrv,hrl⟩⟩;rw [List.mapM_cons];simp only [Sem.run_bind];rw [hv];simp only [Result.andThen_ok,Sem.run_bind];rw [hvs];rfl
  ·cases hr
theorem Th (hT:xB X.P X.T) (h:Ga C E σ a w) {fn:Func} {x:V} (hr:CQ X σ fn.results.toList=some x):∃ v,(results fn a.tmps).run X.P w = .ok v w/\RepV E x v:=by
 unfold CQ at hr
 cases hx:jI X σ fn.results.toList with
 | none=>rw [hx] at hr;cases hr
 | some xs =>
  rw [hx] at hr;simp only [Option.map_some,Option.some.injEq] at hr;subst hr;obtain⟨vs,hvs,hl,hrl⟩:=IY hT h hx;refine⟨_,?_,Rh (vs:=vs.toArray) (by simpa using hl) (by simpa using hrl)⟩;unfold results;rw [Array.mapM_eq_mapM_toList];simp only [Sem.run_bind,map_eq_pure_bind]
  erw [hvs]
  rfl
end
def LG:Nat->List V->List (Nat × V)
 | _,[]=>[]
 | k,x::xs=>(k,x)::LG (k+1) xs
theorem pU:∀ (xs:List V) (k t:Nat),IA (LG k xs) t=if k<=t then xs.getD (t-k) .undef else .undef
 | [],k,t=>by simp [LG,IA]
 | x::xs,k,t=>by
  simp only [LG,IA];by_cases e:k=t
  ·subst e;simp
  ·rw [pU xs (k+1) t];simp only [e,if_false];by_cases hk:k<=t
   ·have h1:k+1<=t:=by omega
    have h2:t-k=(t-(k+1))+1:=by omega
    simp only [hk,h1,if_true];rw [h2];rfl
   ·have h1:¬ k+1<=t:=by omega
    simp [hk,h1]
def mM (X:PA) (σ:St) (rs:List ResultVar):Out->Prop
 | .ret x=>CQ X σ rs=some x
 | .panic _=>False
def Uh (X:PA) (rs:List ResultVar) (out:Out) (objs':List (Nat × Ob)):AB->St->Prop
 | .normal,σ=>mM X σ rs out/\MC objs' σ.objs
 | .ret,σ=>mM X σ rs out/\MC objs' σ.objs
 | .panic p,σ=>(match out with | .ret _=>False | .panic q=>p=q)/\MC objs' σ.objs
 | .exit _,_=>False
theorem AC.of_body {X : PA} (hT : xB X.P X.T) {f : Nat} {fn : Func} {c : Code} (hf : X.P.funcs[f]? = some fn) (hb : fn.body = some c) (hname : (fn.name == "runtime.NumGoroutine") = false) (hnt : fn.ntmps = X.nt)
  {args:List V} {objs:List (Nat × Ob)} {out:Out} {objs':List (Nat × Ob)} {ms:List Nat} (hgiven:X.given=yA objs++ms) (hal:args.length<=X.nt)
  (hms1:vJ ms (bE args objs)) (hms2:∀ n∈ms,n ∉ yA objs) (hms3:∀ n∈ms,n ∉ yA objs')
  (hna:vJ (EA args++fE objs) (yA objs++ms)) (hno:vJ (out.names++fE objs') ((yA objs++ms)++yA objs'))
  (h:AWP X c ⟨LG 0 args,objs,yA objs++ms⟩ (Uh X fn.results.toList out objs')):AC X.P X.gl f args objs out objs':=by
 have hna:=yO hna;have hno:=yO hno;have hms1:=yO hms1;have hout:∀ n,n∈(yA objs++ms)++yA objs'->n∈yA objs\/n∈yA objs'\/n∈bE args objs:=by
  intro n hn;rcases List.mem_append.1 hn with hn|hn
  ·rcases List.mem_append.1 hn with hn|hn
   ·exact .inl hn
   ·exact .inr (.inr (hms1 n hn))
  ·exact .inr (.inl hn)
 have hnone:∀ {l:List (Nat × Ob)} {n:Nat},n ∉ yA l->jA l n=none:=by
  intro l n hn
  cases e:jA l n with
  | none=>rfl
  | some o=>exact absurd (VC e) hn
 refine⟨⟨fn,hf,hname,by rw [hb];rfl⟩,λ n hn=>hout n (hno n (by simp [hn])),λ m o hm n hn=>hout n (hno n (by simp [(BQ hm).2 n hn])),?_⟩;intro E w vs hB hl hr;refine calls_of_wp hf hb ?_;let C:Ctx:=⟨E,w,objs,ms,X.nt,[]⟩;have hC:vO X C:=⟨hB.glob,rfl,λ n o hn=>by rw [hgiven];exact List.mem_append.2 (.inl (VC hn)),λ n hn=>by rw [hgiven];exact List.mem_append.2 (.inr hn),by simp [C,SI]⟩;have hG:Ga C E ⟨LG 0 args,objs,yA objs++ms⟩ { tmps:=vs.toArray++Array.replicate (fn.ntmps-vs.toArray.size) undef,defers:=[] } w:=by
  refine⟨?_,?_,⟨rfl,by simp [C,SI]⟩,hB.heap,hB.obs,hB.apart,?_,?_,λ n o hn=>List.mem_append.2 (.inl (VC hn)),Nat.le_refl _,⟨rfl,rfl,rfl⟩,λ _ _ _=>⟨λ _=>rfl,rfl⟩,Hle.refl _,λ n o b hn hb _=>⟨n,o,hn,hb⟩,λ n o _=>EExt.refl _ _,
   λ n hn=>⟨List.mem_append.2 (.inr hn),hnone (hms2 n hn),rfl,rfl,rfl⟩⟩
  ·intro t;rw [pU];simp only [Nat.zero_le,if_true,Nat.sub_zero];by_cases ht:t<args.length
   ·have hra:=RepVL.iff.1 hr t args[t] (List.getElem?_eq_getElem ht);obtain⟨v,hv,hrv⟩:=hra;have h1:args.getD t .undef=args[t]:=by simp [List.getD,List.getElem?_eq_getElem ht]
    rw [h1];have h2:(vs.toArray++Array.replicate (fn.ntmps-vs.toArray.size) undef).getD t undef=v:=by
     rw [Array.getD_eq_getD_getElem?,Array.getElem?_append_left (by simp;omega)];simp [hv]
    rw [h2];exact hrv
   ·have h1:args.getD t .undef = .undef:=by simp [List.getD,List.getElem?_eq_none (by omega:args.length<=t)]
    rw [h1];simp [RepV]
  ·simp [C];omega
  ·intro t n hn;refine hna n ?_;rw [List.mem_append];left;have:n∈rH (LG 0 args):=HY hn;have key:∀ (xs:List V) (k:Nat),n∈rH (LG k xs)->n∈EA xs:=by
    intro xs
    induction xs with
    | nil=>intro k h;simp [LG,rH] at h
    | cons x xs ih =>
     intro k h;simp only [LG,rH,List.mem_append] at h;simp only [EA,List.mem_append];rcases h with h|h
     ·exact .inl h
     ·exact .inr (ih (k+1) h)
   exact key args 0 this
  ·intro n o hn;exact⟨List.mem_append.2 (.inl (VC hn)),λ m hm=>hna m (by simp [(BQ hn).2 m hm])⟩
 refine wp_mono (h C E _ w hC hG) ?_
 rintro e a' w' ⟨E',σ',ae,hG',hrel,hq⟩
 -- the hidden side behind the call
 let E2:Env:=⟨E'.H,λ n=>if n∈yA objs++yA objs' then E'.g n else E.g n,λ n=>if n∈yA objs++yA objs' then E'.ver n else E.ver n,λ n=>if n∈yA objs++yA objs' then E'.sz n else E.sz n⟩;have hE2:∀ n∈yA objs++yA objs',E2.g n=E'.g n/\E2.ver n=E'.ver n/\E2.sz n=E'.sz n:=by
  intro n hn;have hn':n∈yA objs\/n∈yA objs':=List.mem_append.1 hn;simp [E2,hn']
 have hEE0:∀ n∈yA objs++yA objs',EExt E' E2 n:=λ n hn=>EExt.of_eq (hE2 n hn).1 (hE2 n hn).2.1 (hE2 n hn).2.2
 have hEE:∀ n∈(yA objs++ms)++yA objs',EExt E' E2 n:=by
  intro n hn;by_cases hm:n∈yA objs++yA objs'
  ·exact hEE0 n hm
  ·have hn':n∈ms:=by
    rcases List.mem_append.1 hn with hn|hn
    ·rcases List.mem_append.1 hn with hn|hn
     ·exact absurd (List.mem_append.2 (.inl hn)) hm
     ·exact hn
    ·exact absurd (List.mem_append.2 (.inr hn)) hm
   have hm':¬ (n∈yA objs\/n∈yA objs'):=λ h=>hm (List.mem_append.2 h)
   obtain⟨_,_,k3,k4,k5⟩:=hG'.keep n hn';exact EExt.of_eq (by simp [E2,hm'];exact k3.symm) (by simp [E2,hm'];exact k4.symm) (by simp [E2,hm'];exact k5.symm)
 have hdone:MC objs' σ'.objs->dM E w objs E2 w' objs':=by
  intro hsub;have hsub:=ZN hsub;have hk':∀ n o,jA objs' n=some o->n∈yA objs++yA objs':=λ n o hn=>List.mem_append.2 (.inr (VC hn))
  refine⟨λ b hb=>hG'.heap b hb,?_,?_,hG'.hle,hG'.grown,hG'.rest,?_,?_,?_,?_⟩
  ·intro n o hn;have hm:=hk' n o hn;exact (hG'.objs n o (hsub n o hn)).mono (Hle.refl _) (hE2 n hm).1 (hE2 n hm).2.1 (hE2 n hm).2.2 (λ m hm'=>hEE m (hno m (by simp [(BQ hn).2 m hm']))) (λ b _=>⟨rfl,rfl⟩)
  ·intro n m o o' hn hm hne b hb;rw [(hE2 n (hk' n o hn)).1] at hb;rw [(hE2 m (hk' m o' hm)).1];exact hG'.apart n m o o' (hsub n o hn) (hsub m o' hm) hne b hb
  ·intro b hb hnb;exact hG'.same b hb (by rintro⟨n,o,hn,hbn⟩;exact hnb n o hn hbn)
  ·intro n o b hn hb;rw [(hE2 n (hk' n o hn)).1] at hb;by_cases hlt:b<w.heap.size
   ·obtain⟨m,o',hm,hbm⟩:=hG'.own n o b (hsub n o hn) hb hlt;exact .inr ⟨m,o',hm,hbm⟩
   ·exact .inl (by omega)
  ·intro n o hn;have hm:n∈yA objs++yA objs':=List.mem_append.2 (.inl (VC hn));exact (hG'.ext n o hn).trans (hEE0 n hm)
  ·intro n h1 h2;have hn:¬ (n∈yA objs\/n∈yA objs'):=by
    rintro (hn|hn)
    ·obtain⟨o,ho⟩:=nH hn;rw [ho] at h1;cases h1
    ·obtain⟨o,ho⟩:=nH hn;rw [ho] at h2;cases h2
   simp [E2,hn]
 have hret:mM X σ' fn.results.toList out->MC objs' σ'.objs ->
   a'.defers=[] /\ ∃ v,(results fn a'.tmps).run X.P w' = .ok v w' /\ ∃ E',dM E w objs E' w' objs'/\yU E' out (.returned v):=by
  intro ho hsub
  cases out with
  | panic p=>exact ho.elim
  | ret x =>
   obtain⟨v,hv,hrv⟩:=Th hT hG' ho;exact⟨hG'.defers.1,v,hv,E2,hdone hsub,v,rfl,RepV.mono (E:=E') (E':=E2) (Hle.refl _) x v (λ n hn=>hEE n (hno n (by simp [Out.names,hn]))) hrv⟩
 cases ae with
 | normal=>cases hrel;exact hret hq.1 hq.2
 | ret=>cases hrel;exact hret hq.1 hq.2
 | exit i=>exact hq.elim
 | panic p =>
  obtain⟨v,rfl,hv⟩:=hrel;obtain⟨ho,hsub⟩:=hq
  cases out with
  | ret x=>exact ho.elim
  | panic q =>
   simp only at ho;subst ho;exact⟨hG'.defers.1,E2,hdone hsub,v,rfl,hv⟩
def tD (n ver:Nat) (es:List (List PV)):V->V
 | .arr m v len=>if m=n/\v=ver then .pv (.slice (es.take len)) else .arr m v len
 | x=>x
def BC (n ver:Nat) (es:List (List PV)):List V->List V
 | []=>[]
 | x::xs=>tD n ver es x::BC n ver es xs
def cC (n ver:Nat) (es:List (List PV)):V->V
 | .agg cs=>LF (BC n ver es cs)
 | x=>tD n ver es x
def DQ (n ver:Nat) (es:List (List PV)):List (Nat × V)->List (Nat × V)
 | []=>[]
 | (t,x)::r=>(t,cC n ver es x)::DQ n ver es r
def ZB (n ver:Nat) (es:List (List PV)):Ob->Ob
 | .box cs => .box (BC n ver es cs)
 | o=>o
def nM (n ver:Nat) (es:List (List PV)):List (Nat × Ob)->List (Nat × Ob)
 | []=>[]
 | (k,o)::r=>if k=n then nM n ver es r else (k,ZB n ver es o)::nM n ver es r
def St.frz (σ:St) (n ver:Nat) (es:List (List PV)):St:=⟨DQ n ver es σ.slots,nM n ver es σ.objs,σ.used⟩
theorem JY (n ver:Nat) (es:List (List PV)) (cs:List V):(BC n ver es cs).length=cs.length:=by
 induction cs with
 | nil=>rfl
 | cons c cs ih=>simp [BC,ih]
theorem rU (n ver:Nat) (es:List (List PV)) (l:List (Nat × V)) (t:Nat):IA (DQ n ver es l) t=cC n ver es (IA l t):=by
 induction l with
 | nil=>rfl
 | cons p r ih =>
  obtain⟨k,x⟩:=p;simp only [DQ,IA,ih];split<;>rfl
theorem pM (n ver:Nat) (es:List (List PV)) (l:List (Nat × Ob)) (m:Nat):jA (nM n ver es l) m=if m=n then none else (jA l m).map (ZB n ver es):=by
 induction l with
 | nil=>simp [nM,jA]
 | cons p r ih =>
  obtain⟨k,x⟩:=p;simp only [nM,jA];by_cases e:k=n
  ·subst e;simp only [if_true,ih];by_cases e1:m=k
   ·simp [e1]
   ·have:¬ k=m:=λ h=>e1 h.symm
    simp [e1,this]
  ·simp only [e,if_false,jA,ih];by_cases e1:k=m
   ·subst e1;simp [e]
   ·simp [e1]
section
variable {C:Ctx} {E:Env} {σ:St} {a:Act} {w:World}
theorem KY (n ver:Nat) (es:List (List PV)) (x:V):∀ m∈(tD n ver es x).names,m∈x.names:=by
 intro m hm;unfold tD at hm;split at hm
 ·split at hm
  ·simp [V.names] at hm
  ·exact hm
 ·exact hm
theorem LY (n ver:Nat) (es:List (List PV)) (cs:List V):∀ m∈EA (BC n ver es cs),m∈EA cs:=by
 induction cs with
 | nil=>intro m hm;exact hm
 | cons c cs ih =>
  intro m hm;simp only [BC,EA,List.mem_append] at hm ⊢;rcases hm with hm|hm
  ·exact .inl (KY n ver es c m hm)
  ·exact .inr (ih m hm)
theorem Vh (n ver:Nat) (es:List (List PV)) (x:V):∀ m∈(cC n ver es x).names,m∈x.names:=by
 intro m hm;unfold cC at hm;split at hm
 ·simp only [V.names];exact LY n ver es _ m (mQ _ m hm)
 ·exact KY n ver es x m hm
theorem Ga.frz (h:Ga C E σ a w) {n ver sz ty:Nat} {es:List (List PV)} (ho:jA σ.objs n=some (.arr ver sz ty (vA es))):∃ E',Ga C E' (σ.frz n ver es) a w:=by
 have hob:=h.objs n _ ho;obtain⟨hver,hsz,hlen,_⟩:=id hob;obtain⟨ad,cap,hgn,hlc,hlm,hh⟩:=nQ hob;have hpl:(vA es).length=es.length:=by simp [vA]
 rw [hpl] at hgn hlc hlm
 -- the cells that are known from now on
 have hH:∃ H':Hp,Hle E.H H'/\HeapOK { E with H:=H' } w/\(∀ b,(∀ b',OA (E.g n)=some b'->b≠b')->H' b=E.H b)/\(es=[] \/ ∃ b,ad=some ⟨b,0,none⟩/\RepE H' es (H' b)):=by
  rcases hh with ⟨h1,h2,h3⟩|⟨b,cur,hb,hcur,hcs,hr,hfree⟩
  ·exact⟨E.H,Hle.refl _,h.heap,λ _ _=>rfl,.inl (by simpa [vA] using h2)⟩
  ·let H':Hp:=λ b'=>if b'=b then cur.toList.map sn else E.H b'
   have hHle:Hle E.H H':=by
    intro b';by_cases e:b'=b
    ·subst e;rw [hfree];exact List.nil_prefix
    ·simp [H',e]
   refine⟨H',hHle,?_,?_,.inr ⟨b,hb,?_⟩⟩
   ·intro b' hb';by_cases e:b'=b
    ·subst e;exact⟨cur,ty,(0,0),hcur,by simp [H',Msk.sn],.inl rfl⟩
    ·have hb'':E.H b'≠[]:=by simpa [H',e] using hb'
     obtain⟨c,T,fr,hc,hp⟩:=h.heap b' hb'';exact⟨c,T,fr,hc,by simpa [H',e] using hp.1,by simpa [H',e] using hp.2⟩
   ·intro b' hne;have:b'≠b:=hne b (by rw [hgn,hb];rfl);simp [H',this]
   ·have hre:=(RepVE.toPv (qM es) hr).sn;have:H' b=cur.toList.map sn:=by simp [H']
    rw [this];exact RepE.mono hHle es _ _ List.prefix_rfl hre
 obtain⟨H',hHle,hheap,hsame,hdata⟩:=hH;have hE:∀ m,EExt E { E with H:=H' } m:=λ m=>EExt.of_eq rfl rfl rfl
 have hc:=h.change (E':={ E with H:=H' }) n none (yF σ.objs n) σ.used none .undef undef (λ m=>ON _ _ _) hHle (λ _ _=>⟨rfl,rfl,rfl⟩) (λ _=>hE n) (λ _=>⟨_,ho⟩) (Nat.le_refl _) ⟨rfl,rfl,rfl⟩
  (λ b _ hne=>⟨rfl,hsame b (λ b' hb' e=>hne _ ho (e ▸ hb'))⟩) hheap (λ o e=>by cases e) (λ o b e=>by cases e) (λ _ h=>h) (by simp [RepV]) (by simp [V.names]) (by simp)
 have hv1:∀ (x:V) (v:Value),RepV { E with H:=H' } x v->RepV { E with H:=H' } (tD n ver es x) v:=by
  intro x v hx;unfold tD;split
  ·rename_i m vv len;split
   ·rename_i e;obtain⟨rfl,rfl⟩:=e;simp only [RepV] at hx;obtain⟨_,_,hx⟩:=hx;obtain⟨a',L,cap',hg',hv,hle⟩:=hx hver.symm;rw [hgn] at hg';cases hg';have htl:(es.take len).length=len:=by simp;omega
    simp only [RepV,RepP];refine⟨ad,cap,by rw [hv,htl],by omega,by omega,?_⟩;rcases hdata with rfl|⟨b,hb,hr⟩
    ·simp
    ·exact .inr ⟨b,0,hb,by simpa using hr.takeE len⟩
   ·exact hx
  ·exact hx
 have hvL:∀ (cs:List V) (vs:List Value),RepVL { E with H:=H' } cs vs->RepVL { E with H:=H' } (BC n ver es cs) vs:=by
  intro cs
  induction cs with
  | nil=>intro vs _;simp [BC,RepVL]
  | cons c cs ih =>
   intro vs hr
   cases vs with
   | nil=>simp [RepVL] at hr
   | cons v vs =>
    simp only [RepVL] at hr;simp only [BC,RepVL];exact⟨hv1 c v hr.1,ih vs hr.2⟩
 refine⟨{ E with H:=H' },?_,hc.size,hc.defers,hc.heap,?_,?_,?_,?_,hc.usedG,hc.grown,hc.rest,hc.same,hc.hle,?_,hc.ext,λ k hk=>⟨(hc.keep k hk).1,?_,(hc.keep k hk).2.2⟩⟩
 ·intro t;simp only [St.frz,rU];have hx:=hc.slots t;simp only [tC] at hx;unfold cC;split
  ·rename_i cs e;rw [e] at hx;simp only [RepV] at hx;obtain⟨vs,hv,hl,hr⟩:=hx;have hv:a.tmps.getD t undef = .agg vs.toArray:=hv;rw [hv];exact lQ (by rw [hl,JY]) (hvL cs vs hr)
  ·exact hv1 _ _ hx
 ·intro m o hm;simp only [St.frz,pM] at hm;split at hm
  ·cases hm
  ·rename_i hne
   cases hq:jA σ.objs m with
   | none=>rw [hq] at hm;cases hm
   | some q =>
    rw [hq] at hm;simp only [Option.map_some,Option.some.injEq] at hm;subst hm;have hq':jA (yF σ.objs n) m=some q:=by rw [ON,if_neg hne,hq]
    have hok:=hc.objs m q hq'
    cases q with
    | box cs =>
     obtain⟨b,c,T,h1,h2,h3,h4,h5⟩:=hok;exact⟨b,c,T,h1,h2,by rw [h3,JY],hvL cs _ h4,h5⟩
    | arr v s t es'=>exact hok
    | smap s es=>exact hok
    | siter l p=>exact hok
    | raw v x=>exact hok
 ·intro m m' o o' hm hm' hne b hb;simp only [St.frz,pM] at hm hm';split at hm
  ·cases hm
  ·split at hm'
   ·cases hm'
   ·cases hq:jA σ.objs m with
    | none=>rw [hq] at hm;cases hm
    | some q =>
     cases hq':jA σ.objs m' with
     | none=>rw [hq'] at hm';cases hm'
     | some q'=>exact h.apart m m' q q' hq hq' hne b hb
 ·intro t m hm;simp only [St.frz,rU] at hm;exact h.usedS t m (Vh n ver es _ m hm)
 ·intro m o hm;simp only [St.frz,pM] at hm;split at hm
  ·cases hm
  ·cases hq:jA σ.objs m with
   | none=>rw [hq] at hm;cases hm
   | some q =>
    rw [hq] at hm;simp only [Option.map_some,Option.some.injEq] at hm;subst hm;refine⟨(h.usedO m q hq).1,λ k hk=>(h.usedO m q hq).2 k ?_⟩
    cases q with
    | box cs=>exact LY n ver es cs k hk
    | arr v s t es'=>exact hk
    | smap s es=>exact hk
    | siter l p=>exact hk
    | raw v x=>exact hk
 ·intro m o b hm hb hlt;simp only [St.frz,pM] at hm;split at hm
  ·cases hm
  ·cases hq:jA σ.objs m with
   | none=>rw [hq] at hm;cases hm
   | some q=>exact h.own m q b hq hb hlt
 ·simp only [St.frz,pM];have:=(h.keep k hk).2.1;split
  ·rfl
  ·rw [this];rfl
end
section
variable {X:PA} {draw:Bool} {ops:List Oper} {K:St->List Eff->Prop} {Qp:PV->St->Prop} {o:Oper} {rest:List Oper} {σ:St} {tr:List Eff}
theorem Wh {c:Operand} {x y:Code} {Q:AB->St->Prop} {v:V} (hv:σ.val X.gl c=v) (h:FY v (AWP X x σ Q) (AWP X y σ Q)):AWP X (.cond c x y) σ Q:=by
 intro C E a w hC hG;have hr:=NA hG hC.glob c;rw [hv] at hr;unfold FY at h;split at h
 ·rename_i b;exact wp_cond_split (PF hr) (λ hb=>h.1 hb C E a w hC hG) (λ hb=>h.2 hb C E a w hC hG)
 ·simp only [RepV,RepP] at hr;obtain⟨d,hr,hd⟩:=hr;exact wp_cond_split hr (λ hb=>h.1 (hd hb) C E a w hC hG) (λ hb=>h.2 C E a w hC hG)
 ·cases h
end
theorem pvE_app (a b:List (List PV)):vA a++vA b=vA (a++b):=by simp [vA]
theorem pvE_len (a:List (List PV)):(vA a).length=a.length:=by simp [vA]
theorem Xh (es:List (List PV)) (i:Nat):(vA es)[i]? = (es[i]?).map xA:=by simp [vA]
def sH (X:PA) (b:Code) (Q:AB->St->Prop):Nat->St->Prop
 | 0,_=>False
 | n+1,σ=>AWP X b σ (AQ (sH X b Q n) Q)
theorem bO {X:PA} {b:Code} {Q:AB->St->Prop} {n:Nat} {σ:St} (h:AWP X b σ (AQ (sH X b Q n) Q)):sH X b Q (n+1) σ:=h
theorem MY {X:PA} {b:Code} {Q:AB->St->Prop} {C:Ctx} (hC:vO X C):∀ (n:Nat) (σ:St) (E:Env) (a:Act) (w:World),Ga C E σ a w->sH X b Q n σ->Code.rounds X.P b (lM C Q) n a w
 | 0,_,_,_,_,_,h=>h.elim
 | n+1,σ,E,a,w,hG,h=>by
  rw [rounds_succ];refine wp_mono (h C E a w hC hG) ?_
  rintro e a' w' ⟨E',σ',ae,hG',hrel,hq⟩
  cases ae with
  | normal=>cases hrel;exact MY hC n σ' E' a' w' hG' hq
  | exit i=>cases hrel;exact⟨E',σ',.exit i,hG',rfl,hq⟩
  | ret=>cases hrel;exact⟨E',σ',.ret,hG',rfl,hq⟩
  | panic p=>obtain⟨v,rfl,hv⟩:=hrel;exact⟨E',σ',.panic p,hG',⟨v,rfl,hv⟩,hq⟩
theorem Yh (n:Nat) {X:PA} {b:Code} {Q:AB->St->Prop} {σ:St} (h:sH X b Q n σ):AWP X (.loop b) σ Q :=
 λ _ E a w hC hG=>wp_loop_rounds n (MY hC n σ E a w hG h)
section
variable {X:PA} {C:Ctx}
end
section
variable {C:Ctx} {E:Env} {σ:St} {a:Act} {w:World}
def tH (K:List PV->PV) (n:Nat) (ps:List PV):V->V
 | .loc m off=>if m=n then .pv (K (ps.drop off)) else .loc m off
 | x=>x
def MG (K:List PV->PV) (n:Nat) (ps:List PV):List V->List V
 | []=>[]
 | x::xs=>tH K n ps x::MG K n ps xs
def EQ (K:List PV->PV) (n:Nat) (ps:List PV):List (Nat × V)->List (Nat × V)
 | []=>[]
 | (t,x)::r=>(t,tH K n ps x)::EQ K n ps r
def vI (K:List PV->PV) (n:Nat) (ps:List PV):Ob->Ob
 | .box cs => .box (MG K n ps cs)
 | o=>o
def rM (K:List PV->PV) (n:Nat) (ps:List PV):List (Nat × Ob)->List (Nat × Ob)
 | []=>[]
 | (k,o)::r=>if k=n then rM K n ps r else (k,vI K n ps o)::rM K n ps r
def St.frb (K:List PV->PV) (σ:St) (n:Nat) (ps:List PV):St:=⟨EQ K n ps σ.slots,rM K n ps σ.objs,σ.used⟩
theorem Zh (K:List PV->PV) (n:Nat) (ps:List PV) (cs:List V):(MG K n ps cs).length=cs.length:=by
 induction cs with
 | nil=>rfl
 | cons c cs ih=>simp [MG,ih]
theorem sU (K:List PV->PV) (n:Nat) (ps:List PV) (l:List (Nat × V)) (t:Nat):IA (EQ K n ps l) t=tH K n ps (IA l t):=by
 induction l with
 | nil=>rfl
 | cons p r ih =>
  obtain⟨k,x⟩:=p;simp only [EQ,IA,ih];split<;>rfl
theorem sM (K:List PV->PV) (n:Nat) (ps:List PV) (l:List (Nat × Ob)) (m:Nat):jA (rM K n ps l) m=if m=n then none else (jA l m).map (vI K n ps):=by
 induction l with
 | nil=>simp [rM,jA]
 | cons p r ih =>
  obtain⟨k,x⟩:=p;simp only [rM,jA];by_cases e:k=n
  ·subst e;simp only [if_true,ih];by_cases e1:m=k
   ·simp [e1]
   ·have:¬ k=m:=λ h=>e1 h.symm
    simp [e1,this]
  ·simp only [e,if_false,jA,ih];by_cases e1:k=m
   ·subst e1;simp [e]
   ·simp [e1]
theorem NY (K:List PV->PV) (n:Nat) (ps:List PV) (x:V):∀ m∈(tH K n ps x).names,m∈x.names:=by
 intro m hm;unfold tH at hm;split at hm
 ·split at hm
  ·simp [V.names] at hm
  ·exact hm
 ·exact hm
theorem qi (K:List PV->PV) (n:Nat) (ps:List PV) (cs:List V):∀ m∈EA (MG K n ps cs),m∈EA cs:=by
 induction cs with
 | nil=>intro m hm;exact hm
 | cons c cs ih =>
  intro m hm;simp only [MG,EA,List.mem_append] at hm ⊢;rcases hm with hm|hm
  ·exact .inl (NY K n ps c m hm)
  ·exact .inr (ih m hm)
def flgs:List PV->List PV->Prop
 | [],[]=>True
 | .bool c::qs,.flg b::ps=>(c=true->b=true)/\flgs qs ps
 | q::qs,p::ps=>(q=p /\ ∀ b,p ≠ .flg b)/\flgs qs ps
 | _,_=>False
def kn:List PV->List Value->List Value
 | [],l=>l.map sn
 | _,[]=>[]
 | .flg b::ps,_::l=>mark b::kn ps l
 | _::ps,v::l=>sn v::kn ps l
theorem Msk.cons {u v:Value} {l m:List Value} (h:Msk l m) (h1:(u=v/\(∀ b,u≠mark b))\/u=kC \/ ∃ b c,u=mark b/\v = .bool c/\(c=true->b=true)):Msk (u::l) (v::m):=by
 refine⟨by have:=h.1;simp;omega,λ i x hi h2 h3 => ?_,λ i b hi => ?_⟩
 ·cases i with
  | zero =>
   simp at hi;subst hi;rcases h1 with ⟨rfl,_⟩|rfl|⟨b,c,rfl,_⟩
   ·rfl
   ·exact absurd rfl h2
   ·exact absurd rfl (h3 b)
  | succ i=>simpa using h.2.1 i x (by simpa using hi) h2 h3
 ·cases i with
  | zero =>
   simp at hi;subst hi;rcases h1 with ⟨_,h1⟩|h1|⟨b',c,h1,rfl,h2⟩
   ·exact absurd rfl (h1 b)
   ·exact absurd h1 (jg b)
   ·rw [RX h1];exact⟨c,rfl,h2⟩
  | succ i=>simpa using h.2.2 i b (by simpa using hi)
theorem ji (v:Value):(sn v=v /\ ∀ b,sn v≠mark b)\/sn v=kC:=by
 by_cases h:sn v=kC
 ·exact .inr h
 ·exact .inl ⟨VX h,UX v⟩
theorem tU {H:Hp} : ∀ {qs ps:List PV} {l:List Value},flgs qs ps->RepL H qs l->Msk (kn ps l) l/\RepK H ps (kn ps l)
 | [],[],l,_,_=>⟨by simp only [kn];exact Msk.sn l,by simp only [RepK]⟩
 | [],_::_,_,h,_=>by simp [flgs] at h
 | q::qs,[],_,h,_=>by cases q<;>simp [flgs] at h
 | q::qs,p::ps,[],h,r=>by simp [RepL] at r
 | q::qs,p::ps,v::l,h,r=>by
  simp only [RepL] at r;by_cases hp:∃ b,p = .flg b
  ·obtain⟨b,rfl⟩:=hp;cases q<;>simp [flgs] at h;rename_i c;obtain⟨h1,h2⟩:=tU h.2 r.2;have hv:=r.1;simp only [RepP] at hv;simp only [kn];exact⟨h1.cons (.inr (.inr ⟨b,c,rfl,hv,h.1⟩)),RepK.cons (.inr ⟨b,rfl,rfl⟩) h2⟩
  ·have hp:∀ b,p ≠ .flg b:=λ b e=>hp ⟨b,e⟩
   have hf:q=p/\flgs qs ps:=by
    rw [flgs.eq_3 _ _ _ _ (λ c b _ e=>hp b e)] at h;exact⟨h.1.1,h.2⟩
   obtain⟨rfl,hf⟩:=hf;obtain⟨h1,h2⟩:=tU hf r.2;rw [kn.eq_4 _ _ _ _ (λ b e=>hp b e)];refine⟨h1.cons ?_,RepK.cons (.inl ⟨?_,hp⟩) h2⟩
   ·rcases ji v with h|h
    ·exact .inl h
    ·exact .inr (.inl h)
   ·rw [r.1.sn];exact r.1
def dO (K:List PV->PV) (qs ps:List PV):Prop :=
 ∀ (H:Hp) (cur:List Value),RepL H qs cur->∃ l,Msk l cur/\(∀ v∈l,True) /\ ∀ (b:Nat) (H':Hp),Hle H H'->H' b=l->∀ off,RepP H' (K (ps.drop off)) (.pointer (some ⟨b,off,none⟩))
theorem vi {qs ps:List PV} (h:flgs qs ps):dO PV.nptr qs ps:=by
 intro H cur r;obtain⟨h1,h2⟩:=tU h r;refine⟨kn ps cur,h1,λ _ _=>trivial,λ b H' hh e off => ?_⟩;simp only [RepP];exact⟨b,off,rfl,by rw [e];exact RepK.drop off (RepK.mono hh ps _ _ List.prefix_rfl h2)⟩
theorem Ga.frb (h:Ga C E σ a w) {K:List PV->PV} {n:Nat} {qs ps:List PV} (ho:jA σ.objs n=some (.box (xA qs))) (hcan:dO K qs ps):∃ E',Ga C E' (σ.frb K n ps) a w:=by
 obtain⟨b,cur,T,hgn,hcur,hcs,hr,hfree⟩:=h.objs n _ ho;obtain⟨l,hl1,_,hl2⟩:=hcan E.H cur.toList (RepVL.toPv (WX qs) hr);let H':Hp:=λ b'=>if b'=b then l else E.H b'
 have hHle:Hle E.H H':=by
  intro b';by_cases e:b'=b
  ·subst e;rw [hfree];exact List.nil_prefix
  ·simp [H',e]
 have hheap:HeapOK { E with H:=H' } w:=by
  intro b' hb';by_cases e:b'=b
  ·subst e;exact⟨cur,T,(0,0),hcur,by simpa [H'] using hl1,.inl rfl⟩
  ·have hb'':E.H b'≠[]:=by simpa [H',e] using hb'
   obtain⟨c,T,fr,hc,hp⟩:=h.heap b' hb'';exact⟨c,T,fr,hc,by simpa [H',e] using hp.1,by simpa [H',e] using hp.2⟩
 have hsame:∀ b',b'≠b->H' b'=E.H b':=by intro b' hne;simp [H',hne]
 have hE:∀ m,EExt E { E with H:=H' } m:=λ m=>EExt.of_eq rfl rfl rfl
 have hc:=h.change (E':={ E with H:=H' }) n none (yF σ.objs n) σ.used none .undef undef (λ m=>ON _ _ _) hHle (λ _ _=>⟨rfl,rfl,rfl⟩) (λ _=>hE n) (λ _=>⟨_,ho⟩) (Nat.le_refl _) ⟨rfl,rfl,rfl⟩
  (λ b' _ hne=>⟨rfl,hsame b' (λ e=>hne _ ho (by rw [e,hgn];rfl))⟩) hheap (λ o e=>by cases e) (λ o b e=>by cases e) (λ _ h=>h) (by simp [RepV]) (by simp [V.names]) (by simp)
 have hv1:∀ (x:V) (v:Value),RepV { E with H:=H' } x v->RepV { E with H:=H' } (tH K n ps x) v:=by
  intro x v hx;unfold tH;split
  ·rename_i m off;split
   ·rename_i e;subst e;simp only [RepV] at hx;obtain⟨b',hg',hv⟩:=hx;rw [hgn] at hg';cases hg';simp only [RepV];rw [hv];exact hl2 b H' hHle (by simp [H']) off
   ·exact hx
  ·exact hx
 have hvL:∀ (cs:List V) (vs:List Value),RepVL { E with H:=H' } cs vs->RepVL { E with H:=H' } (MG K n ps cs) vs:=by
  intro cs
  induction cs with
  | nil=>intro vs _;simp [MG,RepVL]
  | cons c cs ih =>
   intro vs hr
   cases vs with
   | nil=>simp [RepVL] at hr
   | cons v vs =>
    simp only [RepVL] at hr;simp only [MG,RepVL];exact⟨hv1 c v hr.1,ih vs hr.2⟩
 refine⟨{ E with H:=H' },?_,hc.size,hc.defers,hc.heap,?_,?_,?_,?_,hc.usedG,hc.grown,hc.rest,hc.same,hc.hle,?_,hc.ext,λ k hk=>⟨(hc.keep k hk).1,?_,(hc.keep k hk).2.2⟩⟩
 ·intro t;simp only [St.frb,sU];exact hv1 _ _ (hc.slots t)
 ·intro m o hm;simp only [St.frb,sM] at hm;split at hm
  ·cases hm
  ·rename_i hne
   cases hq:jA σ.objs m with
   | none=>rw [hq] at hm;cases hm
   | some q =>
    rw [hq] at hm;simp only [Option.map_some,Option.some.injEq] at hm;subst hm;have hq':jA (yF σ.objs n) m=some q:=by rw [ON,if_neg hne,hq]
    have hok:=hc.objs m q hq'
    cases q with
    | box cs =>
     obtain⟨b,c,T,h1,h2,h3,h4,h5⟩:=hok;exact⟨b,c,T,h1,h2,by rw [h3,Zh],hvL cs _ h4,h5⟩
    | arr v s t es'=>exact hok
    | smap s es=>exact hok
    | siter l p=>exact hok
    | raw v x=>exact hok
 ·intro m m' o o' hm hm' hne b hb;simp only [St.frb,sM] at hm hm';split at hm
  ·cases hm
  ·split at hm'
   ·cases hm'
   ·cases hq:jA σ.objs m with
    | none=>rw [hq] at hm;cases hm
    | some q =>
     cases hq':jA σ.objs m' with
     | none=>rw [hq'] at hm';cases hm'
     | some q'=>exact h.apart m m' q q' hq hq' hne b hb
 ·intro t m hm;simp only [St.frb,sU] at hm;exact h.usedS t m (NY K n ps _ m hm)
 ·intro m o hm;simp only [St.frb,sM] at hm;split at hm
  ·cases hm
  ·cases hq:jA σ.objs m with
   | none=>rw [hq] at hm;cases hm
   | some q =>
    rw [hq] at hm;simp only [Option.map_some,Option.some.injEq] at hm;subst hm;refine⟨(h.usedO m q hq).1,λ k hk=>(h.usedO m q hq).2 k ?_⟩
    cases q with
    | box cs=>exact qi K n ps cs k hk
    | arr v s t es'=>exact hk
    | smap s es=>exact hk
    | siter l p=>exact hk
    | raw v x=>exact hk
 ·intro m o b hm hb hlt;simp only [St.frb,sM] at hm;split at hm
  ·cases hm
  ·cases hq:jA σ.objs m with
   | none=>rw [hq] at hm;cases hm
   | some q=>exact h.own m q b hq hb hlt
 ·simp only [St.frb,sM];have:=(h.keep k hk).2.1;split
  ·rfl
  ·rw [this];rfl
end
end Go.Lg
namespace Go.Lg
mutual
def V.ren (ρ:Nat->Nat):V->V
 | .undef => .undef
 | .pv p => .pv p
 | .loc n off => .loc (ρ n) off
 | .eloc n ver i off => .eloc (ρ n) ver i off
 | .arr n ver len => .arr (ρ n) ver len
 | .map n => .map (ρ n)
 | .vsl es => .vsl (gE ρ es)
 | .fsl es => .fsl es
 | .fn f cs => .fn f (uD ρ cs)
 | .bfn f cs => .bfn f (uD ρ cs)
 | .agg cs => .agg (uD ρ cs)
 | .tuple cs => .tuple (uD ρ cs)
def uD (ρ:Nat->Nat):List V->List V
 | []=>[]
 | c::cs=>c.ren ρ::uD ρ cs
def gE (ρ:Nat->Nat):List (List V)->List (List V)
 | []=>[]
 | e::es=>uD ρ e::gE ρ es
end
theorem wi (ρ:Nat->Nat) (l:List V):uD ρ l=l.map (V.ren ρ):=by
 induction l with
 | nil=>rfl
 | cons c l ih=>simp [uD,ih]
theorem OY (ρ:Nat->Nat) (l:List (List V)):gE ρ l=l.map (uD ρ):=by
 induction l with
 | nil=>rfl
 | cons c l ih=>simp [gE,ih]
theorem kJ (ρ:Nat->Nat) (l:List V):(uD ρ l).length=l.length:=by simp [wi]
theorem PY (ρ:Nat->Nat) (l:List (List V)):(gE ρ l).length=l.length:=by simp [OY]
def wI (ρ:Nat->Nat):List (SK × V)->List (SK × V)
 | []=>[]
 | (k,x)::r=>(k,x.ren ρ)::wI ρ r
def Ob.ren (ρ:Nat->Nat):Ob->Ob
 | .box cs => .box (uD ρ cs)
 | .arr ver sz ty es => .arr ver sz ty (gE ρ es)
 | .smap s es => .smap s (wI ρ es)
 | .siter l p => .siter l p
 | .raw v x => .raw v x
def lE (ρ:Nat->Nat):List (Nat × Ob)->List (Nat × Ob)
 | []=>[]
 | (n,o)::r=>(ρ n,o.ren ρ)::lE ρ r
def Out.ren (ρ:Nat->Nat):Out->Out
 | .ret x => .ret (x.ren ρ)
 | .panic p => .panic p
def Env.comp (E:Env) (ρ:Nat->Nat):Env:=⟨E.H,λ n=>E.g (ρ n),λ n=>E.ver (ρ n),λ n=>E.sz (ρ n)⟩
mutual
theorem RepV.ren {E:Env} {ρ:Nat->Nat} : ∀ (x:V) (v:Value),RepV E (x.ren ρ) v↔RepV (E.comp ρ) x v
 | .undef,_=>by simp [V.ren,RepV]
 | .pv p,v=>by simp [V.ren,RepV,Env.comp]
 | .loc n off,v=>by simp [V.ren,RepV,Env.comp]
 | .eloc n ver i off,v=>by simp [V.ren,RepV,Env.comp]
 | .arr n ver len,v=>by simp [V.ren,RepV,Env.comp]
 | .map n,v=>by simp [V.ren,RepV,Env.comp]
 | .vsl es,v=>by
  simp only [V.ren,RepV,PY];have h:∀ vs,RepVE E (gE ρ es) vs↔RepVE (E.comp ρ) es vs:=RepVE.ren es;have hn:gE ρ es=[]↔es=[]:=by cases es<;>simp [gE]
  simp only [h,hn];rfl
 | .fsl es,v=>by simp [V.ren,RepV,Env.comp]
 | .fn f cs,v=>by simp only [V.ren,RepV,kJ,RepVL.ren cs]
 | .bfn f cs,v=>by simp only [V.ren,RepV,kJ,RepVL.ren cs]
 | .agg cs,v=>by simp only [V.ren,RepV,kJ,RepVL.ren cs]
 | .tuple cs,v=>by simp only [V.ren,RepV,kJ,RepVL.ren cs]
theorem RepVL.ren {E:Env} {ρ:Nat->Nat} : ∀ (cs:List V) (vs:List Value),RepVL E (uD ρ cs) vs↔RepVL (E.comp ρ) cs vs
 | [],_=>by simp [uD,RepVL]
 | c::cs,[]=>by simp [uD,RepVL]
 | c::cs,v::vs=>by simp only [uD,RepVL,RepV.ren c v,RepVL.ren cs vs]
theorem RepVE.ren {E:Env} {ρ:Nat->Nat} : ∀ (es:List (List V)) (vs:List Value),RepVE E (gE ρ es) vs↔RepVE (E.comp ρ) es vs
 | [],_=>by simp [gE,RepVE]
 | e::es,vs=>by simp only [gE,RepVE,kJ,RepVL.ren e vs,RepVE.ren es (vs.drop e.length)]
end
theorem EntsS.ren {E:Env} {ρ:Nat->Nat} {s:Bool} : ∀ (es:List (SK × V)) (ms:List MapEntry),EntsS E s (wI ρ es) ms↔EntsS (E.comp ρ) s es ms
 | [],[]=>Iff.rfl
 | [],_::_=>Iff.rfl
 | (k,x)::es,[]=>Iff.rfl
 | (k,x)::es,m::ms=>by simp only [wI,EntsS,RepV.ren x,EntsS.ren es ms]
theorem ObOK.ren {E:Env} {w:World} {ρ:Nat->Nat} {n:Nat} (o:Ob):ObOK E w (ρ n) (o.ren ρ)↔ObOK (E.comp ρ) w n o:=by
 cases o with
 | box cs=>simp only [Ob.ren,ObOK,kJ,RepVL.ren cs];rfl
 | arr ver sz ty es =>
  have h:(∀ e∈gE ρ es,e.length=sz) ↔ ∀ e∈es,e.length=sz:=by
   rw [OY];simp [kJ]
  simp only [Ob.ren,ObOK,PY,RepVE.ren es,h];rfl
 | smap s es=>simp only [Ob.ren,ObOK,EntsS.ren es];rfl
 | siter l p=>simp only [Ob.ren,ObOK];rfl
 | raw v x=>simp only [Ob.ren,ObOK];rfl
mutual
theorem V.ren_names (ρ:Nat->Nat):∀ x:V,(x.ren ρ).names=x.names.map ρ
 | .undef=>rfl
 | .pv _=>rfl
 | .loc _ _=>rfl
 | .eloc _ _ _ _=>rfl
 | .arr _ _ _=>rfl
 | .map _=>rfl
 | .vsl es=>by simp only [V.ren,V.names,aU ρ es]
 | .fsl _=>rfl
 | .fn _ cs=>by simp only [V.ren,V.names,yJ ρ cs]
 | .bfn _ cs=>by simp only [V.ren,V.names,yJ ρ cs]
 | .agg cs=>by simp only [V.ren,V.names,yJ ρ cs]
 | .tuple cs=>by simp only [V.ren,V.names,yJ ρ cs]
theorem yJ (ρ:Nat->Nat):∀ l:List V,EA (uD ρ l)=(EA l).map ρ
 | []=>rfl
 | c::cs=>by simp only [uD,EA,V.ren_names ρ c,yJ ρ cs,List.map_append]
theorem aU (ρ:Nat->Nat):∀ l:List (List V),jB (gE ρ l)=(jB l).map ρ
 | []=>rfl
 | e::es=>by simp only [gE,jB,yJ ρ e,aU ρ es,List.map_append]
end
theorem QY (ρ:Nat->Nat):∀ l:List (SK × V),bC (wI ρ l)=(bC l).map ρ
 | []=>rfl
 | (k,x)::r=>by simp only [wI,bC,V.ren_names ρ x,QY ρ r,List.map_append]
theorem Ob.ren_names (ρ:Nat->Nat) (o:Ob):(o.ren ρ).names=o.names.map ρ:=by
 cases o with
 | box cs=>simp only [Ob.ren,Ob.names,yJ]
 | arr ver sz ty es=>simp only [Ob.ren,Ob.names,aU]
 | smap s es=>simp only [Ob.ren,Ob.names,QY]
 | siter l p=>rfl
 | raw v x=>rfl
section
variable {ρ:Nat->Nat} (hρ:∀ n,ρ (ρ n)=n)
include hρ
theorem RY {a b:Nat} (h:ρ a=ρ b):a=b:=by rw [<- hρ a,h,hρ]
theorem cU (l:List (Nat × Ob)) (n:Nat):jA (lE ρ l) n=(jA l (ρ n)).map (Ob.ren ρ):=by
 induction l with
 | nil=>rfl
 | cons p r ih =>
  obtain⟨k,o⟩:=p;simp only [lE,jA,ih];by_cases e:ρ k=n
  ·subst e;simp [hρ]
  ·have:¬ k=ρ n:=λ h=>e (by rw [h,hρ])
   simp [e,this]
theorem GQ (l:List (Nat × Ob)):yA (lE ρ l)=(yA l).map ρ:=by
 induction l with
 | nil=>rfl
 | cons p r ih =>
  obtain⟨k,o⟩:=p;simp only [lE,yA,List.map_cons] at ih ⊢;rw [ih]
theorem SY (args:List V) (l:List (Nat × Ob)):bE (uD ρ args) (lE ρ l)=(bE args l).map ρ:=by
 have h:aC (lE ρ l)=(aC l).map ρ:=by
  induction l with
  | nil=>rfl
  | cons p r ih =>
   obtain⟨k,o⟩:=p;simp only [lE,aC,List.map_append,Ob.ren_names,ih]
 simp only [bE,yJ,h,List.map_append]
theorem AC.ren {P:Program} {gl:Nat->Option (List PV)} {f:Nat} {args:List V} {objs:List (Nat × Ob)} {out:Out} {objs':List (Nat × Ob)} (h:AC P gl f args objs out objs') :
  AC P gl f (uD ρ args) (lE ρ objs) (out.ren ρ) (lE ρ objs'):=by
 have hmem:∀ {l:List Nat} {n:Nat},n∈l.map ρ↔ρ n∈l:=by
  intro l n;rw [List.mem_map];exact⟨λ ⟨m,hm,e⟩=>by rw [<- e,hρ];exact hm,λ hm=>⟨ρ n,hm,hρ n⟩⟩
 have hget:∀ {l:List (Nat × Ob)} {n:Nat} {o:Ob},jA (lE ρ l) n=some o->∃ o',jA l (ρ n)=some o'/\o'.ren ρ=o:=by
  intro l n o hn;rw [cU hρ] at hn
  cases e:jA l (ρ n) with
  | none=>rw [e] at hn;cases hn
  | some o'=>rw [e] at hn;exact⟨o',rfl,Option.some.inj hn⟩
 have hget':∀ {l:List (Nat × Ob)} {n:Nat} {o:Ob},jA l n=some o->jA (lE ρ l) (ρ n)=some (o.ren ρ):=by
  intro l n o hn;rw [cU hρ,hρ,hn];rfl
 have hnone:∀ {l:List (Nat × Ob)} {n:Nat},jA (lE ρ l) n=none->jA l (ρ n)=none:=by
  intro l n hn;rw [cU hρ] at hn
  cases e:jA l (ρ n) with
  | none=>rfl
  | some o'=>rw [e] at hn;cases hn
 refine⟨h.direct,?_,?_,?_⟩
 ·intro n hn;rw [GQ hρ,GQ hρ,SY hρ,hmem,hmem,hmem]
  cases out with
  | ret x =>
   simp only [Out.ren,Out.names,V.ren_names,hmem] at hn;exact h.names (ρ n) hn
  | panic p=>simp [Out.ren,Out.names] at hn
 ·intro m o hm n hn;obtain⟨o',ho',rfl⟩:=hget hm;rw [Ob.ren_names,hmem] at hn;rw [GQ hρ,GQ hρ,SY hρ,hmem,hmem,hmem];exact h.namesO _ o' ho' _ hn
 ·intro E w vs hB hl hr;have hB':qO gl (E.comp ρ) w objs:=by
   refine⟨hB.heap,hB.glob,λ n o hn=>(ObOK.ren o).1 (hB.obs _ _ (hget' hn)),λ n m o o' hn hm hne b hb => ?_⟩;exact hB.apart (ρ n) (ρ m) _ _ (hget' hn) (hget' hm) (λ e=>hne (RY hρ e)) b hb
  refine (h.calls (E.comp ρ) w vs hB' (by rw [hl,kJ]) ((RepVL.ren args vs).1 hr)).mono ?_
  rintro e w' ⟨E',hD,ho⟩
  have hcomp:∀ F:Env,(F.comp ρ).comp ρ=F:=by
   intro F;simp [Env.comp,hρ]
  refine⟨E'.comp ρ,⟨hD.heap,?_,?_,hD.hle,hD.size,hD.rest,?_,?_,?_,?_⟩,?_⟩
  ·intro n o hn;obtain⟨o',ho',rfl⟩:=hget hn;have:=hD.obs _ o' ho';rw [<- hcomp E'] at this;have:=(ObOK.ren (E:=E'.comp ρ) (n:=ρ n) o').2 this;rwa [hρ] at this
  ·intro n m o o' hn hm hne b hb;obtain⟨q,hq,_⟩:=hget hn;obtain⟨q',hq',_⟩:=hget hm;exact hD.apart (ρ n) (ρ m) q q' hq hq' (λ e=>hne (RY hρ e)) b hb
  ·intro b hb hnb;refine hD.same b hb (λ n o hn e => ?_);exact hnb (ρ n) _ (hget' hn) e
  ·intro n o b hn hb;obtain⟨q,hq,_⟩:=hget hn;rcases hD.own (ρ n) q b hq hb with h1|⟨m,o',hm,hbm⟩
   ·exact .inl h1
   ·exact .inr ⟨ρ m,_,hget' hm,hbm⟩
  ·intro n o hn;obtain⟨q,hq,_⟩:=hget hn;have:=hD.ext (ρ n) q hq;simpa [EExt,Env.comp,hρ] using this
  ·intro n h1 h2;have:=hD.other (ρ n) (hnone h1) (hnone h2);simpa [Env.comp,hρ] using this
  ·cases out with
   | ret x =>
    obtain⟨v,rfl,hv⟩:=ho;refine⟨v,rfl,?_⟩;rw [<- hcomp E'] at hv;exact (RepV.ren x v).2 hv
   | panic p =>
    obtain⟨v,rfl,hv⟩:=ho;exact⟨v,rfl,hv⟩
end
end Go.Lg
namespace Go.Lg
end Go.Lg
namespace Go.Lg
end Go.Lg
namespace Go.Lg
theorem AC.le {P:Program} {gl:Nat->Option (List PV)} {f:Nat} {args args':List V} {objs objs':List (Nat × Ob)} {out:Out} (h:AC P gl f args' objs out objs') (hl:args.length=args'.length) (hm:bE args objs=bE args' objs)
  (hr:∀ E vs,RepVL E args vs->RepVL E args' vs):AC P gl f args objs out objs' :=
 ⟨h.direct,by rw [hm];exact h.names,by rw [hm];exact h.namesO,λ E w vs hB hv hR=>h.calls E w vs hB (hv.trans hl) (hr E vs hR)⟩
theorem AC.leO {P:Program} {gl:Nat->Option (List PV)} {f:Nat} {args:List V} {objs objs':List (Nat × Ob)} {p q:PV} (h:AC P gl f args objs (.ret (.pv p)) objs') (hr:∀ H v,RepP H p v->RepP H q v):AC P gl f args objs (.ret (.pv q)) objs':=by
 refine⟨h.direct,h.names,h.namesO,λ E w vs hB hv hR=>(h.calls E w vs hB hv hR).mono ?_⟩
 rintro e w' ⟨E',hd,v,he,hv⟩
 exact⟨E',hd,v,he,hr _ _ hv⟩
theorem yi {H:Hp} {v:Value} (h:RepP H .nils v):RepP H (.slice []) v:=by
 simp only [RepP] at h ⊢;exact⟨none,0,by simpa using h,by simp,by simp,by simp⟩
end Go.Lg
