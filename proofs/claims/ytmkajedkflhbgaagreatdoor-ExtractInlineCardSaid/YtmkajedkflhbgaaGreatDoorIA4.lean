/- The logic of contracts; no conditions. -/
import Derived.Test.YtmkajedkflhbgaaGreatDoorIA3
import Derived.LoopN
import Derived.Defers
import Derived.Recover
set_option linter.all false
namespace Go.Lg
theorem TIOK.mk' {P:Program} {t:Nat} {ti:TI} {d:TypeDesc} (h1:(P.info? t).map (λ i=>(i.size,i.bytes,i.zero))=some (ti.size,ti.bytes,some ti.zero)) (h2:P.underlying t=some d) (hk:IB P d ti.k)
  (h3:ti.zero.cells.size=ti.size) (h4:RepL (λ _=>[]) ti.zc ti.zero.cells.toList) (h5:ti.zc.length=ti.size) (h6:ti.k.isIface=true\/P.concrete t=true):TIOK P t ti:=by
 refine⟨?_,⟨d,h2,hk⟩,h3,h4,h5,h6⟩
 cases hi:P.info? t with
 | none=>rw [hi] at h1;cases h1
 | some i =>
  rw [hi] at h1;simp only [Option.map_some,Option.some.injEq,Prod.mk.injEq] at h1;exact⟨i,rfl,h1.1,h1.2.1,h1.2.2⟩
def iJ (X:NA) (σ:St):ResultVar->Option V
 | .tmp t=>some (JA σ.slots t)
 | .cell a t=>match X.T t,JA σ.slots a with
  | some ti,.loc n off=>match zA σ.objs n with
   | some (.box cs)=>jH ti.isAgg ti.size (cs.drop off)
   | _=>none
  | _,_=>none
def bI (X:NA) (σ:St):List ResultVar->Option (List V)
 | []=>some []
 | r::rs=>match iJ X σ r,bI X σ rs with
  | some x,some xs=>some (x::xs)
  | _,_=>none
def eO (xs:List V):V:=match xs with
 | [x]=>x
 | xs=>match nD xs with
  | some ps => .pv (.tuple ps)
  | none => .tuple xs
def VQ (X:NA) (σ:St) (rs:List ResultVar):Option V:=(bI X σ rs).map eO
theorem aj {E:Env} {xs:List V} {vs:Array Value} (hl:vs.size=xs.length) (r:RepVL E xs vs.toList):RepV E (eO xs) (if h:vs.size=1 then vs[0] else .tuple vs):=by
 unfold eO;split
 ·rename_i x;have h1:vs.size=1:=by simpa using hl
  rw [dif_pos h1];have:vs.toList=[vs[0]]:=by
   apply List.ext_getElem
   ·simpa using h1
   ·intro i h1 h2;have:i=0:=by simp at h2;omega
    subst this;simp
  rw [this] at r;simpa [RepVL] using r
 ·rename_i hne;have h1:¬ vs.size=1:=by
   intro h1;rw [h1] at hl
   cases xs with
   | nil=>simp at hl
   | cons x xs =>
    cases xs with
    | nil=>exact hne x rfl
    | cons y ys=>simp at hl
  rw [dif_neg h1];split
  ·rename_i ps e;simp only [RepV,RepP];exact⟨vs.toList,by simp,by rw [EQ e];simpa using hl,RepVL.toPv e r⟩
  ·simp only [RepV];exact⟨vs.toList,by simp,by simpa using hl,r⟩
section
variable {X:NA} {C:Ctx} {E:Env} {σ:St} {a:Act} {w:World}
theorem cj (hT:xB X.P X.T) (h:Ga C E σ a w) {r:ResultVar} {x:V} (hr:iJ X σ r=some x) :
  ∃ v,((match r with
   | .tmp t=>pure (a.tmps.getD t undef)
   | .cell b t=>do loadVar t (<- asAddr (a.tmps.getD b undef))):Sem Value).run X.P w = .ok v w/\RepV E x v:=by
 cases r with
 | tmp t =>
  simp only [iJ,Option.some.injEq] at hr;subst hr;exact⟨_,rfl,h.slots t⟩
 | cell b t =>
  simp only [iJ] at hr;split at hr
  ·rename_i ti n off et eb;split at hr
   ·rename_i cs eo;have hti:=hT t ti et;have hx:=h.slots b;rw [eb] at hx;simp only [RepV] at hx;obtain⟨bb,hgn,hv⟩:=hx;obtain⟨b',c,T',hgn',hcell,hsz,hrr,_⟩:=h.objs n _ eo;rw [hgn] at hgn';cases hgn';obtain⟨h1,h2,h3⟩:=DU hr (hrr.drop off);have hload:∀ v,(Instr.loadAt t (.pointer (some ⟨bb,off,none⟩))).run X.P w = .ok v w->(do loadVar t (<- asAddr (a.tmps.getD b undef)):Sem Value).run X.P w = .ok v w:=by
     intro v hl;rw [hv];simp only [Instr.loadAt,Instr.sureAddr,Sem.run_bind,Sem.run_pure,Result.andThen_ok] at hl;simp only [asAddr,Sem.run_bind,Sem.run_pure,Result.andThen_ok];exact hl
    cases hagg:ti.isAgg with
    | true =>
     obtain⟨hle,hy⟩:=h1 hagg;by_cases h0:off+ti.size<=c.size
     ·exact⟨_,hload _ (yO hti hagg hcell h0),hy⟩
     ·have h00:ti.size=0:=by simp at hle;omega
      have hll:(loadCells ⟨bb,off,none⟩ 0).run X.P w = .ok #[] w:=by simp [loadCells,loadCellsFrom]
      rw [h00] at hy;refine⟨_,hload _ ?_,hy⟩;simp [Instr.loadAt,Instr.sureAddr,loadVar,hti.run_agg,hagg,hti.run_size,h00,hll]
    | false =>
     obtain⟨v,hv0,hy⟩:=h2 hagg;have hget:c[off]? = some v:=by simpa using hv0
     exact⟨v,hload _ (uO hti hagg hcell hget),hy⟩
   ·cases hr
  ·cases hr
theorem NZ (hT:xB X.P X.T) (h:Ga C E σ a w):∀ {rs:List ResultVar} {xs:List V},bI X σ rs=some xs ->
  ∃ vs:List Value,(rs.mapM λ r=>match r with
   | .tmp t=>pure (a.tmps.getD t undef)
   | .cell b t=>do loadVar t (<- asAddr (a.tmps.getD b undef)):Sem (List Value)).run X.P w = .ok vs w/\vs.length=xs.length/\RepVL E xs vs
 | [],xs,hr=>by
  simp only [bI,Option.some.injEq] at hr;subst hr;exact⟨[],rfl,rfl,by simp [RepVL]⟩
 | r::rs,xs,hr=>by
  simp only [bI] at hr;split at hr
  ·rename_i x xs' e1 e2;cases hr;obtain⟨v,hv,hrv⟩:=cj hT h e1;obtain⟨vs,hvs,hl,hrl⟩:=NZ hT h e2;refine⟨v::vs,?_,by simp [hl],by simp only [RepVL];exact⟨hrv,hrl⟩⟩;rw [List.mapM_cons];simp only [Sem.run_bind];rw [hv];simp only [Result.andThen_ok];rw [hvs];rfl
  ·cases hr
theorem ij (hT:xB X.P X.T) (h:Ga C E σ a w) {fn:Func} {x:V} (hr:VQ X σ fn.results.toList=some x):∃ v,(results fn a.tmps).run X.P w = .ok v w/\RepV E x v:=by
 unfold VQ at hr
 cases hx:bI X σ fn.results.toList with
 | none=>rw [hx] at hr;cases hr
 | some xs =>
  rw [hx] at hr;simp only [Option.map_some,Option.some.injEq] at hr;subst hr;obtain⟨vs,hvs,hl,hrl⟩:=NZ hT h hx;refine⟨_,?_,aj (vs:=vs.toArray) (by simpa using hl) (by simpa using hrl)⟩;unfold results;rw [Array.mapM_eq_mapM_toList];simp only [Sem.run_bind,map_eq_pure_bind]
  erw [hvs]
  rfl
end
def xG:Nat->List V->List (Nat × V)
 | _,[]=>[]
 | k,x::xs=>(k,x)::xG (k+1) xs
theorem UU:∀ (xs:List V) (k t:Nat),JA (xG k xs) t=if k<=t then xs.getD (t-k) .undef else .undef
 | [],k,t=>by simp [xG,JA]
 | x::xs,k,t=>by
  simp only [xG,JA];by_cases e:k=t
  ·subst e;simp
  ·rw [UU xs (k+1) t];simp only [e,if_false];by_cases hk:k<=t
   ·have h1:k+1<=t:=by omega
    have h2:t-k=(t-(k+1))+1:=by omega
    simp only [hk,h1,if_true];rw [h2];rfl
   ·have h1:¬ k+1<=t:=by omega
    simp [hk,h1]
def CM (X:NA) (σ:St) (rs:List ResultVar):Out->Prop
 | .ret x=>VQ X σ rs=some x
 | .panic _=>False
def xj (X:NA) (rs:List ResultVar) (out:Out) (objs':List (Nat × Ob)):AB->St->Prop
 | .normal,σ=>CM X σ rs out/\IC objs' σ.objs
 | .ret,σ=>CM X σ rs out/\IC objs' σ.objs
 | .panic p,σ=>(match out with | .ret _=>False | .panic q=>p=q)/\IC objs' σ.objs
 | .exit _,_=>False
theorem AC.of_body {X : NA} (hT : xB X.P X.T) {f : Nat} {fn : Func} {c : Code} (hf : X.P.funcs[f]? = some fn) (hb : fn.body = some c) (hname : (fn.name == "runtime.NumGoroutine") = false) (hnt : fn.ntmps = X.nt)
  {args:List V} {objs:List (Nat × Ob)} {out:Out} {objs':List (Nat × Ob)} {ms:List Nat} (hgiven:X.given=yA objs++ms) (hal:args.length<=X.nt)
  (hms1:eJ ms (YD args objs)) (hms2:∀ n∈ms,n ∉ yA objs) (hms3:∀ n∈ms,n ∉ yA objs')
  (hna:eJ (GA args++zE objs) (yA objs++ms)) (hno:eJ (out.names++zE objs') ((yA objs++ms)++yA objs'))
  (h:AWP X c ⟨xG 0 args,objs,yA objs++ms⟩ (xj X fn.results.toList out objs')):AC X.P X.gl f args objs out objs':=by
 have hna:=cO hna;have hno:=cO hno;have hms1:=cO hms1;have hout:∀ n,n∈(yA objs++ms)++yA objs'->n∈yA objs\/n∈yA objs'\/n∈YD args objs:=by
  intro n hn;rcases List.mem_append.1 hn with hn|hn
  ·rcases List.mem_append.1 hn with hn|hn
   ·exact .inl hn
   ·exact .inr (.inr (hms1 n hn))
  ·exact .inr (.inl hn)
 have hnone:∀ {l:List (Nat × Ob)} {n:Nat},n ∉ yA l->zA l n=none:=by
  intro l n hn
  cases e:zA l n with
  | none=>rfl
  | some o=>exact absurd (RC e) hn
 refine⟨⟨fn,hf,hname,by rw [hb];rfl⟩,λ n hn=>hout n (hno n (by simp [hn])),λ m o hm n hn=>hout n (hno n (by simp [(UQ hm).2 n hn])),?_⟩;intro E w vs hB hl hr;refine calls_of_wp hf hb ?_;let C:Ctx:=⟨E,w,objs,ms,X.nt,[]⟩;have hC:sO X C:=⟨hB.glob,rfl,λ n o hn=>by rw [hgiven];exact List.mem_append.2 (.inl (RC hn)),λ n hn=>by rw [hgiven];exact List.mem_append.2 (.inr hn),by simp [C,fJ]⟩;have hG:Ga C E ⟨xG 0 args,objs,yA objs++ms⟩ { tmps:=vs.toArray++Array.replicate (fn.ntmps-vs.toArray.size) undef,defers:=[] } w:=by
  refine⟨?_,?_,⟨rfl,by simp [C,fJ]⟩,hB.heap,hB.obs,hB.apart,?_,?_,λ n o hn=>List.mem_append.2 (.inl (RC hn)),Nat.le_refl _,⟨rfl,rfl,rfl⟩,λ _ _ _=>⟨λ _=>rfl,rfl⟩,Hle.refl _,λ n o b hn hb _=>⟨n,o,hn,hb⟩,λ n o _=>EExt.refl _ _,
   λ n hn=>⟨List.mem_append.2 (.inr hn),hnone (hms2 n hn),rfl,rfl,rfl⟩⟩
  ·intro t;rw [UU];simp only [Nat.zero_le,if_true,Nat.sub_zero];by_cases ht:t<args.length
   ·have hra:=RepVL.iff.1 hr t args[t] (List.getElem?_eq_getElem ht);obtain⟨v,hv,hrv⟩:=hra;have h1:args.getD t .undef=args[t]:=by simp [List.getD,List.getElem?_eq_getElem ht]
    rw [h1];have h2:(vs.toArray++Array.replicate (fn.ntmps-vs.toArray.size) undef).getD t undef=v:=by
     rw [Array.getD_eq_getD_getElem?,Array.getElem?_append_left (by simp;omega)];simp [hv]
    rw [h2];exact hrv
   ·have h1:args.getD t .undef = .undef:=by simp [List.getD,List.getElem?_eq_none (by omega:args.length<=t)]
    rw [h1];simp [RepV]
  ·simp [C];omega
  ·intro t n hn;refine hna n ?_;rw [List.mem_append];left;have:n∈yH (xG 0 args):=MZ hn;have key:∀ (xs:List V) (k:Nat),n∈yH (xG k xs)->n∈GA xs:=by
    intro xs
    induction xs with
    | nil=>intro k h;simp [xG,yH] at h
    | cons x xs ih =>
     intro k h;simp only [xG,yH,List.mem_append] at h;simp only [GA,List.mem_append];rcases h with h|h
     ·exact .inl h
     ·exact .inr (ih (k+1) h)
   exact key args 0 this
  ·intro n o hn;exact⟨List.mem_append.2 (.inl (RC hn)),λ m hm=>hna m (by simp [(UQ hn).2 m hm])⟩
 refine wp_mono (h C E _ w hC hG) ?_
 rintro e a' w' ⟨E',σ',ae,hG',hrel,hq⟩
 -- the hidden side behind the call
 let E2:Env:=⟨E'.H,λ n=>if n∈yA objs++yA objs' then E'.g n else E.g n,λ n=>if n∈yA objs++yA objs' then E'.ver n else E.ver n,λ n=>if n∈yA objs++yA objs' then E'.sz n else E.sz n⟩;have hE2:∀ n∈yA objs++yA objs',E2.g n=E'.g n/\E2.ver n=E'.ver n/\E2.sz n=E'.sz n:=by
  intro n hn;have hn':n∈yA objs\/n∈yA objs':=List.mem_append.1 hn;simp [E2,hn']
 have hEE0:∀ n∈yA objs++yA objs',EExt E' E2 n:=λ n hn=>EExt.of_eq (hE2 n hn).1 (hE2 n hn).2.1 (hE2 n hn).2.2
 have hEE:∀ n∈(yA objs++ms)++yA objs',EExt E' E2 n:=by
  intro n hn;by_cases hm:n∈yA objs++yA objs'
  ·exact hEE0 n hm
  ·have hn':n∈ms:=by
    rcases List.mem_append.1 hn with hn|hn
    ·rcases List.mem_append.1 hn with hn|hn
     ·exact absurd (List.mem_append.2 (.inl hn)) hm
     ·exact hn
    ·exact absurd (List.mem_append.2 (.inr hn)) hm
   have hm':¬ (n∈yA objs\/n∈yA objs'):=λ h=>hm (List.mem_append.2 h)
   obtain⟨_,_,k3,k4,k5⟩:=hG'.keep n hn';exact EExt.of_eq (by simp [E2,hm'];exact k3.symm) (by simp [E2,hm'];exact k4.symm) (by simp [E2,hm'];exact k5.symm)
 have hdone:IC objs' σ'.objs->iM E w objs E2 w' objs':=by
  intro hsub;have hsub:=nO hsub;have hk':∀ n o,zA objs' n=some o->n∈yA objs++yA objs':=λ n o hn=>List.mem_append.2 (.inr (RC hn))
  refine⟨λ b hb=>hG'.heap b hb,?_,?_,hG'.hle,hG'.grown,hG'.rest,?_,?_,?_,?_⟩
  ·intro n o hn;have hm:=hk' n o hn;exact (hG'.objs n o (hsub n o hn)).mono (Hle.refl _) (hE2 n hm).1 (hE2 n hm).2.1 (hE2 n hm).2.2 (λ m hm'=>hEE m (hno m (by simp [(UQ hn).2 m hm']))) (λ b _=>⟨rfl,rfl⟩)
  ·intro n m o o' hn hm hne b hb;rw [(hE2 n (hk' n o hn)).1] at hb;rw [(hE2 m (hk' m o' hm)).1];exact hG'.apart n m o o' (hsub n o hn) (hsub m o' hm) hne b hb
  ·intro b hb hnb;exact hG'.same b hb (by rintro⟨n,o,hn,hbn⟩;exact hnb n o hn hbn)
  ·intro n o b hn hb;rw [(hE2 n (hk' n o hn)).1] at hb;by_cases hlt:b<w.heap.size
   ·obtain⟨m,o',hm,hbm⟩:=hG'.own n o b (hsub n o hn) hb hlt;exact .inr ⟨m,o',hm,hbm⟩
   ·exact .inl (by omega)
  ·intro n o hn;have hm:n∈yA objs++yA objs':=List.mem_append.2 (.inl (RC hn));exact (hG'.ext n o hn).trans (hEE0 n hm)
  ·intro n h1 h2;have hn:¬ (n∈yA objs\/n∈yA objs'):=by
    rintro (hn|hn)
    ·obtain⟨o,ho⟩:=wH hn;rw [ho] at h1;cases h1
    ·obtain⟨o,ho⟩:=wH hn;rw [ho] at h2;cases h2
   simp [E2,hn]
 have hret:CM X σ' fn.results.toList out->IC objs' σ'.objs ->
   a'.defers=[] /\ ∃ v,(results fn a'.tmps).run X.P w' = .ok v w' /\ ∃ E',iM E w objs E' w' objs'/\LU E' out (.returned v):=by
  intro ho hsub
  cases out with
  | panic p=>exact ho.elim
  | ret x =>
   obtain⟨v,hv,hrv⟩:=ij hT hG' ho;exact⟨hG'.defers.1,v,hv,E2,hdone hsub,v,rfl,RepV.mono (E:=E') (E':=E2) (Hle.refl _) x v (λ n hn=>hEE n (hno n (by simp [Out.names,hn]))) hrv⟩
 cases ae with
 | normal=>cases hrel;exact hret hq.1 hq.2
 | ret=>cases hrel;exact hret hq.1 hq.2
 | exit i=>exact hq.elim
 | panic p =>
  obtain⟨v,rfl,hv⟩:=hrel;obtain⟨ho,hsub⟩:=hq
  cases out with
  | ret x=>exact ho.elim
  | panic q =>
   simp only at ho;subst ho;exact⟨hG'.defers.1,E2,hdone hsub,v,rfl,hv⟩
def pD (n ver:Nat) (es:List (List PV)):V->V
 | .arr m v len=>if m=n/\v=ver then .pv (.slice (es.take len)) else .arr m v len
 | x=>x
def LD (n ver:Nat) (es:List (List PV)):List V->List V
 | []=>[]
 | x::xs=>pD n ver es x::LD n ver es xs
def rC (n ver:Nat) (es:List (List PV)):V->V
 | .agg cs=>xF (LD n ver es cs)
 | x=>pD n ver es x
def WQ (n ver:Nat) (es:List (List PV)):List (Nat × V)->List (Nat × V)
 | []=>[]
 | (t,x)::r=>(t,rC n ver es x)::WQ n ver es r
def JC (n ver:Nat) (es:List (List PV)):Ob->Ob
 | .box cs => .box (LD n ver es cs)
 | o=>o
def DM (n ver:Nat) (es:List (List PV)):List (Nat × Ob)->List (Nat × Ob)
 | []=>[]
 | (k,o)::r=>if k=n then DM n ver es r else (k,JC n ver es o)::DM n ver es r
def St.frz (σ:St) (n ver:Nat) (es:List (List PV)):St:=⟨WQ n ver es σ.slots,DM n ver es σ.objs,σ.used⟩
theorem OZ (n ver:Nat) (es:List (List PV)) (cs:List V):(LD n ver es cs).length=cs.length:=by
 induction cs with
 | nil=>rfl
 | cons c cs ih=>simp [LD,ih]
theorem VU (n ver:Nat) (es:List (List PV)) (l:List (Nat × V)) (t:Nat):JA (WQ n ver es l) t=rC n ver es (JA l t):=by
 induction l with
 | nil=>rfl
 | cons p r ih =>
  obtain⟨k,x⟩:=p;simp only [WQ,JA,ih];split<;>rfl
theorem EM (n ver:Nat) (es:List (List PV)) (l:List (Nat × Ob)) (m:Nat):zA (DM n ver es l) m=if m=n then none else (zA l m).map (JC n ver es):=by
 induction l with
 | nil=>simp [DM,zA]
 | cons p r ih =>
  obtain⟨k,x⟩:=p;simp only [DM,zA];by_cases e:k=n
  ·subst e;simp only [if_true,ih];by_cases e1:m=k
   ·simp [e1]
   ·have:¬ k=m:=λ h=>e1 h.symm
    simp [e1,this]
  ·simp only [e,if_false,zA,ih];by_cases e1:k=m
   ·subst e1;simp [e]
   ·simp [e1]
section
variable {C:Ctx} {E:Env} {σ:St} {a:Act} {w:World}
theorem PZ (n ver:Nat) (es:List (List PV)) (x:V):∀ m∈(pD n ver es x).names,m∈x.names:=by
 intro m hm;unfold pD at hm;split at hm
 ·split at hm
  ·simp [V.names] at hm
  ·exact hm
 ·exact hm
theorem QZ (n ver:Nat) (es:List (List PV)) (cs:List V):∀ m∈GA (LD n ver es cs),m∈GA cs:=by
 induction cs with
 | nil=>intro m hm;exact hm
 | cons c cs ih =>
  intro m hm;simp only [LD,GA,List.mem_append] at hm ⊢;rcases hm with hm|hm
  ·exact .inl (PZ n ver es c m hm)
  ·exact .inr (ih m hm)
theorem Aj (n ver:Nat) (es:List (List PV)) (x:V):∀ m∈(rC n ver es x).names,m∈x.names:=by
 intro m hm;unfold rC at hm;split at hm
 ·simp only [V.names];exact QZ n ver es _ m (HQ _ m hm)
 ·exact PZ n ver es x m hm
theorem Ga.frz (h:Ga C E σ a w) {n ver sz ty:Nat} {es:List (List PV)} (ho:zA σ.objs n=some (.arr ver sz ty (vA es))):∃ E',Ga C E' (σ.frz n ver es) a w:=by
 have hob:=h.objs n _ ho;obtain⟨hver,hsz,hlen,_⟩:=id hob;obtain⟨ad,cap,hgn,hlc,hlm,hh⟩:=IQ hob;have hpl:(vA es).length=es.length:=by simp [vA]
 rw [hpl] at hgn hlc hlm
 -- the cells that are known from now on
 have hH:∃ H':Hp,Hle E.H H'/\HeapOK { E with H:=H' } w/\(∀ b,(∀ b',xA (E.g n)=some b'->b≠b')->H' b=E.H b)/\(es=[] \/ ∃ b,ad=some ⟨b,0,none⟩/\RepE H' es (H' b)):=by
  rcases hh with ⟨h1,h2,h3⟩|⟨b,cur,hb,hcur,hcs,hr,hfree⟩
  ·exact⟨E.H,Hle.refl _,h.heap,λ _ _=>rfl,.inl (by simpa [vA] using h2)⟩
  ·let H':Hp:=λ b'=>if b'=b then cur.toList.map sn else E.H b'
   have hHle:Hle E.H H':=by
    intro b';by_cases e:b'=b
    ·subst e;rw [hfree];exact List.nil_prefix
    ·simp [H',e]
   refine⟨H',hHle,?_,?_,.inr ⟨b,hb,?_⟩⟩
   ·intro b' hb';by_cases e:b'=b
    ·subst e;exact⟨cur,ty,(0,0),hcur,by simp [H',Msk.sn],.inl rfl⟩
    ·have hb'':E.H b'≠[]:=by simpa [H',e] using hb'
     obtain⟨c,T,fr,hc,hp⟩:=h.heap b' hb'';exact⟨c,T,fr,hc,by simpa [H',e] using hp.1,by simpa [H',e] using hp.2⟩
   ·intro b' hne;have:b'≠b:=hne b (by rw [hgn,hb];rfl);simp [H',this]
   ·have hre:=(RepVE.toPv (gJ es) hr).sn;have:H' b=cur.toList.map sn:=by simp [H']
    rw [this];exact RepE.mono hHle es _ _ List.prefix_rfl hre
 obtain⟨H',hHle,hheap,hsame,hdata⟩:=hH;have hE:∀ m,EExt E { E with H:=H' } m:=λ m=>EExt.of_eq rfl rfl rfl
 have hc:=h.change (E':={ E with H:=H' }) n none (XE σ.objs n) σ.used none .undef undef (λ m=>qO _ _ _) hHle (λ _ _=>⟨rfl,rfl,rfl⟩) (λ _=>hE n) (λ _=>⟨_,ho⟩) (Nat.le_refl _) ⟨rfl,rfl,rfl⟩
  (λ b _ hne=>⟨rfl,hsame b (λ b' hb' e=>hne _ ho (e ▸ hb'))⟩) hheap (λ o e=>by cases e) (λ o b e=>by cases e) (λ _ h=>h) (by simp [RepV]) (by simp [V.names]) (by simp)
 have hv1:∀ (x:V) (v:Value),RepV { E with H:=H' } x v->RepV { E with H:=H' } (pD n ver es x) v:=by
  intro x v hx;unfold pD;split
  ·rename_i m vv len;split
   ·rename_i e;obtain⟨rfl,rfl⟩:=e;simp only [RepV] at hx;obtain⟨_,_,hx⟩:=hx;obtain⟨a',L,cap',hg',hv,hle⟩:=hx hver.symm;rw [hgn] at hg';cases hg';have htl:(es.take len).length=len:=by simp;omega
    simp only [RepV,RepP];refine⟨ad,cap,by rw [hv,htl],by omega,by omega,?_⟩;rcases hdata with rfl|⟨b,hb,hr⟩
    ·simp
    ·exact .inr ⟨b,0,hb,by simpa using hr.takeE len⟩
   ·exact hx
  ·exact hx
 have hvL:∀ (cs:List V) (vs:List Value),RepVL { E with H:=H' } cs vs->RepVL { E with H:=H' } (LD n ver es cs) vs:=by
  intro cs
  induction cs with
  | nil=>intro vs _;simp [LD,RepVL]
  | cons c cs ih =>
   intro vs hr
   cases vs with
   | nil=>simp [RepVL] at hr
   | cons v vs =>
    simp only [RepVL] at hr;simp only [LD,RepVL];exact⟨hv1 c v hr.1,ih vs hr.2⟩
 refine⟨{ E with H:=H' },?_,hc.size,hc.defers,hc.heap,?_,?_,?_,?_,hc.usedG,hc.grown,hc.rest,hc.same,hc.hle,?_,hc.ext,λ k hk=>⟨(hc.keep k hk).1,?_,(hc.keep k hk).2.2⟩⟩
 ·intro t;simp only [St.frz,VU];have hx:=hc.slots t;simp only [iC] at hx;unfold rC;split
  ·rename_i cs e;rw [e] at hx;simp only [RepV] at hx;obtain⟨vs,hv,hl,hr⟩:=hx;have hv:a.tmps.getD t undef = .agg vs.toArray:=hv;rw [hv];exact GQ (by rw [hl,OZ]) (hvL cs vs hr)
  ·exact hv1 _ _ hx
 ·intro m o hm;simp only [St.frz,EM] at hm;split at hm
  ·cases hm
  ·rename_i hne
   cases hq:zA σ.objs m with
   | none=>rw [hq] at hm;cases hm
   | some q =>
    rw [hq] at hm;simp only [Option.map_some,Option.some.injEq] at hm;subst hm;have hq':zA (XE σ.objs n) m=some q:=by rw [qO,if_neg hne,hq]
    have hok:=hc.objs m q hq'
    cases q with
    | box cs =>
     obtain⟨b,c,T,h1,h2,h3,h4,h5⟩:=hok;exact⟨b,c,T,h1,h2,by rw [h3,OZ],hvL cs _ h4,h5⟩
    | arr v s t es'=>exact hok
    | smap s es=>exact hok
    | siter l p=>exact hok
    | raw v x=>exact hok
    | grow v s t es'=>exact hok
 ·intro m m' o o' hm hm' hne b hb;simp only [St.frz,EM] at hm hm';split at hm
  ·cases hm
  ·split at hm'
   ·cases hm'
   ·cases hq:zA σ.objs m with
    | none=>rw [hq] at hm;cases hm
    | some q =>
     cases hq':zA σ.objs m' with
     | none=>rw [hq'] at hm';cases hm'
     | some q'=>exact h.apart m m' q q' hq hq' hne b hb
 ·intro t m hm;simp only [St.frz,VU] at hm;exact h.usedS t m (Aj n ver es _ m hm)
 ·intro m o hm;simp only [St.frz,EM] at hm;split at hm
  ·cases hm
  ·cases hq:zA σ.objs m with
   | none=>rw [hq] at hm;cases hm
   | some q =>
    rw [hq] at hm;simp only [Option.map_some,Option.some.injEq] at hm;subst hm;refine⟨(h.usedO m q hq).1,λ k hk=>(h.usedO m q hq).2 k ?_⟩
    cases q with
    | box cs=>exact QZ n ver es cs k hk
    | arr v s t es'=>exact hk
    | smap s es=>exact hk
    | siter l p=>exact hk
    | raw v x=>exact hk
    | grow v s t es'=>exact hk
 ·intro m o b hm hb hlt;simp only [St.frz,EM] at hm;split at hm
  ·cases hm
  ·cases hq:zA σ.objs m with
   | none=>rw [hq] at hm;cases hm
   | some q=>exact h.own m q b hq hb hlt
 ·simp only [St.frz,EM];have:=(h.keep k hk).2.1;split
  ·rfl
  ·rw [this];rfl
end
section
variable {X:NA} {draw:Bool} {ops:List Oper} {K:St->List Eff->Prop} {Qp:PV->St->Prop} {o:Oper} {rest:List Oper} {σ:St} {tr:List Eff}
theorem Bj {c:Operand} {x y:Code} {Q:AB->St->Prop} {v:V} (hv:σ.val X.gl c=v) (h:KZ v (AWP X x σ Q) (AWP X y σ Q)):AWP X (.cond c x y) σ Q:=by
 intro C E a w hC hG;have hr:=QA hG hC.glob c;rw [hv] at hr;unfold KZ at h;split at h
 ·rename_i b;exact wp_cond_split (BF hr) (λ hb=>h.1 hb C E a w hC hG) (λ hb=>h.2 hb C E a w hC hG)
 ·simp only [RepV,RepP] at hr;obtain⟨d,hr,hd⟩:=hr;exact wp_cond_split hr (λ hb=>h.1 (hd hb) C E a w hC hG) (λ hb=>h.2 C E a w hC hG)
 ·cases h
end
theorem pvE_app (a b:List (List PV)):vA a++vA b=vA (a++b):=by simp [vA]
theorem pvE_len (a:List (List PV)):(vA a).length=a.length:=by simp [vA]
theorem Cj (es:List (List PV)) (i:Nat):(vA es)[i]? = (es[i]?).map oA:=by simp [vA]
def uH (X:NA) (b:Code) (Q:AB->St->Prop):Nat->St->Prop
 | 0,_=>False
 | n+1,σ=>AWP X b σ (TQ (uH X b Q n) Q)
theorem iO {X:NA} {b:Code} {Q:AB->St->Prop} {n:Nat} {σ:St} (h:AWP X b σ (TQ (uH X b Q n) Q)):uH X b Q (n+1) σ:=h
theorem RZ {X:NA} {b:Code} {Q:AB->St->Prop} {C:Ctx} (hC:sO X C):∀ (n:Nat) (σ:St) (E:Env) (a:Act) (w:World),Ga C E σ a w->uH X b Q n σ->Code.rounds X.P b (BM C Q) n a w
 | 0,_,_,_,_,_,h=>h.elim
 | n+1,σ,E,a,w,hG,h=>by
  rw [rounds_succ];refine wp_mono (h C E a w hC hG) ?_
  rintro e a' w' ⟨E',σ',ae,hG',hrel,hq⟩
  cases ae with
  | normal=>cases hrel;exact RZ hC n σ' E' a' w' hG' hq
  | exit i=>cases hrel;exact⟨E',σ',.exit i,hG',rfl,hq⟩
  | ret=>cases hrel;exact⟨E',σ',.ret,hG',rfl,hq⟩
  | panic p=>obtain⟨v,rfl,hv⟩:=hrel;exact⟨E',σ',.panic p,hG',⟨v,rfl,hv⟩,hq⟩
theorem Dj (n:Nat) {X:NA} {b:Code} {Q:AB->St->Prop} {σ:St} (h:uH X b Q n σ):AWP X (.loop b) σ Q :=
 λ _ E a w hC hG=>wp_loop_rounds n (RZ hC n σ E a w hG h)
section
variable {X:NA} {C:Ctx}
end
section
variable {C:Ctx} {E:Env} {σ:St} {a:Act} {w:World}
def bH (K:List PV->PV) (n:Nat) (ps:List PV):V->V
 | .loc m off=>if m=n then .pv (K (ps.drop off)) else .loc m off
 | x=>x
def AG (K:List PV->PV) (n:Nat) (ps:List PV):List V->List V
 | []=>[]
 | x::xs=>bH K n ps x::AG K n ps xs
def XQ (K:List PV->PV) (n:Nat) (ps:List PV):List (Nat × V)->List (Nat × V)
 | []=>[]
 | (t,x)::r=>(t,bH K n ps x)::XQ K n ps r
def dI (K:List PV->PV) (n:Nat) (ps:List PV):Ob->Ob
 | .box cs => .box (AG K n ps cs)
 | o=>o
def FM (K:List PV->PV) (n:Nat) (ps:List PV):List (Nat × Ob)->List (Nat × Ob)
 | []=>[]
 | (k,o)::r=>if k=n then FM K n ps r else (k,dI K n ps o)::FM K n ps r
def St.frb (K:List PV->PV) (σ:St) (n:Nat) (ps:List PV):St:=⟨XQ K n ps σ.slots,FM K n ps σ.objs,σ.used⟩
theorem Ej (K:List PV->PV) (n:Nat) (ps:List PV) (cs:List V):(AG K n ps cs).length=cs.length:=by
 induction cs with
 | nil=>rfl
 | cons c cs ih=>simp [AG,ih]
theorem WU (K:List PV->PV) (n:Nat) (ps:List PV) (l:List (Nat × V)) (t:Nat):JA (XQ K n ps l) t=bH K n ps (JA l t):=by
 induction l with
 | nil=>rfl
 | cons p r ih =>
  obtain⟨k,x⟩:=p;simp only [XQ,JA,ih];split<;>rfl
theorem GM (K:List PV->PV) (n:Nat) (ps:List PV) (l:List (Nat × Ob)) (m:Nat):zA (FM K n ps l) m=if m=n then none else (zA l m).map (dI K n ps):=by
 induction l with
 | nil=>simp [FM,zA]
 | cons p r ih =>
  obtain⟨k,x⟩:=p;simp only [FM,zA];by_cases e:k=n
  ·subst e;simp only [if_true,ih];by_cases e1:m=k
   ·simp [e1]
   ·have:¬ k=m:=λ h=>e1 h.symm
    simp [e1,this]
  ·simp only [e,if_false,zA,ih];by_cases e1:k=m
   ·subst e1;simp [e]
   ·simp [e1]
theorem SZ (K:List PV->PV) (n:Nat) (ps:List PV) (x:V):∀ m∈(bH K n ps x).names,m∈x.names:=by
 intro m hm;unfold bH at hm;split at hm
 ·split at hm
  ·simp [V.names] at hm
  ·exact hm
 ·exact hm
theorem Fj (K:List PV->PV) (n:Nat) (ps:List PV) (cs:List V):∀ m∈GA (AG K n ps cs),m∈GA cs:=by
 induction cs with
 | nil=>intro m hm;exact hm
 | cons c cs ih =>
  intro m hm;simp only [AG,GA,List.mem_append] at hm ⊢;rcases hm with hm|hm
  ·exact .inl (SZ K n ps c m hm)
  ·exact .inr (ih m hm)
def flgs:List PV->List PV->Prop
 | [],[]=>True
 | .bool c::qs,.flg b::ps=>(c=true->b=true)/\flgs qs ps
 | q::qs,p::ps=>(q=p /\ ∀ b,p ≠ .flg b)/\flgs qs ps
 | _,_=>False
def kn:List PV->List Value->List Value
 | [],l=>l.map sn
 | _,[]=>[]
 | .flg b::ps,_::l=>mark b::kn ps l
 | _::ps,v::l=>sn v::kn ps l
theorem Msk.cons {u v:Value} {l m:List Value} (h:Msk l m) (h1:(u=v/\(∀ b,u≠mark b))\/u=zC \/ ∃ b c,u=mark b/\v = .bool c/\(c=true->b=true)):Msk (u::l) (v::m):=by
 refine⟨by have:=h.1;simp;omega,λ i x hi h2 h3 => ?_,λ i b hi => ?_⟩
 ·cases i with
  | zero =>
   simp at hi;subst hi;rcases h1 with ⟨rfl,_⟩|rfl|⟨b,c,rfl,_⟩
   ·rfl
   ·exact absurd rfl h2
   ·exact absurd rfl (h3 b)
  | succ i=>simpa using h.2.1 i x (by simpa using hi) h2 h3
 ·cases i with
  | zero =>
   simp at hi;subst hi;rcases h1 with ⟨_,h1⟩|h1|⟨b',c,h1,rfl,h2⟩
   ·exact absurd rfl (h1 b)
   ·exact absurd h1 (Dh b)
   ·rw [RY h1];exact⟨c,rfl,h2⟩
  | succ i=>simpa using h.2.2 i b (by simpa using hi)
theorem Gj (v:Value):(sn v=v /\ ∀ b,sn v≠mark b)\/sn v=zC:=by
 by_cases h:sn v=zC
 ·exact .inr h
 ·exact .inl ⟨TY h,aU v⟩
theorem XU {H:Hp} : ∀ {qs ps:List PV} {l:List Value},flgs qs ps->RepL H qs l->Msk (kn ps l) l/\RepK H ps (kn ps l)
 | [],[],l,_,_=>⟨by simp only [kn];exact Msk.sn l,by simp only [RepK]⟩
 | [],_::_,_,h,_=>by simp [flgs] at h
 | q::qs,[],_,h,_=>by cases q<;>simp [flgs] at h
 | q::qs,p::ps,[],h,r=>by simp [RepL] at r
 | q::qs,p::ps,v::l,h,r=>by
  simp only [RepL] at r;by_cases hp:∃ b,p = .flg b
  ·obtain⟨b,rfl⟩:=hp;cases q<;>simp [flgs] at h;rename_i c;obtain⟨h1,h2⟩:=XU h.2 r.2;have hv:=r.1;simp only [RepP] at hv;simp only [kn];exact⟨h1.cons (.inr (.inr ⟨b,c,rfl,hv,h.1⟩)),RepK.cons (.inr ⟨b,rfl,rfl⟩) h2⟩
  ·have hp:∀ b,p ≠ .flg b:=λ b e=>hp ⟨b,e⟩
   have hf:q=p/\flgs qs ps:=by
    rw [flgs.eq_3 _ _ _ _ (λ c b _ e=>hp b e)] at h;exact⟨h.1.1,h.2⟩
   obtain⟨rfl,hf⟩:=hf;obtain⟨h1,h2⟩:=XU hf r.2;rw [kn.eq_4 _ _ _ _ (λ b e=>hp b e)];refine⟨h1.cons ?_,RepK.cons (.inl ⟨?_,hp⟩) h2⟩
   ·rcases Gj v with h|h
    ·exact .inl h
    ·exact .inr (.inl h)
   ·rw [r.1.sn];exact r.1
def oO (K:List PV->PV) (qs ps:List PV):Prop :=
 ∀ (H:Hp) (cur:List Value),RepL H qs cur->∃ l,Msk l cur/\(∀ v∈l,True) /\ ∀ (b:Nat) (H':Hp),Hle H H'->H' b=l->∀ off,RepP H' (K (ps.drop off)) (.pointer (some ⟨b,off,none⟩))
theorem Hj {qs ps:List PV} (h:flgs qs ps):oO PV.nptr qs ps:=by
 intro H cur r;obtain⟨h1,h2⟩:=XU h r;refine⟨kn ps cur,h1,λ _ _=>trivial,λ b H' hh e off => ?_⟩;simp only [RepP];exact⟨b,off,rfl,by rw [e];exact RepK.drop off (RepK.mono hh ps _ _ List.prefix_rfl h2)⟩
theorem Ga.frb (h:Ga C E σ a w) {K:List PV->PV} {n:Nat} {qs ps:List PV} (ho:zA σ.objs n=some (.box (oA qs))) (hcan:oO K qs ps):∃ E',Ga C E' (σ.frb K n ps) a w:=by
 obtain⟨b,cur,T,hgn,hcur,hcs,hr,hfree⟩:=h.objs n _ ho;obtain⟨l,hl1,_,hl2⟩:=hcan E.H cur.toList (RepVL.toPv (WY qs) hr);let H':Hp:=λ b'=>if b'=b then l else E.H b'
 have hHle:Hle E.H H':=by
  intro b';by_cases e:b'=b
  ·subst e;rw [hfree];exact List.nil_prefix
  ·simp [H',e]
 have hheap:HeapOK { E with H:=H' } w:=by
  intro b' hb';by_cases e:b'=b
  ·subst e;exact⟨cur,T,(0,0),hcur,by simpa [H'] using hl1,.inl rfl⟩
  ·have hb'':E.H b'≠[]:=by simpa [H',e] using hb'
   obtain⟨c,T,fr,hc,hp⟩:=h.heap b' hb'';exact⟨c,T,fr,hc,by simpa [H',e] using hp.1,by simpa [H',e] using hp.2⟩
 have hsame:∀ b',b'≠b->H' b'=E.H b':=by intro b' hne;simp [H',hne]
 have hE:∀ m,EExt E { E with H:=H' } m:=λ m=>EExt.of_eq rfl rfl rfl
 have hc:=h.change (E':={ E with H:=H' }) n none (XE σ.objs n) σ.used none .undef undef (λ m=>qO _ _ _) hHle (λ _ _=>⟨rfl,rfl,rfl⟩) (λ _=>hE n) (λ _=>⟨_,ho⟩) (Nat.le_refl _) ⟨rfl,rfl,rfl⟩
  (λ b' _ hne=>⟨rfl,hsame b' (λ e=>hne _ ho (by rw [e,hgn];rfl))⟩) hheap (λ o e=>by cases e) (λ o b e=>by cases e) (λ _ h=>h) (by simp [RepV]) (by simp [V.names]) (by simp)
 have hv1:∀ (x:V) (v:Value),RepV { E with H:=H' } x v->RepV { E with H:=H' } (bH K n ps x) v:=by
  intro x v hx;unfold bH;split
  ·rename_i m off;split
   ·rename_i e;subst e;simp only [RepV] at hx;obtain⟨b',hg',hv⟩:=hx;rw [hgn] at hg';cases hg';simp only [RepV];rw [hv];exact hl2 b H' hHle (by simp [H']) off
   ·exact hx
  ·exact hx
 have hvL:∀ (cs:List V) (vs:List Value),RepVL { E with H:=H' } cs vs->RepVL { E with H:=H' } (AG K n ps cs) vs:=by
  intro cs
  induction cs with
  | nil=>intro vs _;simp [AG,RepVL]
  | cons c cs ih =>
   intro vs hr
   cases vs with
   | nil=>simp [RepVL] at hr
   | cons v vs =>
    simp only [RepVL] at hr;simp only [AG,RepVL];exact⟨hv1 c v hr.1,ih vs hr.2⟩
 refine⟨{ E with H:=H' },?_,hc.size,hc.defers,hc.heap,?_,?_,?_,?_,hc.usedG,hc.grown,hc.rest,hc.same,hc.hle,?_,hc.ext,λ k hk=>⟨(hc.keep k hk).1,?_,(hc.keep k hk).2.2⟩⟩
 ·intro t;simp only [St.frb,WU];exact hv1 _ _ (hc.slots t)
 ·intro m o hm;simp only [St.frb,GM] at hm;split at hm
  ·cases hm
  ·rename_i hne
   cases hq:zA σ.objs m with
   | none=>rw [hq] at hm;cases hm
   | some q =>
    rw [hq] at hm;simp only [Option.map_some,Option.some.injEq] at hm;subst hm;have hq':zA (XE σ.objs n) m=some q:=by rw [qO,if_neg hne,hq]
    have hok:=hc.objs m q hq'
    cases q with
    | box cs =>
     obtain⟨b,c,T,h1,h2,h3,h4,h5⟩:=hok;exact⟨b,c,T,h1,h2,by rw [h3,Ej],hvL cs _ h4,h5⟩
    | arr v s t es'=>exact hok
    | smap s es=>exact hok
    | siter l p=>exact hok
    | raw v x=>exact hok
    | grow v s t es'=>exact hok
 ·intro m m' o o' hm hm' hne b hb;simp only [St.frb,GM] at hm hm';split at hm
  ·cases hm
  ·split at hm'
   ·cases hm'
   ·cases hq:zA σ.objs m with
    | none=>rw [hq] at hm;cases hm
    | some q =>
     cases hq':zA σ.objs m' with
     | none=>rw [hq'] at hm';cases hm'
     | some q'=>exact h.apart m m' q q' hq hq' hne b hb
 ·intro t m hm;simp only [St.frb,WU] at hm;exact h.usedS t m (SZ K n ps _ m hm)
 ·intro m o hm;simp only [St.frb,GM] at hm;split at hm
  ·cases hm
  ·cases hq:zA σ.objs m with
   | none=>rw [hq] at hm;cases hm
   | some q =>
    rw [hq] at hm;simp only [Option.map_some,Option.some.injEq] at hm;subst hm;refine⟨(h.usedO m q hq).1,λ k hk=>(h.usedO m q hq).2 k ?_⟩
    cases q with
    | box cs=>exact Fj K n ps cs k hk
    | arr v s t es'=>exact hk
    | smap s es=>exact hk
    | siter l p=>exact hk
    | raw v x=>exact hk
    | grow v s t es'=>exact hk
 ·intro m o b hm hb hlt;simp only [St.frb,GM] at hm;split at hm
  ·cases hm
  ·cases hq:zA σ.objs m with
   | none=>rw [hq] at hm;cases hm
   | some q=>exact h.own m q b hq hb hlt
 ·simp only [St.frb,GM];have:=(h.keep k hk).2.1;split
  ·rfl
  ·rw [this];rfl
end
end Go.Lg
namespace Go.Lg
mutual
def V.ren (ρ:Nat->Nat):V->V
 | .undef => .undef
 | .pv p => .pv p
 | .loc n off => .loc (ρ n) off
 | .eloc n ver i off => .eloc (ρ n) ver i off
 | .arr n ver len => .arr (ρ n) ver len
 | .map n => .map (ρ n)
 | .vsl es => .vsl (jE ρ es)
 | .fsl es => .fsl es
 | .gsl n ver es => .gsl (ρ n) ver es
 | .fn f cs => .fn f (jD ρ cs)
 | .bfn f cs => .bfn f (jD ρ cs)
 | .agg cs => .agg (jD ρ cs)
 | .tuple cs => .tuple (jD ρ cs)
def jD (ρ:Nat->Nat):List V->List V
 | []=>[]
 | c::cs=>c.ren ρ::jD ρ cs
def jE (ρ:Nat->Nat):List (List V)->List (List V)
 | []=>[]
 | e::es=>jD ρ e::jE ρ es
end
theorem Ij (ρ:Nat->Nat) (l:List V):jD ρ l=l.map (V.ren ρ):=by
 induction l with
 | nil=>rfl
 | cons c l ih=>simp [jD,ih]
theorem TZ (ρ:Nat->Nat) (l:List (List V)):jE ρ l=l.map (jD ρ):=by
 induction l with
 | nil=>rfl
 | cons c l ih=>simp [jE,ih]
theorem oJ (ρ:Nat->Nat) (l:List V):(jD ρ l).length=l.length:=by simp [Ij]
theorem UZ (ρ:Nat->Nat) (l:List (List V)):(jE ρ l).length=l.length:=by simp [TZ]
def fI (ρ:Nat->Nat):List (SK × V)->List (SK × V)
 | []=>[]
 | (k,x)::r=>(k,x.ren ρ)::fI ρ r
def Ob.ren (ρ:Nat->Nat):Ob->Ob
 | .box cs => .box (jD ρ cs)
 | .arr ver sz ty es => .arr ver sz ty (jE ρ es)
 | .smap s es => .smap s (fI ρ es)
 | .siter l p => .siter l p
 | .raw v x => .raw v x
 | .grow v s t es => .grow v s t es
def MD (ρ:Nat->Nat):List (Nat × Ob)->List (Nat × Ob)
 | []=>[]
 | (n,o)::r=>(ρ n,o.ren ρ)::MD ρ r
def Out.ren (ρ:Nat->Nat):Out->Out
 | .ret x => .ret (x.ren ρ)
 | .panic p => .panic p
def Env.comp (E:Env) (ρ:Nat->Nat):Env:=⟨E.H,λ n=>E.g (ρ n),λ n=>E.ver (ρ n),λ n=>E.sz (ρ n)⟩
mutual
theorem RepV.ren {E:Env} {ρ:Nat->Nat} : ∀ (x:V) (v:Value),RepV E (x.ren ρ) v↔RepV (E.comp ρ) x v
 | .undef,_=>by simp [V.ren,RepV]
 | .pv p,v=>by simp [V.ren,RepV,Env.comp]
 | .loc n off,v=>by simp [V.ren,RepV,Env.comp]
 | .eloc n ver i off,v=>by simp [V.ren,RepV,Env.comp]
 | .arr n ver len,v=>by simp [V.ren,RepV,Env.comp]
 | .map n,v=>by simp [V.ren,RepV,Env.comp]
 | .vsl es,v=>by
  simp only [V.ren,RepV,UZ];have h:∀ vs,RepVE E (jE ρ es) vs↔RepVE (E.comp ρ) es vs:=RepVE.ren es;have hn:jE ρ es=[]↔es=[]:=by cases es<;>simp [jE]
  simp only [h,hn];rfl
 | .fsl es,v=>by simp [V.ren,RepV,Env.comp]
 | .gsl n ver es,v=>by simp [V.ren,RepV,Env.comp]
 | .fn f cs,v=>by simp only [V.ren,RepV,oJ,RepVL.ren cs]
 | .bfn f cs,v=>by simp only [V.ren,RepV,oJ,RepVL.ren cs]
 | .agg cs,v=>by simp only [V.ren,RepV,oJ,RepVL.ren cs]
 | .tuple cs,v=>by simp only [V.ren,RepV,oJ,RepVL.ren cs]
theorem RepVL.ren {E:Env} {ρ:Nat->Nat} : ∀ (cs:List V) (vs:List Value),RepVL E (jD ρ cs) vs↔RepVL (E.comp ρ) cs vs
 | [],_=>by simp [jD,RepVL]
 | c::cs,[]=>by simp [jD,RepVL]
 | c::cs,v::vs=>by simp only [jD,RepVL,RepV.ren c v,RepVL.ren cs vs]
theorem RepVE.ren {E:Env} {ρ:Nat->Nat} : ∀ (es:List (List V)) (vs:List Value),RepVE E (jE ρ es) vs↔RepVE (E.comp ρ) es vs
 | [],_=>by simp [jE,RepVE]
 | e::es,vs=>by simp only [jE,RepVE,oJ,RepVL.ren e vs,RepVE.ren es (vs.drop e.length)]
end
theorem EntsS.ren {E:Env} {ρ:Nat->Nat} {s:Bool} : ∀ (es:List (SK × V)) (ms:List MapEntry),EntsS E s (fI ρ es) ms↔EntsS (E.comp ρ) s es ms
 | [],[]=>Iff.rfl
 | [],_::_=>Iff.rfl
 | (k,x)::es,[]=>Iff.rfl
 | (k,x)::es,m::ms=>by simp only [fI,EntsS,RepV.ren x,EntsS.ren es ms]
theorem ObOK.ren {E:Env} {w:World} {ρ:Nat->Nat} {n:Nat} (o:Ob):ObOK E w (ρ n) (o.ren ρ)↔ObOK (E.comp ρ) w n o:=by
 cases o with
 | box cs=>simp only [Ob.ren,ObOK,oJ,RepVL.ren cs];rfl
 | arr ver sz ty es =>
  have h:(∀ e∈jE ρ es,e.length=sz) ↔ ∀ e∈es,e.length=sz:=by
   rw [TZ];simp [oJ]
  simp only [Ob.ren,ObOK,UZ,RepVE.ren es,h];rfl
 | smap s es=>simp only [Ob.ren,ObOK,EntsS.ren es];rfl
 | siter l p=>simp only [Ob.ren,ObOK];rfl
 | raw v x=>simp only [Ob.ren,ObOK];rfl
 | grow v s t es=>simp only [Ob.ren,ObOK];rfl
mutual
theorem V.ren_names (ρ:Nat->Nat):∀ x:V,(x.ren ρ).names=x.names.map ρ
 | .undef=>rfl
 | .pv _=>rfl
 | .loc _ _=>rfl
 | .eloc _ _ _ _=>rfl
 | .arr _ _ _=>rfl
 | .map _=>rfl
 | .vsl es=>by simp only [V.ren,V.names,YU ρ es]
 | .fsl _=>rfl
 | .gsl _ _ _=>rfl
 | .fn _ cs=>by simp only [V.ren,V.names,xJ ρ cs]
 | .bfn _ cs=>by simp only [V.ren,V.names,xJ ρ cs]
 | .agg cs=>by simp only [V.ren,V.names,xJ ρ cs]
 | .tuple cs=>by simp only [V.ren,V.names,xJ ρ cs]
theorem xJ (ρ:Nat->Nat):∀ l:List V,GA (jD ρ l)=(GA l).map ρ
 | []=>rfl
 | c::cs=>by simp only [jD,GA,V.ren_names ρ c,xJ ρ cs,List.map_append]
theorem YU (ρ:Nat->Nat):∀ l:List (List V),qB (jE ρ l)=(qB l).map ρ
 | []=>rfl
 | e::es=>by simp only [jE,qB,xJ ρ e,YU ρ es,List.map_append]
end
theorem VZ (ρ:Nat->Nat):∀ l:List (SK × V),OB (fI ρ l)=(OB l).map ρ
 | []=>rfl
 | (k,x)::r=>by simp only [fI,OB,V.ren_names ρ x,VZ ρ r,List.map_append]
theorem Ob.ren_names (ρ:Nat->Nat) (o:Ob):(o.ren ρ).names=o.names.map ρ:=by
 cases o with
 | box cs=>simp only [Ob.ren,Ob.names,xJ]
 | arr ver sz ty es=>simp only [Ob.ren,Ob.names,YU]
 | smap s es=>simp only [Ob.ren,Ob.names,VZ]
 | siter l p=>rfl
 | raw v x=>rfl
 | grow v s t es=>rfl
section
variable {ρ:Nat->Nat} (hρ:∀ n,ρ (ρ n)=n)
include hρ
theorem WZ {a b:Nat} (h:ρ a=ρ b):a=b:=by rw [<- hρ a,h,hρ]
theorem ZU (l:List (Nat × Ob)) (n:Nat):zA (MD ρ l) n=(zA l (ρ n)).map (Ob.ren ρ):=by
 induction l with
 | nil=>rfl
 | cons p r ih =>
  obtain⟨k,o⟩:=p;simp only [MD,zA,ih];by_cases e:ρ k=n
  ·subst e;simp [hρ]
  ·have:¬ k=ρ n:=λ h=>e (by rw [h,hρ])
   simp [e,this]
theorem YQ (l:List (Nat × Ob)):yA (MD ρ l)=(yA l).map ρ:=by
 induction l with
 | nil=>rfl
 | cons p r ih =>
  obtain⟨k,o⟩:=p;simp only [MD,yA,List.map_cons] at ih ⊢;rw [ih]
theorem XZ (args:List V) (l:List (Nat × Ob)):YD (jD ρ args) (MD ρ l)=(YD args l).map ρ:=by
 have h:pC (MD ρ l)=(pC l).map ρ:=by
  induction l with
  | nil=>rfl
  | cons p r ih =>
   obtain⟨k,o⟩:=p;simp only [MD,pC,List.map_append,Ob.ren_names,ih]
 simp only [YD,xJ,h,List.map_append]
theorem AC.ren {P:Program} {gl:Nat->Option (List PV)} {f:Nat} {args:List V} {objs:List (Nat × Ob)} {out:Out} {objs':List (Nat × Ob)} (h:AC P gl f args objs out objs') :
  AC P gl f (jD ρ args) (MD ρ objs) (out.ren ρ) (MD ρ objs'):=by
 have hmem:∀ {l:List Nat} {n:Nat},n∈l.map ρ↔ρ n∈l:=by
  intro l n;rw [List.mem_map];exact⟨λ ⟨m,hm,e⟩=>by rw [<- e,hρ];exact hm,λ hm=>⟨ρ n,hm,hρ n⟩⟩
 have hget:∀ {l:List (Nat × Ob)} {n:Nat} {o:Ob},zA (MD ρ l) n=some o->∃ o',zA l (ρ n)=some o'/\o'.ren ρ=o:=by
  intro l n o hn;rw [ZU hρ] at hn
  cases e:zA l (ρ n) with
  | none=>rw [e] at hn;cases hn
  | some o'=>rw [e] at hn;exact⟨o',rfl,Option.some.inj hn⟩
 have hget':∀ {l:List (Nat × Ob)} {n:Nat} {o:Ob},zA l n=some o->zA (MD ρ l) (ρ n)=some (o.ren ρ):=by
  intro l n o hn;rw [ZU hρ,hρ,hn];rfl
 have hnone:∀ {l:List (Nat × Ob)} {n:Nat},zA (MD ρ l) n=none->zA l (ρ n)=none:=by
  intro l n hn;rw [ZU hρ] at hn
  cases e:zA l (ρ n) with
  | none=>rfl
  | some o'=>rw [e] at hn;cases hn
 refine⟨h.direct,?_,?_,?_⟩
 ·intro n hn;rw [YQ hρ,YQ hρ,XZ hρ,hmem,hmem,hmem]
  cases out with
  | ret x =>
   simp only [Out.ren,Out.names,V.ren_names,hmem] at hn;exact h.names (ρ n) hn
  | panic p=>simp [Out.ren,Out.names] at hn
 ·intro m o hm n hn;obtain⟨o',ho',rfl⟩:=hget hm;rw [Ob.ren_names,hmem] at hn;rw [YQ hρ,YQ hρ,XZ hρ,hmem,hmem,hmem];exact h.namesO _ o' ho' _ hn
 ·intro E w vs hB hl hr;have hB':pO gl (E.comp ρ) w objs:=by
   refine⟨hB.heap,hB.glob,λ n o hn=>(ObOK.ren o).1 (hB.obs _ _ (hget' hn)),λ n m o o' hn hm hne b hb => ?_⟩;exact hB.apart (ρ n) (ρ m) _ _ (hget' hn) (hget' hm) (λ e=>hne (WZ hρ e)) b hb
  refine (h.calls (E.comp ρ) w vs hB' (by rw [hl,oJ]) ((RepVL.ren args vs).1 hr)).mono ?_
  rintro e w' ⟨E',hD,ho⟩
  have hcomp:∀ F:Env,(F.comp ρ).comp ρ=F:=by
   intro F;simp [Env.comp,hρ]
  refine⟨E'.comp ρ,⟨hD.heap,?_,?_,hD.hle,hD.size,hD.rest,?_,?_,?_,?_⟩,?_⟩
  ·intro n o hn;obtain⟨o',ho',rfl⟩:=hget hn;have:=hD.obs _ o' ho';rw [<- hcomp E'] at this;have:=(ObOK.ren (E:=E'.comp ρ) (n:=ρ n) o').2 this;rwa [hρ] at this
  ·intro n m o o' hn hm hne b hb;obtain⟨q,hq,_⟩:=hget hn;obtain⟨q',hq',_⟩:=hget hm;exact hD.apart (ρ n) (ρ m) q q' hq hq' (λ e=>hne (WZ hρ e)) b hb
  ·intro b hb hnb;refine hD.same b hb (λ n o hn e => ?_);exact hnb (ρ n) _ (hget' hn) e
  ·intro n o b hn hb;obtain⟨q,hq,_⟩:=hget hn;rcases hD.own (ρ n) q b hq hb with h1|⟨m,o',hm,hbm⟩
   ·exact .inl h1
   ·exact .inr ⟨ρ m,_,hget' hm,hbm⟩
  ·intro n o hn;obtain⟨q,hq,_⟩:=hget hn;have:=hD.ext (ρ n) q hq;simpa [EExt,Env.comp,hρ] using this
  ·intro n h1 h2;have:=hD.other (ρ n) (hnone h1) (hnone h2);simpa [Env.comp,hρ] using this
  ·cases out with
   | ret x =>
    obtain⟨v,rfl,hv⟩:=ho;refine⟨v,rfl,?_⟩;rw [<- hcomp E'] at hv;exact (RepV.ren x v).2 hv
   | panic p =>
    obtain⟨v,rfl,hv⟩:=ho;exact⟨v,rfl,hv⟩
end
end Go.Lg
namespace Go.Lg
end Go.Lg
namespace Go.Lg
end Go.Lg
namespace Go.Lg
theorem AC.le {P:Program} {gl:Nat->Option (List PV)} {f:Nat} {args args':List V} {objs objs':List (Nat × Ob)} {out:Out} (h:AC P gl f args' objs out objs') (hl:args.length=args'.length) (hm:YD args objs=YD args' objs)
  (hr:∀ E vs,RepVL E args vs->RepVL E args' vs):AC P gl f args objs out objs' :=
 ⟨h.direct,by rw [hm];exact h.names,by rw [hm];exact h.namesO,λ E w vs hB hv hR=>h.calls E w vs hB (hv.trans hl) (hr E vs hR)⟩
theorem AC.leO {P:Program} {gl:Nat->Option (List PV)} {f:Nat} {args:List V} {objs objs':List (Nat × Ob)} {p q:PV} (h:AC P gl f args objs (.ret (.pv p)) objs') (hr:∀ H v,RepP H p v->RepP H q v):AC P gl f args objs (.ret (.pv q)) objs':=by
 refine⟨h.direct,h.names,h.namesO,λ E w vs hB hv hR=>(h.calls E w vs hB hv hR).mono ?_⟩
 rintro e w' ⟨E',hd,v,he,hv⟩
 exact⟨E',hd,v,he,hr _ _ hv⟩
theorem Jj {H:Hp} {v:Value} (h:RepP H .nils v):RepP H (.slice []) v:=by
 simp only [RepP] at h ⊢;exact⟨none,0,by simpa using h,by simp,by simp,by simp⟩
end Go.Lg
