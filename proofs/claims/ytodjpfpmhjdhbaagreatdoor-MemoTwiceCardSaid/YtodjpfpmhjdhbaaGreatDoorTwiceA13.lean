/- The logic of contracts; no conditions. -/
import Derived.Test.YtodjpfpmhjdhbaaGreatDoorTwiceA12
import Derived.Defers
import Derived.Recover
import Derived.Test.YtodjpfpmhjdhbaaGreatDoorTwiceA2
import Derived.Laws.StructEq
import Derived.ChangeKeysEq
set_option linter.all false
namespace Go.Lg
theorem Ga.entry {X:Env1} {fn:Func} (hnt:fn.ntmps=X.nt) {args:List V} {objs:List (Nat × Ob)} {ms:List Nat} (hal:args.length≤X.nt) (hms2:∀ n∈ms,n ∉ keysO objs)
  (hna:subL (namesL args++namesOb objs) (keysO objs++ms)) {E:Env} {w:World} {vs:List Value} (hB:Base X.gl E w objs) (hl:vs.length=args.length) (hr:RepVL E args vs) :
  Ga ⟨E,w,objs,ms,X.nt,[]⟩ E ⟨zipArgs 0 args,objs,keysO objs++ms⟩ { tmps:=vs.toArray++Array.replicate (fn.ntmps-vs.toArray.size) undef,defers:=[] } w:=by
 have hna:=subL_spec hna
 have hnone:∀ {l:List (Nat × Ob)} {n:Nat},n ∉ keysO l→getO l n=none:=by
  intro l n hn
  cases e:getO l n with
  | none=>rfl
  | some o=>exact absurd (getO_some_mem e) hn
 refine⟨?_,?_,⟨rfl,by simp [namesD]⟩,hB.heap,hB.obs,hB.apart,?_,?_,fun n o hn=>List.mem_append.2 (.inl (getO_some_mem hn)),Nat.le_refl _,⟨rfl,rfl,rfl⟩,fun _ _ _=>⟨rfl,rfl⟩,Hle.refl _,fun n o b hn hb _=>⟨n,o,hn,hb⟩,fun n o _=>EExt.refl _ _,
  fun n hn=>⟨List.mem_append.2 (.inr hn),hnone (hms2 n hn),rfl,rfl,rfl⟩⟩
 ·intro t
  rw [zipArgs_get]
  simp only [Nat.zero_le,if_true,Nat.sub_zero]
  by_cases ht:t<args.length
  ·have hra:=RepVL.iff.1 hr t args[t] (List.getElem?_eq_getElem ht)
   obtain⟨v,hv,hrv⟩:=hra
   have h1:args.getD t .undef=args[t]:=by simp [List.getD,List.getElem?_eq_getElem ht]
   rw [h1]
   have h2:(vs.toArray++Array.replicate (fn.ntmps-vs.toArray.size) undef).getD t undef=v:=by
    rw [Array.getD_eq_getD_getElem?,Array.getElem?_append_left (by simp;omega)]
    simp [hv]
   rw [h2]
   exact hrv
  ·have h1:args.getD t .undef = .undef:=by simp [List.getD,List.getElem?_eq_none (by omega:args.length≤t)]
   rw [h1]
   simp [RepV]
 ·simp;omega
 ·intro t n hn
  refine hna n ?_
  rw [List.mem_append]
  left
  have:n∈namesSl (zipArgs 0 args):=namesSl_get hn
  have key:∀ (xs:List V) (k:Nat),n∈namesSl (zipArgs k xs)→n∈namesL xs:=by
   intro xs
   induction xs with
   | nil=>intro k h;simp [zipArgs,namesSl] at h
   | cons x xs ih =>
    intro k h
    simp only [zipArgs,namesSl,List.mem_append] at h
    simp only [namesL,List.mem_append]
    rcases h with h|h
    ·exact .inl h
    ·exact .inr (ih (k+1) h)
  exact key args 0 this
 ·intro n o hn
  exact⟨List.mem_append.2 (.inl (getO_some_mem hn)),fun m hm=>hna m (by simp [(namesOb_get hn).2 m hm])⟩
theorem Ga.done {C:Ctx} {E':Env} {σ':St} {a':Act} {w':World} (hG':Ga C E' σ' a' w') {objs':List (Nat × Ob)}
  (hno:∀ m o,getO objs' m=some o→∀ n∈o.names,n∈(keysO C.given++C.ms)++keysO objs') (hsub:subO objs' σ'.objs) :
  ∃ E2:Env,Done C.E0 C.w0 C.given E2 w' objs'∧E2.H=E'.H ∧ ∀ n∈(keysO C.given++C.ms)++keysO objs',EExt E' E2 n:=by
 let E2:Env:=⟨E'.H,fun n=>if n∈keysO C.given++keysO objs' then E'.g n else C.E0.g n,fun n=>if n∈keysO C.given++keysO objs' then E'.ver n else C.E0.ver n,fun n=>if n∈keysO C.given++keysO objs' then E'.sz n else C.E0.sz n⟩
 have hE2:∀ n∈keysO C.given++keysO objs',E2.g n=E'.g n∧E2.ver n=E'.ver n∧E2.sz n=E'.sz n:=by
  intro n hn
  have hn':n∈keysO C.given∨n∈keysO objs':=List.mem_append.1 hn
  simp [E2,hn']
 have hEE0:∀ n∈keysO C.given++keysO objs',EExt E' E2 n:=fun n hn=>EExt.of_eq (hE2 n hn).1 (hE2 n hn).2.1 (hE2 n hn).2.2
 have hEE:∀ n∈(keysO C.given++C.ms)++keysO objs',EExt E' E2 n:=by
  intro n hn
  by_cases hm:n∈keysO C.given++keysO objs'
  ·exact hEE0 n hm
  ·have hn':n∈C.ms:=by
    rcases List.mem_append.1 hn with hn|hn
    ·rcases List.mem_append.1 hn with hn|hn
     ·exact absurd (List.mem_append.2 (.inl hn)) hm
     ·exact hn
    ·exact absurd (List.mem_append.2 (.inr hn)) hm
   have hm':¬ (n∈keysO C.given∨n∈keysO objs'):=fun h=>hm (List.mem_append.2 h)
   obtain⟨_,_,k3,k4,k5⟩:=hG'.keep n hn'
   exact EExt.of_eq (by simp [E2,hm'];exact k3.symm) (by simp [E2,hm'];exact k4.symm) (by simp [E2,hm'];exact k5.symm)
 have hsub:=subO_spec hsub
 have hk':∀ n o,getO objs' n=some o→n∈keysO C.given++keysO objs':=fun n o hn=>List.mem_append.2 (.inr (getO_some_mem hn))
 refine⟨E2,⟨fun b hb=>hG'.heap b hb,?_,?_,hG'.hle,hG'.grown,hG'.rest,?_,?_,?_,?_⟩,rfl,hEE⟩
 ·intro n o hn
  have hm:=hk' n o hn
  exact (hG'.objs n o (hsub n o hn)).mono (Hle.refl _) (hE2 n hm).1 (hE2 n hm).2.1 (hE2 n hm).2.2 (fun m hm'=>hEE m (hno n o hn m hm')) (fun b _=>⟨rfl,rfl⟩)
 ·intro n m o o' hn hm hne b hb
  rw [(hE2 n (hk' n o hn)).1] at hb
  rw [(hE2 m (hk' m o' hm)).1]
  exact hG'.apart n m o o' (hsub n o hn) (hsub m o' hm) hne b hb
 ·intro b hb hnb
  exact hG'.same b hb (by rintro⟨n,o,hn,hbn⟩;exact hnb n o hn hbn)
 ·intro n o b hn hb
  rw [(hE2 n (hk' n o hn)).1] at hb
  by_cases hlt:b<C.w0.heap.size
  ·obtain⟨m,o',hm,hbm⟩:=hG'.own n o b (hsub n o hn) hb hlt
   exact .inr ⟨m,o',hm,hbm⟩
  ·exact .inl (by omega)
 ·intro n o hn
  have hm:n∈keysO C.given++keysO objs':=List.mem_append.2 (.inl (getO_some_mem hn))
  exact (hG'.ext n o hn).trans (hEE0 n hm)
 ·intro n h1 h2
  have hn:¬ (n∈keysO C.given∨n∈keysO objs'):=by
   rintro (hn|hn)
   ·obtain⟨o,ho⟩:=getO_of_mem hn;rw [ho] at h1;cases h1
   ·obtain⟨o,ho⟩:=getO_of_mem hn;rw [ho] at h2;cases h2
  simp [E2,hn]
def Catches (P:Program) (gl:Nat→Option (List PV)) (fc:Nat) (caps:List V) (objs:List (Nat × Ob)) (p:PV) (objs':List (Nat × Ob)):Prop :=
 ∀ (E:Env) (w:World) (vs:List Value) (v:Value),Base gl E w objs→vs.length=caps.length→RepVL E caps vs→RepP E.H p v →
  CallsD P fc vs.toArray (.panicking [{ v,recovered:=false }]) w fun e u' w'=>(∃ r,e = .returned r)∧u' = .panicking [{ v,recovered:=true }] ∧ ∃ E',Done E w objs E' w' objs'
def Idles (P:Program) (fc:Nat) (n:Nat):Prop :=
 ∀ (w:World) (vs:List Value),vs.length=n→CallsD P fc vs.toArray .returning w fun e u' w'=>(∃ r,e = .returned r)∧u' = .returning∧w'=w
theorem catches_of {X:Env1} {fc:Nat} {fn:Func} {c:Code} {id tr:Nat} {o:Oper} (hf:X.P.funcs[fc]? = some fn) (hb:fn.body=some (.seq (.region id #[o] false) c)) (hnt:fn.ntmps=X.nt)
  (hrec:∀ ρ w,(execOp ρ o).run X.P w = .ok .recover w) (hdst:o.dst=some tr) (hgd:o.guard=none) (htr:tr<X.nt) {caps:List V} {objs:List (Nat × Ob)} {p:PV} {x:V} {objs':List (Nat × Ob)}
  (hgiven:X.given=keysO objs) (hal:caps.length≤X.nt) (hna:subL (namesL caps++namesOb objs) (keysO objs)) (hno:subL (namesOb objs') (keysO objs++keysO objs'))
  (h:AWP X c ⟨(tr,.pv p)::zipArgs 0 caps,objs,keysO objs⟩ (endQ X fn.results.toList (.ret x) objs')):Catches X.P X.gl fc caps objs p objs':=by
 intro E w vs v hB hl hr hp
 have hno:=subL_spec hno
 refine callsD_of_wpS hf hb fun c₀ cs hu => ?_
 apply wpS_seq
 apply wpS_region
 have hG:=Ga.entry (X:=X) (fn:=fn) (ms:=[]) hnt hal (by simp) (by simpa using hna) hB hl hr
 simp only [List.append_nil] at hG
 have hG1:=hG.pure E.H (some tr) (.pv p) v (Hle.refl _) (Nat.le_refl _) ⟨rfl,rfl,rfl⟩ (fun _ _=>⟨rfl,rfl⟩) hG.heap (by simpa [RepV] using hp) (by simp [V.names]) (by intro d hd;cases hd;exact htr)
 have hC:COK X ⟨E,w,objs,[],X.nt,[]⟩:=⟨hB.glob,rfl,fun n o hn=>by rw [hgiven];exact getO_some_mem hn,by simp,by simp [namesD]⟩
 have hwp:=h _ _ _ _ hC hG1
 have hr1:List.range (#[o]:Array Oper).size=[0]:=rfl
 rw [hr1]
 simp only [wpOpsS,List.getElem?_toArray,List.getElem?_cons_zero,Region.wanted,hgd,if_true,hrec,recoverD,hu,hdst,Exit.thenS]
 refine wpS_of_wp (wp_mono hwp ?_)
 rintro e a' w' ⟨E',σ',ae,hG',hrel,hq⟩
 have fin:(∃ y,resV X σ' fn.results.toList=some y)→subO objs' σ'.objs→a'.defers=[] ∧ ∃ u',({ c₀ with mode:=.panicking [{ v,recovered:=true }] } :: cs:List Frame) = { c₀ with mode:=u' } :: cs ∧ ∃ r,(results fn a'.tmps).run X.P w' = .ok r w' ∧
   ((∃ r',Ending.returned r = .returned r')∧u' = .panicking [{ v,recovered:=true }] ∧ ∃ E',Done E w objs E' w' objs'):=by
  rintro⟨y,hy⟩ hsub
  obtain⟨r,hrr,_⟩:=res_run X.ok hG' hy
  obtain⟨E2,hD,_⟩:=hG'.done (objs':=objs') (by
   intro m o hm n hn
   have:=hno n ((namesOb_get hm).2 n hn)
   simpa using this) hsub
  exact⟨hG'.defers.1,_,rfl,r,hrr,⟨_,rfl⟩,rfl,E2,hD⟩
 cases ae with
 | normal=>cases hrel;exact fin ⟨_,hq.1⟩ hq.2
 | ret=>cases hrel;exact fin ⟨_,hq.1⟩ hq.2
 | exit i=>exact hq.elim
 | panic q=>exact hq.1.elim
theorem Ga.defer {C:Ctx} {E:Env} {σ:St} {a:Act} {w:World} (h:Ga C E σ a w) {f:Nat} {caps:List V} {cv:List Value} (hl:cv.length=caps.length) (hr:RepVL E caps cv) (hn:∀ n∈namesL caps,n∈σ.used) :
  Ga { C with defs:=(f,caps)::C.defs } E σ { a with defers:={ target:=.fn (.func f) cv.toArray,args:=#[] } :: a.defers } w :=
 ⟨h.slots,h.size,⟨⟨cv,a.defers,rfl,hl,hr,h.defers.1⟩,fun n hm=>by
  simp only [namesD,List.mem_append] at hm
  rcases hm with hm|hm
  ·exact hn n hm
  ·exact h.defers.2 n hm⟩,h.heap,h.objs,h.apart,h.usedS,h.usedO,h.usedG,h.grown,h.rest,h.same,h.hle,h.own,h.ext,h.keep⟩
def rescueQ (X:Env1) (rs:List ResultVar) (fc:Nat) (caps:List V) (x:V) (objs':List (Nat × Ob)):AEx→St→Prop
 | .normal,σ=>resV X σ rs=some x∧subO objs' σ.objs
 | .ret,σ=>resV X σ rs=some x∧subO objs' σ.objs
 | .panic p,σ => ∃ co co':List (Nat × Ob),Catches X.P X.gl fc caps co p co'∧subO co σ.objs∧keysO co'=keysO co∧namesOb co'=keysO co' ∧
   resV X (σ.eff none (callEff .undef co co')) rs=some x∧subO objs' (σ.eff none (callEff .undef co co')).objs
 | .exit _,_=>False
def Env1.more (X:Env1) (l:List Nat):Env1:={ X with given:=X.given++l }
theorem AC.of_rescue {X : Env1} {f : Nat} {fn : Func} {c0 c1 : Code} {id tf fc : Nat} {o1 o2 : Oper} {co : Array Operand} (hf : X.P.funcs[f]? = some fn) (hb : fn.body = some (.seq c0 (.seq (.region id #[o1, o2] false) c1))) (hname : (fn.name == "runtime.NumGoroutine") = false) (hnt : fn.ntmps = X.nt)
  (hdir:Direct X.P fc)
  (ho1:o1.op = .makeFunc (.func fc) #[] co) (hd1:o1.dst=some tf) (hg1:o1.guard=none) (htf:tf<X.nt)
  (ho2:o2.op = .defer { callee:=.value (.tmp tf),args:=#[],argTypes:=#[] }) (hd2:o2.dst=none) (hg2:o2.guard=none)
  {args:List V} {objs:List (Nat × Ob)} {x:V} {objs':List (Nat × Ob)} {ms:List Nat} (hgiven:X.given=keysO objs++ms) (hal:args.length≤X.nt)
  (hms1:subL ms (mentL args objs)) (hms2:∀ n∈ms,n ∉ keysO objs)
  (hna:subL (namesL args++namesOb objs) (keysO objs++ms)) (hno:subL (x.names++namesOb objs') ((keysO objs++ms)++keysO objs'))
  {σ1:St} (h0:AWP X c0 ⟨zipArgs 0 args,objs,keysO objs++ms⟩ (fun e σ=>e = .normal∧σ=σ1)) {caps:List V} (hcaps:co.toList.map (σ1.val X.gl)=caps) (hid:Idles X.P fc caps.length)
  (h1:AWP (X.more (namesL caps)) c1 ⟨(tf,.fn fc caps)::σ1.slots,σ1.objs,σ1.used⟩ (rescueQ X fn.results.toList fc caps x objs')):AC X.P X.gl f args objs (.ret x) objs':=by
 have hno:=subL_spec hno
 have hms1:=subL_spec hms1
 have hout:∀ n,n∈(keysO objs++ms)++keysO objs'→n∈keysO objs∨n∈keysO objs'∨n∈mentL args objs:=by
  intro n hn
  rcases List.mem_append.1 hn with hn|hn
  ·rcases List.mem_append.1 hn with hn|hn
   ·exact .inl hn
   ·exact .inr (.inr (hms1 n hn))
  ·exact .inr (.inl hn)
 refine⟨⟨fn,hf,hname,by rw [hb];rfl⟩,fun n hn=>hout n (hno n (List.mem_append.2 (.inl hn))),fun m o hm n hn=>hout n (hno n (List.mem_append.2 (.inr ((namesOb_get hm).2 n hn)))),?_⟩
 intro E w vs hB hl hr
 refine calls_of_wp_defers hf hb ?_
 let C:Ctx:=⟨E,w,objs,ms,X.nt,[]⟩
 have hC:COK X C:=⟨hB.glob,rfl,fun n o hn=>by rw [hgiven];exact List.mem_append.2 (.inl (getO_some_mem hn)),fun n hn=>by rw [hgiven];exact List.mem_append.2 (.inr hn),by simp [C,namesD]⟩
 have hG:=Ga.entry (X:=X) (fn:=fn) hnt hal hms2 hna hB hl hr
 refine wp_seq ?_
 refine wp_mono (h0 C E _ w hC hG) ?_
 rintro e a1 w1 ⟨E1,σ',ae,hG1,hrel,rfl,rfl⟩
 cases hrel
 show Code.wp _ _ _ _ _
 refine wp_seq ?_
 refine wp_region_list ?_
 -- the closure
 obtain⟨v,w2,E2,hres,hG2,_⟩:=stepOp_sound (P:=X.P) (T:=X.T) (note:=.none) (gl:=X.gl) (o:=o1) (r:=R.of (.fn fc caps)) X.ok hC.glob hG1 (by intro d hd;rw [hd1] at hd;cases hd;exact htf) (by rw [ho1];simp only [stepOp];simp [hcaps]) trivial (by intro n y hw;cases hw)
 unfold wpList
 rw [if_pos (by simp [Region.wanted,hg1])]
 left
 refine hres.wp ?_
 have hslots:σ'.app o1.dst (R.of (.fn fc caps))=⟨(tf,.fn fc caps)::σ'.slots,σ'.objs,σ'.used⟩:=by rw [hd1];rfl
 rw [hslots] at hG2
 unfold wpList
 rw [if_pos (by simp [Region.wanted,hg2])]
 left
 have hsl:=hG2.slots tf
 simp only [getS,if_true,RepV] at hsl
 obtain⟨cv,hcv,hcl,hcr⟩:=hsl
 have hun:∀ n∈namesL caps,n∈σ'.used:=by
  intro n hn
  have:=hG2.usedS tf n
  simp only [getS,if_true,V.names] at this
  exact this hn
 have hrun2:(execOp (a1.put o1.dst v).eval o2).run X.P w2 = .ok (.defer { target:=.fn (.func fc) cv.toArray,args:=#[] }) w2:=by
  simp [execOp,ho2,resolve,Act.eval,hcv,Deferred.ofValue]
 unfold Oper.wp
 rw [hrun2,Oper.upon_defer]
 simp only [wpList]
 have hG3:=hG2.defer (f:=fc) hcl hcr hun
 have hput:({ a1.put o1.dst v with defers:={ target:=.fn (.func fc) cv.toArray,args:=#[] } :: (a1.put o1.dst v).defers } : Act).put o2.dst undef = { a1.put o1.dst v with defers:={ target:=.fn (.func fc) cv.toArray,args:=#[] } :: (a1.put o1.dst v).defers }:=by rw [hd2];rfl
 rw [hput]
 show Code.wp _ _ _ _ _
 have hC':COK (X.more (namesL caps)) { C with defs:=(fc,caps)::C.defs } :=
  ⟨hC.glob,hC.nt,fun n o hn=>List.mem_append.2 (.inl (hC.given n o hn)),fun n hn=>List.mem_append.2 (.inl (hC.ms n hn)),fun n hn=>by
   refine List.mem_append.2 (.inr ?_)
   simpa [C,namesD] using hn⟩
 refine wp_mono (h1 _ _ _ _ hC' hG3) ?_
 rintro e a3 w3 ⟨E3,σ3,ae,hG4,hrel,hq⟩
 obtain⟨cv3,rest,hdefs,hcl3,hcr3,hrest⟩:=hG4.defers.1
 cases hrest
 -- the results and the objects at the end
 have fin:∀ (E4:Env) (σ4:St) (a4:Act) (w4:World),a4.tmps=a3.tmps→Ga { C with defs:=(fc,caps)::C.defs } E4 σ4 a4 w4→resV X σ4 fn.results.toList=some x→subO objs' σ4.objs →
   ∃ v,(results fn a3.tmps).run X.P w4 = .ok v w4 ∧ ∃ E',Done E w objs E' w4 objs'∧OutRel E' (.ret x) (.returned v):=by
  intro E4 σ4 a4 w4 ht hG5 hres hsub
  obtain⟨v,hv,hrv⟩:=res_run X.ok hG5 hres
  obtain⟨E2,hD,hH,hEE⟩:=hG5.done (objs':=objs') (by intro m o hm n hn;exact hno n (List.mem_append.2 (.inr ((namesOb_get hm).2 n hn)))) hsub
  refine⟨v,by rw [← ht];exact hv,E2,hD,v,rfl,?_⟩
  exact RepV.mono (E:=E4) (E':=E2) (by rw [hH];exact Hle.refl _) x v (fun n hn=>hEE n (hno n (List.mem_append.2 (.inl hn)))) hrv
 have hinv:∀ w,(invoke (.fn (.func fc) cv3.toArray) #[]).run X.P w = .ok (.enter fc cv3.toArray) w:=by
  intro w
  obtain⟨fnc,hfn,hnm,hbody⟩:=hdir
  have hb:¬ fnc.body=none:=by intro e;rw [e] at hbody;cases hbody
  have hname' : ¬ fnc.name = "runtime.NumGoroutine" := by simpa using hnm
  simp [invoke,callFunc,hfn,hname',hb]
 have hret:resV X σ3 fn.results.toList=some x→subO objs' σ3.objs→Leaves X.P fn a3.tmps (fun e w' => ∃ E',Done E w objs E' w' objs'∧OutRel E' (.ret x) e) a3.defers .returning w3:=by
  intro h2 h3
  rw [hdefs]
  refine leaves_cons (f:=fc) (args:=cv3.toArray) (by simp) (hinv w3) ?_
  refine (hid w3 cv3 hcl3).mono ?_
  rintro e u' w' ⟨⟨r,rfl⟩,rfl,rfl⟩
  simp only [settle,Leaves]
  exact fin E3 σ3 a3 w' rfl hG4 h2 h3
 cases ae with
 | normal=>cases hrel;exact hret hq.1 hq.2
 | ret=>cases hrel;exact hret hq.1 hq.2
 | exit i=>exact hq.elim
 | panic p =>
  obtain⟨v,rfl,hv⟩:=hrel
  obtain⟨cobj,cobj',hcatch,hsub,hkeys,hnames,hres,hsub'⟩:=hq
  have hs:=subO_spec hsub
  show Leaves _ _ _ _ _ _ _
  rw [hdefs]
  refine leaves_cons (f:=fc) (args:=cv3.toArray) (by simp) (hinv w3) ?_
  have hbase:Base X.gl E3 w3 cobj:=⟨hG4.heap,hC.glob.mono hG4.hle,fun n o hn=>hG4.objs n o (hs n o hn),fun n m o o' hn hm=>hG4.apart n m o o' (hs n o hn) (hs m o' hm)⟩
  refine (hcatch E3 w3 cv3 v hbase hcl3 hcr3 hv).mono ?_
  rintro e u' w' ⟨⟨r,rfl⟩,rfl,E5,hD⟩
  have hG5:=hG4.called (dst:=none) (x:=.undef) (v:=undef) (ment:=[]) hD hs (by intro n hn;rw [hkeys] at hn;exact .inl hn) (by simp) (by
   intro m o hm n hn
   have:=(namesOb_get hm).2 n hn
   rw [hnames] at this
   exact .inr (.inl this)) (by simp [RepV]) (by simp [V.names]) (by simp)
  simp only [settle,List.dropWhile,Leaves]
  exact fin E5 _ _ w' rfl hG5 hres hsub'
mutual
def V.ren (ρ:Nat→Nat):V→V
 | .undef => .undef
 | .pv p => .pv p
 | .loc n off => .loc (ρ n) off
 | .eloc n ver i off => .eloc (ρ n) ver i off
 | .arr n ver len => .arr (ρ n) ver len
 | .map n => .map (ρ n)
 | .vsl es => .vsl (renE ρ es)
 | .fsl es => .fsl es
 | .fn f cs => .fn f (renL ρ cs)
 | .bfn f cs => .bfn f (renL ρ cs)
 | .agg cs => .agg (renL ρ cs)
 | .tuple cs => .tuple (renL ρ cs)
def renL (ρ:Nat→Nat):List V→List V
 | []=>[]
 | c::cs=>c.ren ρ::renL ρ cs
def renE (ρ:Nat→Nat):List (List V)→List (List V)
 | []=>[]
 | e::es=>renL ρ e::renE ρ es
end
theorem renL_eq (ρ:Nat→Nat) (l:List V):renL ρ l=l.map (V.ren ρ):=by
 induction l with
 | nil=>rfl
 | cons c l ih=>simp [renL,ih]
theorem renE_eq (ρ:Nat→Nat) (l:List (List V)):renE ρ l=l.map (renL ρ):=by
 induction l with
 | nil=>rfl
 | cons c l ih=>simp [renE,ih]
theorem renL_len (ρ:Nat→Nat) (l:List V):(renL ρ l).length=l.length:=by simp [renL_eq]
theorem renE_len (ρ:Nat→Nat) (l:List (List V)):(renE ρ l).length=l.length:=by simp [renE_eq]
def Ob.ren (ρ:Nat→Nat):Ob→Ob
 | .box cs => .box (renL ρ cs)
 | .arr ver sz ty es => .arr ver sz ty (renE ρ es)
 | .cache D F => .cache D F
 | .imap es => .imap es
def renO (ρ:Nat→Nat):List (Nat × Ob)→List (Nat × Ob)
 | []=>[]
 | (n,o)::r=>(ρ n,o.ren ρ)::renO ρ r
def Out.ren (ρ:Nat→Nat):Out→Out
 | .ret x => .ret (x.ren ρ)
 | .panic p => .panic p
def Env.comp (E:Env) (ρ:Nat→Nat):Env:=⟨E.H,fun n=>E.g (ρ n),fun n=>E.ver (ρ n),fun n=>E.sz (ρ n)⟩
mutual
theorem RepV.ren {E:Env} {ρ:Nat→Nat} : ∀ (x:V) (v:Value),RepV E (x.ren ρ) v↔RepV (E.comp ρ) x v
 | .undef,_=>by simp [V.ren,RepV]
 | .pv p,v=>by simp [V.ren,RepV,Env.comp]
 | .loc n off,v=>by simp [V.ren,RepV,Env.comp]
 | .eloc n ver i off,v=>by simp [V.ren,RepV,Env.comp]
 | .arr n ver len,v=>by simp [V.ren,RepV,Env.comp]
 | .map n,v=>by simp [V.ren,RepV,Env.comp]
 | .vsl es,v=>by
  simp only [V.ren,RepV,renE_len]
  have h:∀ vs,RepVE E (renE ρ es) vs↔RepVE (E.comp ρ) es vs:=RepVE.ren es
  have hn:renE ρ es=[]↔es=[]:=by cases es<;>simp [renE]
  simp only [h,hn]
  rfl
 | .fsl es,v=>by simp [V.ren,RepV,Env.comp]
 | .fn f cs,v=>by simp only [V.ren,RepV,renL_len,RepVL.ren cs]
 | .bfn f cs,v=>by simp only [V.ren,RepV,renL_len,RepVL.ren cs]
 | .agg cs,v=>by simp only [V.ren,RepV,renL_len,RepVL.ren cs]
 | .tuple cs,v=>by simp only [V.ren,RepV,renL_len,RepVL.ren cs]
theorem RepVL.ren {E:Env} {ρ:Nat→Nat} : ∀ (cs:List V) (vs:List Value),RepVL E (renL ρ cs) vs↔RepVL (E.comp ρ) cs vs
 | [],_=>by simp [renL,RepVL]
 | c::cs,[]=>by simp [renL,RepVL]
 | c::cs,v::vs=>by simp only [renL,RepVL,RepV.ren c v,RepVL.ren cs vs]
theorem RepVE.ren {E:Env} {ρ:Nat→Nat} : ∀ (es:List (List V)) (vs:List Value),RepVE E (renE ρ es) vs↔RepVE (E.comp ρ) es vs
 | [],_=>by simp [renE,RepVE]
 | e::es,vs=>by simp only [renE,RepVE,renL_len,RepVL.ren e vs,RepVE.ren es (vs.drop e.length)]
end
theorem ObOK.ren {E:Env} {w:World} {ρ:Nat→Nat} {n:Nat} (o:Ob):ObOK E w (ρ n) (o.ren ρ)↔ObOK (E.comp ρ) w n o:=by
 cases o with
 | box cs=>simp only [Ob.ren,ObOK,renL_len,RepVL.ren cs];rfl
 | arr ver sz ty es =>
  have h:(∀ e∈renE ρ es,e.length=sz) ↔ ∀ e∈es,e.length=sz:=by
   rw [renE_eq]
   simp [renL_len]
  simp only [Ob.ren,ObOK,renE_len,RepVE.ren es,h]
  rfl
 | cache D F=>simp only [Ob.ren,ObOK];rfl
 | imap es=>simp only [Ob.ren,ObOK];rfl
mutual
theorem V.ren_names (ρ:Nat→Nat):∀ x:V,(x.ren ρ).names=x.names.map ρ
 | .undef=>rfl
 | .pv _=>rfl
 | .loc _ _=>rfl
 | .eloc _ _ _ _=>rfl
 | .arr _ _ _=>rfl
 | .map _=>rfl
 | .vsl es=>by simp only [V.ren,V.names,renE_names ρ es]
 | .fsl _=>rfl
 | .fn _ cs=>by simp only [V.ren,V.names,renL_names ρ cs]
 | .bfn _ cs=>by simp only [V.ren,V.names,renL_names ρ cs]
 | .agg cs=>by simp only [V.ren,V.names,renL_names ρ cs]
 | .tuple cs=>by simp only [V.ren,V.names,renL_names ρ cs]
theorem renL_names (ρ:Nat→Nat):∀ l:List V,namesL (renL ρ l)=(namesL l).map ρ
 | []=>rfl
 | c::cs=>by simp only [renL,namesL,V.ren_names ρ c,renL_names ρ cs,List.map_append]
theorem renE_names (ρ:Nat→Nat):∀ l:List (List V),namesE (renE ρ l)=(namesE l).map ρ
 | []=>rfl
 | e::es=>by simp only [renE,namesE,renL_names ρ e,renE_names ρ es,List.map_append]
end
theorem Ob.ren_names (ρ:Nat→Nat) (o:Ob):(o.ren ρ).names=o.names.map ρ:=by
 cases o with
 | box cs=>simp only [Ob.ren,Ob.names,renL_names]
 | arr ver sz ty es=>simp only [Ob.ren,Ob.names,renE_names]
 | cache D F=>rfl
 | imap es=>rfl
section
variable {ρ:Nat→Nat} (hρ:∀ n,ρ (ρ n)=n)
include hρ
theorem ren_inj {a b:Nat} (h:ρ a=ρ b):a=b:=by rw [← hρ a,h,hρ]
theorem getO_ren (l:List (Nat × Ob)) (n:Nat):getO (renO ρ l) n=(getO l (ρ n)).map (Ob.ren ρ):=by
 induction l with
 | nil=>rfl
 | cons p r ih =>
  obtain⟨k,o⟩:=p
  simp only [renO,getO,ih]
  by_cases e:ρ k=n
  ·subst e
   simp [hρ]
  ·have:¬ k=ρ n:=fun h=>e (by rw [h,hρ])
   simp [e,this]
theorem keysO_ren (l:List (Nat × Ob)):keysO (renO ρ l)=(keysO l).map ρ:=by
 induction l with
 | nil=>rfl
 | cons p r ih =>
  obtain⟨k,o⟩:=p
  simp only [renO,keysO,List.map_cons] at ih ⊢
  rw [ih]
theorem mentL_ren (args:List V) (l:List (Nat × Ob)):mentL (renL ρ args) (renO ρ l)=(mentL args l).map ρ:=by
 have h:mentO (renO ρ l)=(mentO l).map ρ:=by
  induction l with
  | nil=>rfl
  | cons p r ih =>
   obtain⟨k,o⟩:=p
   simp only [renO,mentO,List.map_append,Ob.ren_names,ih]
 simp only [mentL,renL_names,h,List.map_append]
theorem AC.ren {P:Program} {gl:Nat→Option (List PV)} {f:Nat} {args:List V} {objs:List (Nat × Ob)} {out:Out} {objs':List (Nat × Ob)} (h:AC P gl f args objs out objs') :
  AC P gl f (renL ρ args) (renO ρ objs) (out.ren ρ) (renO ρ objs'):=by
 have hmem:∀ {l:List Nat} {n:Nat},n∈l.map ρ↔ρ n∈l:=by
  intro l n
  rw [List.mem_map]
  exact⟨fun ⟨m,hm,e⟩=>by rw [← e,hρ];exact hm,fun hm=>⟨ρ n,hm,hρ n⟩⟩
 have hget:∀ {l:List (Nat × Ob)} {n:Nat} {o:Ob},getO (renO ρ l) n=some o→∃ o',getO l (ρ n)=some o'∧o'.ren ρ=o:=by
  intro l n o hn
  rw [getO_ren hρ] at hn
  cases e:getO l (ρ n) with
  | none=>rw [e] at hn;cases hn
  | some o'=>rw [e] at hn;exact⟨o',rfl,Option.some.inj hn⟩
 have hget':∀ {l:List (Nat × Ob)} {n:Nat} {o:Ob},getO l n=some o→getO (renO ρ l) (ρ n)=some (o.ren ρ):=by
  intro l n o hn
  rw [getO_ren hρ,hρ,hn]
  rfl
 have hnone:∀ {l:List (Nat × Ob)} {n:Nat},getO (renO ρ l) n=none→getO l (ρ n)=none:=by
  intro l n hn
  rw [getO_ren hρ] at hn
  cases e:getO l (ρ n) with
  | none=>rfl
  | some o'=>rw [e] at hn;cases hn
 refine⟨h.direct,?_,?_,?_⟩
 ·intro n hn
  rw [keysO_ren hρ,keysO_ren hρ,mentL_ren hρ,hmem,hmem,hmem]
  cases out with
  | ret x =>
   simp only [Out.ren,Out.names,V.ren_names,hmem] at hn
   exact h.names (ρ n) hn
  | panic p=>simp [Out.ren,Out.names] at hn
 ·intro m o hm n hn
  obtain⟨o',ho',rfl⟩:=hget hm
  rw [Ob.ren_names,hmem] at hn
  rw [keysO_ren hρ,keysO_ren hρ,mentL_ren hρ,hmem,hmem,hmem]
  exact h.namesO _ o' ho' _ hn
 ·intro E w vs hB hl hr
  have hB':Base gl (E.comp ρ) w objs:=by
   refine⟨hB.heap,hB.glob,fun n o hn=>(ObOK.ren o).1 (hB.obs _ _ (hget' hn)),fun n m o o' hn hm hne b hb => ?_⟩
   exact hB.apart (ρ n) (ρ m) _ _ (hget' hn) (hget' hm) (fun e=>hne (ren_inj hρ e)) b hb
  refine (h.calls (E.comp ρ) w vs hB' (by rw [hl,renL_len]) ((RepVL.ren args vs).1 hr)).mono ?_
  rintro e w' ⟨E',hD,ho⟩
  have hcomp:∀ F:Env,(F.comp ρ).comp ρ=F:=by
   intro F
   simp [Env.comp,hρ]
  refine⟨E'.comp ρ,⟨hD.heap,?_,?_,hD.hle,hD.size,hD.rest,?_,?_,?_,?_⟩,?_⟩
  ·intro n o hn
   obtain⟨o',ho',rfl⟩:=hget hn
   have:=hD.obs _ o' ho'
   rw [← hcomp E'] at this
   have:=(ObOK.ren (E:=E'.comp ρ) (n:=ρ n) o').2 this
   rwa [hρ] at this
  ·intro n m o o' hn hm hne b hb
   obtain⟨q,hq,_⟩:=hget hn
   obtain⟨q',hq',_⟩:=hget hm
   exact hD.apart (ρ n) (ρ m) q q' hq hq' (fun e=>hne (ren_inj hρ e)) b hb
  ·intro b hb hnb
   refine hD.same b hb (fun n o hn e => ?_)
   exact hnb (ρ n) _ (hget' hn) e
  ·intro n o b hn hb
   obtain⟨q,hq,_⟩:=hget hn
   rcases hD.own (ρ n) q b hq hb with h1|⟨m,o',hm,hbm⟩
   ·exact .inl h1
   ·exact .inr ⟨ρ m,_,hget' hm,hbm⟩
  ·intro n o hn
   obtain⟨q,hq,_⟩:=hget hn
   have:=hD.ext (ρ n) q hq
   simpa [EExt,Env.comp,hρ] using this
  ·intro n h1 h2
   have:=hD.other (ρ n) (hnone h1) (hnone h2)
   simpa [Env.comp,hρ] using this
  ·cases out with
   | ret x =>
    obtain⟨v,rfl,hv⟩:=ho
    refine⟨v,rfl,?_⟩
    rw [← hcomp E'] at hv
    exact (RepV.ren x v).2 hv
   | panic p =>
    obtain⟨v,rfl,hv⟩:=ho
    exact⟨v,rfl,hv⟩
end
def swapN (a b:Nat) (n:Nat):Nat:=if n=a then b else if n=b then a else n
theorem swapN_inv (a b:Nat):∀ n,swapN a b (swapN a b n)=n:=by
 intro n
 unfold swapN
 by_cases h1:n=a
 ·subst h1
  simp
 ·by_cases h2:n=b
  ·subst h2
   simp [h1]
  ·simp [h1,h2]
theorem ex_drawC {X:Env1} {σ:St} {id:Nat} {l:List Oper} {Q:AEx→St→Prop} (j:Nat) {op:Oper}
  (h:runOps X true l (fun σj tr => ∃ f args objs p,calleeOf (σj.val X.gl) op.op=some (f,args)∧AC X.P X.gl f args objs (.panic p) []∧subO objs σj.objs∧op.guard=none ∧
   checkDrawP l (tr++⟨.undef,[],[],keysO objs⟩::(l.drop (j+1)).map (fun _=>skipE)) j=true ∧ ∀ τ,Q (.panic p) τ) (fun _ _=>False) (l.take j) σ [])
  (hop:l[j]? = some op):AWP X (.region id l.toArray true) σ Q:=by
 have hj:j<l.length:=(List.getElem?_eq_some_iff.1 hop).1
 have hlen:(l.take j).length=j:=by simp;omega
 refine ex_drawP (pre:=l.take j) (op:=op) (post:=l.drop (j+1)) (by rw [hlen];exact h) ?_
 conv=>lhs;rw [← List.take_append_drop j l]
 congr 1
 rw [List.drop_eq_getElem_cons hj]
 congr 1
 rw [List.getElem?_eq_getElem hj] at hop
 exact Option.some.inj hop
def Fgt (σ σ2:St):Prop:=∀ (C:Ctx) (E:Env) (a:Act) (w:World),Ga C E σ a w→Ga C E σ2 a w
theorem AWP.fgt {X:Env1} {c:Code} {σ:St} {Q:AEx→St→Prop} (h:AWP X c σ (fun ae σ => ∃ σ2,Fgt σ σ2∧Q ae σ2)):AWP X c σ Q:=by
 intro C E a w hC hG
 refine wp_mono (h C E a w hC hG) ?_
 rintro e a' w' ⟨E',σ',ae,hG',hrel,σ2,hf,hq⟩
 exact⟨E',σ2,ae,hf _ _ _ _ hG',hrel,hq⟩
theorem Fgt.box {σ:St} {n:Nat} {cs cs':List V} (hb:getO σ.objs n=some (.box cs)) (hl:cs'.length=cs.length) (h:∀ (i:Nat) (x:V),cs'[i]? = some x→x=V.undef∨cs[i]? = some x):Fgt σ ⟨σ.slots,setO σ.objs n (.box cs'),σ.used⟩:=by
 intro C E a w hG
 have:=hG.change (E':=E) n (some (.box cs')) (setO σ.objs n (.box cs')) σ.used none .undef undef (fun m=>getO_setO _ _ _ _) (Hle.refl _)
  (fun _ _=>⟨rfl,rfl,rfl⟩) (fun _=>EExt.refl _ _) (fun _=>⟨_,hb⟩) (Nat.le_refl _) ⟨rfl,rfl,rfl⟩ (fun _ _ _=>⟨rfl,rfl⟩) hG.heap ?_ ?_ (fun _ h=>h) (by simp [RepV]) (by simp [V.names]) (by simp)
 ·exact this
 ·intro o e
  cases e
  obtain⟨bb,c,T,hg,hc,hl',hrep,h0⟩:=hG.objs n _ hb
  refine⟨⟨bb,c,T,hg,hc,by rw [hl,hl'],?_,h0⟩,(hG.usedO n _ hb).1,?_⟩
  ·rw [RepVL.iff] at hrep ⊢
   intro j x hx
   rcases h j x hx with rfl|hx'
   ·have hj:j<cs'.length:=(List.getElem?_eq_some_iff.1 hx).1
    obtain⟨v,hv,_⟩:=hrep j _ (List.getElem?_eq_getElem (by omega))
    exact⟨v,hv,by simp [RepV]⟩
   ·exact hrep j x hx'
  ·intro m hm
   obtain⟨x,hx,hm⟩:=mem_namesL.1 (by simpa only [Ob.names] using hm)
   obtain⟨i,hi⟩:=List.mem_iff_getElem?.1 hx
   rcases h i x hi with rfl|hx'
   ·simp [V.names] at hm
   ·exact (hG.usedO n _ hb).2 m (mem_namesL.2 ⟨x,List.mem_of_getElem? hx',hm⟩)
 ·intro o bb e hbb
  exact .inr ⟨hbb,_,hb⟩
end Go.Lg
namespace Go.Lg
theorem Fgt.more {σ:St} {n:Nat} {D D':PV→Prop} {F F':PV→PV} (hb:getO σ.objs n=some (.cache D F)) (hm:∀ p,D p→D' p∧F p=F' p) (hc:Coh D' F'):Fgt σ ⟨σ.slots,setO σ.objs n (.cache D' F'),σ.used⟩:=by
 intro C E a w hG
 have:=hG.change (E':=E) n (some (.cache D' F')) (setO σ.objs n (.cache D' F')) σ.used none .undef undef (fun m=>getO_setO _ _ _ _) (Hle.refl _)
  (fun _ _=>⟨rfl,rfl,rfl⟩) (fun _=>EExt.refl _ _) (fun _=>⟨_,hb⟩) (Nat.le_refl _) ⟨rfl,rfl,rfl⟩ (fun _ _ _=>⟨rfl,rfl⟩) hG.heap ?_ ?_ (fun _ h=>h) (by simp [RepV]) (by simp [V.names]) (by simp)
 ·exact this
 ·intro o e
  cases e
  obtain⟨_,b,es,ck,h1,h2,h3,h4⟩:=hG.objs n _ hb
  refine⟨⟨hc,b,es,ck,h1,h2,h3,fun e he => ?_⟩,(hG.usedO n _ hb).1,by simp [Ob.names]⟩
  obtain⟨p,hp,hk,hv,hx⟩:=h4 e he
  obtain⟨hp',hf⟩:=hm p hp
  exact⟨p,hp',hk,by rw [← hf];exact hv,hx⟩
 ·intro o bb e hbb
  exact .inr ⟨hbb,_,hb⟩
theorem ex_more {X:Env1} {c:Code} {σ σ':St} {Q:AEx→St→Prop} (n:Nat) {D D':PV→Prop} {F F':PV→PV} (hb:getO σ.objs n=some (.cache D F)) (hm:∀ p,D p→D' p∧F p=F' p) (hc:Coh D' F') (hσ:(⟨σ.slots,setO σ.objs n (.cache D' F'),σ.used⟩:St)=σ') (h:AWP X c σ' Q):AWP X c σ Q:=by
 subst hσ
 intro C E a w hC hG
 exact h C E a w hC (Fgt.more hb hm hc C E a w hG)
section
variable {P:Program}
theorem run_part_int {t:TypeId} (hu:P.underlying t=some (.int .i64)) (l:List Int) (i:Nat) (hi:i<l.length) (w:World):(part t ((l.map (Value.int .i64)).toArray) i).run P w = .ok (.int .i64 (l.getD i 0)) w:=by
 have h1:(isAgg t).run P w = .ok false w:=by simp [isAgg,run_underlying hu]
 have h2:((l.map (Value.int .i64)).toArray)[i]? = some (Value.int .i64 (l.getD i 0)):=by
  simp [List.getD,hi]
 unfold part
 simp only [Sem.run_bind,h1,Result.andThen_ok,Bool.false_eq_true,if_false,h2]
 rfl
theorem getD_drop (l:List Int) (i:Nat) (hi:i<l.length):l.drop i=l.getD i 0::l.drop (i+1):=by
 rw [List.drop_eq_getElem_cons hi]
 simp [List.getD,hi]
theorem eqFields_ints (d : Nat) (a b : List Int) (hab : a.length = b.length) (w : World) : ∀ (fs : List Field) (i : Nat), (∀ f ∈ fs, f.name ≠ "_" ∧ P.underlying f.type = some (.int .i64)) → fs.map (·.offset) = List.range' i fs.length → i + fs.length = a.length →
  (Op.eqFields (d+1) ((a.map (Value.int .i64)).toArray) ((b.map (Value.int .i64)).toArray) fs).run P w = .ok (decide (a.drop i=b.drop i)) w
 | [],i,_,_,hl=>by
  have h1:a.drop i=[]:=List.drop_eq_nil_of_le (by simp at hl;omega)
  have h2:b.drop i=[]:=List.drop_eq_nil_of_le (by simp at hl;omega)
  simp [Op.eqFields,h1,h2]
 | f::fs,i,hf,ho,hl=>by
  simp only [List.map_cons,List.length_cons,List.range'_succ,List.cons.injEq] at ho hl
  obtain⟨h1,h2⟩:=hf f (List.mem_cons_self ..)
  have hia:i<a.length:=by omega
  have hib:i<b.length:=by omega
  have ih:=eqFields_ints d a b hab w fs (i+1) (fun g hg=>hf g (List.mem_cons_of_mem _ hg)) ho.2 (by omega)
  simp only [Op.eqFields,h1,ne_eq,not_false_eq_true,if_true,Sem.run_bind,ho.1,run_part_int h2 a i hia,run_part_int h2 b i hib,Result.andThen_ok,run_equalIn_int w d f.type .i64 .i64 _ _ h2]
  rw [getD_drop a i hia,getD_drop b i hib]
  generalize a.getD i 0=x
  generalize b.getD i 0=y
  by_cases e:x=y
  ·rw [e]
   simp [ih]
  ·simp [e]
theorem check_fields (em : Bool) (n : Nat) (a : List Int) (w : World) : ∀ (fs : List Field) (i : Nat), (∀ f ∈ fs, f.name ≠ "_" ∧ P.underlying f.type = some (.int .i64)) → fs.map (·.offset) = List.range' i fs.length → i + fs.length = a.length →
  (forIn fs PUnit.unit (fun (f : Field) (_ : PUnit) => (if f.name ≠ "_" then do
    Instr.checkKey em (n+1) f.type (← part f.type ((a.map (Value.int .i64)).toArray) f.offset)
    pure (ForInStep.yield PUnit.unit)
   else pure (ForInStep.yield PUnit.unit):Sem (ForInStep PUnit)))).run P w = .ok PUnit.unit w
 | [],i,_,_,_=>by simp
 | f::fs,i,hf,ho,hl=>by
  simp only [List.map_cons,List.length_cons,List.range'_succ,List.cons.injEq] at ho hl
  obtain⟨h1,h2⟩:=hf f (List.mem_cons_self ..)
  have ih:=check_fields em n a w fs (i+1) (fun g hg=>hf g (List.mem_cons_of_mem _ hg)) ho.2 (by omega)
  have hck:∀ v,(Instr.checkKey em (n+1) f.type v).run P w = .ok () w:=by
   intro v
   unfold Instr.checkKey
   simp only [Sem.run_bind,run_underlying h2,Result.andThen_ok]
   rfl
  simp only [List.forIn_cons,Sem.run_bind,h1,ne_eq,not_false_eq_true,if_true,ho.1,run_part_int h2 a i (by omega),Result.andThen_ok,hck,Sem.run_pure]
  exact ih
theorem KeyOK.struct {k len : Nat} {fs : Array Field} (hu : P.underlying k = some (.struct fs)) (hh : P.stoodInHeld k = false) (hf : ∀ f ∈ fs.toList, f.name ≠ "_" ∧ P.underlying f.type = some (.int .i64)) (ho : fs.toList.map (·.offset) = List.range' 0 fs.toList.length) (hl : fs.toList.length = len) : KeyOK P k len := by
 refine⟨fun w a b ha hb => ?_,fun w em a ha => ?_,_,hu,fun a b=>rfl⟩
 ·have e:P.fieldsOf k=fs:=by simp [Program.fieldsOf,hu]
  have h0:(10000:Nat)=9998+1+1:=rfl
  unfold Op.equal Op.maxDepth keyV
  rw [h0,run_equalIn_struct w (9998+1) k _ _ (by rw [e];exact hu) hh,e,eqFields_ints 9998 a b (by omega) w fs.toList 0 hf ho (by omega)]
  simp
 ·have h0:(10000:Nat)=9998+1+1:=rfl
  rw [h0]
  unfold Instr.checkKey keyV
  simp only [Sem.run_bind,run_underlying hu,Result.andThen_ok]
  rw [← Array.forIn_toList]
  have hk:=check_fields em 9998 a w fs.toList 0 hf ho (by omega)
  simp only [Nat.reduceAdd] at hk ⊢
  rw [hk]
  rfl
theorem eqItems_ints (d:Nat) {e:TypeId} (hu:P.underlying e=some (.int .i64)) (a b:List Int) (hab:a.length=b.length) (w:World):∀ (n i:Nat),i+n=a.length →
  (Op.eqItems (d+1) e 1 ((a.map (Value.int .i64)).toArray) ((b.map (Value.int .i64)).toArray) (List.range' i n)).run P w = .ok (decide (a.drop i=b.drop i)) w
 | 0,i,hl=>by
  have h1:a.drop i=[]:=List.drop_eq_nil_of_le (by omega)
  have h2:b.drop i=[]:=List.drop_eq_nil_of_le (by omega)
  simp [Op.eqItems,h1,h2]
 | n+1,i,hl=>by
  have hia:i<a.length:=by omega
  have hib:i<b.length:=by omega
  have ih:=eqItems_ints d hu a b hab w n (i+1) (by omega)
  simp only [List.range'_succ,Op.eqItems,Nat.mul_one,Sem.run_bind,run_part_int hu a i hia,run_part_int hu b i hib,Result.andThen_ok,run_equalIn_int w d e .i64 .i64 _ _ hu]
  rw [getD_drop a i hia,getD_drop b i hib]
  generalize a.getD i 0=x
  generalize b.getD i 0=y
  by_cases e:x=y
  ·rw [e]
   simp [ih]
  ·simp [e]
theorem KeyOK.array {k len e:Nat} {i:TypeInfo} (hu:P.underlying k=some (.array len e)) (he:P.underlying e=some (.int .i64)) (hi:P.info? e=some i) (h1:P.cellsOf e=1):KeyOK P k len:=by
 refine⟨fun w a b ha hb => ?_,fun w em a ha => ?_,_,hu,fun a b=>rfl⟩
 ·have h0:(10000:Nat)=9998+1+1:=rfl
  unfold Op.equal Op.maxDepth keyV
  rw [h0,run_equalIn_array w (9998+1) _ _ hu hi,h1,List.range_eq_range',eqItems_ints 9998 he a b (by omega) w len 0 (by omega)]
  simp
 ·have h0:(10000:Nat)=9998+1+1:=rfl
  rw [h0]
  unfold Instr.checkKey keyV
  simp only [Sem.run_bind,run_underlying hu,Result.andThen_ok]
  simp only [Std.Legacy.Range.forIn_eq_forIn_range',Std.Legacy.Range.size,Nat.sub_zero,Nat.add_one_sub_one,Nat.div_one]
  have hck:∀ v,(Instr.checkKey em (9998+1) e v).run P w = .ok () w:=by
   intro v
   unfold Instr.checkKey
   simp only [Sem.run_bind,run_underlying he,Result.andThen_ok]
   rfl
  have key:∀ (n j:Nat),j+n=a.length→(forIn (List.range' j n) PUnit.unit (fun (x:Nat) (_:PUnit)=>(do
    Instr.checkKey em (9998+1) e (← part e ((a.map (Value.int .i64)).toArray) (x * (← sizeOf e)))
    pure (ForInStep.yield PUnit.unit):Sem (ForInStep PUnit)))).run P w = .ok PUnit.unit w:=by
   intro n
   induction n with
   | zero=>intro j _;simp
   | succ n ih =>
    intro j hj
    simp only [List.range'_succ,List.forIn_cons,Sem.run_bind,run_sizeOf w hi,Result.andThen_ok,h1,Nat.mul_one,run_part_int he a j (by omega),hck,Sem.run_pure]
    simpa only [Sem.run_bind,run_sizeOf w hi,Result.andThen_ok,h1,Nat.mul_one] using ih (j+1) (by omega)
  have hk:=key len 0 (by omega)
  simp only [Nat.reduceAdd] at hk ⊢
  rw [hk]
  rfl
end
theorem AC.le {P:Program} {gl:Nat→Option (List PV)} {f:Nat} {args args':List V} {objs objs':List (Nat × Ob)} {out:Out} (h:AC P gl f args' objs out objs') (hl:args.length=args'.length) (hm:mentL args objs=mentL args' objs)
  (hr:∀ E vs,RepVL E args vs→RepVL E args' vs):AC P gl f args objs out objs' :=
 ⟨h.direct,by rw [hm];exact h.names,by rw [hm];exact h.namesO,fun E w vs hB hv hR=>h.calls E w vs hB (hv.trans hl) (hr E vs hR)⟩
theorem AC.le1 {P:Program} {gl:Nat→Option (List PV)} {f:Nat} {p q:PV} {objs objs':List (Nat × Ob)} {out:Out} (h:AC P gl f [.pv q] objs out objs') (hr:∀ H v,RepP H p v→RepP H q v):AC P gl f [.pv p] objs out objs':=by
 refine h.le rfl rfl (fun E vs hR => ?_)
 match vs,hR with
 | [],hR=>exact hR
 | v::vs,hR=>exact⟨hr E.H v hR.1,hR.2⟩
theorem AC.leO {P:Program} {gl:Nat→Option (List PV)} {f:Nat} {args:List V} {objs objs':List (Nat × Ob)} {p q:PV} (h:AC P gl f args objs (.ret (.pv p)) objs') (hr:∀ H v,RepP H p v→RepP H q v):AC P gl f args objs (.ret (.pv q)) objs':=by
 refine⟨h.direct,h.names,h.namesO,fun E w vs hB hv hR=>(h.calls E w vs hB hv hR).mono ?_⟩
 rintro e w' ⟨E',hd,v,he,hv⟩
 exact⟨E',hd,v,he,hr _ _ hv⟩
theorem repL_cons {H:Hp} {p q:PV} {ps qs:List PV} (h1:∀ v,RepP H p v→RepP H q v) (h2:∀ vs,RepL H ps vs→RepL H qs vs):∀ vs,RepL H (p::ps) vs→RepL H (q::qs) vs
 | [],h=>h
 | v::vs,h=>⟨h1 v h.1,h2 vs h.2⟩
theorem repP_agg {H:Hp} {ps qs:List PV} (hl:ps.length=qs.length) (h:∀ vs,RepL H ps vs→RepL H qs vs):∀ v,RepP H (.agg ps) v→RepP H (.agg qs) v:=by
 intro v hr
 simp only [RepP] at hr ⊢
 obtain⟨vs,e1,e2,e3⟩:=hr
 exact⟨vs,e1,by omega,h vs e3⟩
theorem rep_nils {H:Hp} {v:Value} (h:RepP H .nils v):RepP H (.slice []) v:=by
 simp only [RepP] at h ⊢
 exact⟨none,0,by simpa using h,by simp,by simp,by simp⟩
end Go.Lg
