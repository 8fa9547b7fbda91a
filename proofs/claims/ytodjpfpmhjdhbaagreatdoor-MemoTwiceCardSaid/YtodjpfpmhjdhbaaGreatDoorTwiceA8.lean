/- The logic of contracts; no conditions. -/
import Derived.Test.YtodjpfpmhjdhbaaGreatDoorTwiceA7
set_option linter.all false
namespace Go.Lg
def skipE:Eff:=⟨.pv (.tuple []),[],[],[]⟩
def Eff.wn (e:Eff):List Nat:=e.wr.map (·.1)
def foldS (S:Nat→Bool):Nat→List (Option Nat × Eff)→St→St
 | _,[],σ=>σ
 | k,(d,e)::r,σ=>foldS S (k+1) r (if S k then σ.eff d e else σ)
theorem getS_putS (dst:Option Nat) (x:V) (l:List (Nat × V)) (t:Nat):getS (putS dst x l) t=if dst=some t then x else getS l t:=by
 cases dst with
 | none=>simp [putS]
 | some d=>simp [putS,getS]
theorem foldS_slot {S S':Nat→Bool} (t:Nat):∀ (l:List (Option Nat × Eff)) (k:Nat) (σ σ':St),(∀ i d e,l[i]? = some (d,e)→d=some t→S (k+i)=S' (k+i))→getS σ.slots t=getS σ'.slots t →
  getS (foldS S k l σ).slots t=getS (foldS S' k l σ').slots t
 | [],_,_,_,_,h=>h
 | (d,e)::r,k,σ,σ',hw,h=>by
  simp only [foldS]
  refine foldS_slot t r (k+1) _ _ (fun i d' e' hi hd=>by have:=hw (i+1) d' e' (by simpa using hi) hd;rwa [show k+(i+1)=k+1+i by omega] at this) ?_
  have h0:=hw 0 d e rfl
  simp only [Nat.add_zero] at h0
  by_cases hd:d=some t
  ·have hs:=h0 hd
   rw [hs]
   split
   ·simp [St.eff,getS_putS,hd]
   ·exact h
  ·have e1:∀ s:St,getS (if S k then s.eff d e else s).slots t=getS s.slots t:=by
    intro s;split<;>simp [St.eff,getS_putS,hd]
   have e2:∀ s:St,getS (if S' k then s.eff d e else s).slots t=getS s.slots t:=by
    intro s;split<;>simp [St.eff,getS_putS,hd]
   rw [e1,e2,h]
theorem lookW_notin {wr:List (Nat × Option Ob)} {n:Nat} (h:n ∉ wr.map (·.1)):lookW wr n=none:=by
 induction wr with
 | nil=>rfl
 | cons p r ih =>
  obtain⟨k,o⟩:=p
  simp only [List.map_cons,List.mem_cons,not_or] at h
  have:¬ k=n:=fun e=>h.1 e.symm
  simp [lookW,ih h.2,this]
theorem foldS_obj {S S':Nat→Bool} (n:Nat):∀ (l:List (Option Nat × Eff)) (k:Nat) (σ σ':St),(∀ i d e,l[i]? = some (d,e)→n∈e.wn→S (k+i)=S' (k+i))→getO σ.objs n=getO σ'.objs n →
  getO (foldS S k l σ).objs n=getO (foldS S' k l σ').objs n
 | [],_,_,_,_,h=>h
 | (d,e)::r,k,σ,σ',hw,h=>by
  simp only [foldS]
  refine foldS_obj n r (k+1) _ _ (fun i d' e' hi hd=>by have:=hw (i+1) d' e' (by simpa using hi) hd;rwa [show k+(i+1)=k+1+i by omega] at this) ?_
  have h0:=hw 0 d e rfl
  simp only [Nat.add_zero] at h0
  by_cases hd:n∈e.wn
  ·have hs:=h0 hd
   rw [hs]
   split
   ·simp only [St.eff,getO_updAll,h]
   ·exact h
  ·have hno:=lookW_notin (wr:=e.wr) hd
   have e1:∀ s:St,getO (if S k then s.eff d e else s).objs n=getO s.objs n:=by
    intro s;split<;>simp [St.eff,getO_updAll,hno]
   have e2:∀ s:St,getO (if S' k then s.eff d e else s).objs n=getO s.objs n:=by
    intro s;split<;>simp [St.eff,getO_updAll,hno]
   rw [e1,e2,h]
theorem foldS_used {S:Nat→Bool} (n:Nat):∀ (l:List (Option Nat × Eff)) (k:Nat) (σ:St),n∈(foldS S k l σ).used↔n∈σ.used ∨ ∃ i d e,l[i]? = some (d,e)∧S (k+i)=true∧n∈e.nw
 | [],_,σ=>by simp [foldS]
 | (d,e)::r,k,σ=>by
  simp only [foldS]
  rw [foldS_used n r (k+1)]
  constructor
  ·rintro (h|⟨i,d',e',hi,hs,hn⟩)
   ·by_cases hs:S k=true
    ·simp only [hs,if_true,St.eff,List.mem_append] at h
     rcases h with h|h
     ·exact .inr ⟨0,d,e,rfl,by simpa using hs,h⟩
     ·exact .inl h
    ·simp only [hs] at h
     exact .inl h
   ·exact .inr ⟨i+1,d',e',by simpa using hi,by rwa [show k+(i+1)=k+1+i by omega],hn⟩
  ·rintro (h|⟨i,d',e',hi,hs,hn⟩)
   ·left
    split
    ·simp [St.eff,h]
    ·exact h
   ·cases i with
    | zero =>
     simp only [List.getElem?_cons_zero,Option.some.injEq,Prod.mk.injEq] at hi
     obtain⟨rfl,rfl⟩:=hi
     left
     simp only [Nat.add_zero] at hs
     simp [hs,St.eff,hn]
    | succ i=>exact .inr ⟨i,d',e',by simpa using hi,by rwa [show k+1+i=k+(i+1) by omega],hn⟩
theorem foldS_slot_add {S:Nat→Bool} (t:Nat):∀ (l:List (Option Nat × Eff)) (k i:Nat) (d:Option Nat) (e:Eff) (σ:St),l[i]? = some (d,e)→S (k+i)=false →
  (d=some t→∀ j d' e',i<j→l[j]? = some (d',e')→S (k+j)=true→d'≠some t) →
  getS (foldS (fun m=>m == k+i || S m) k l σ).slots t=if d=some t then e.x else getS (foldS S k l σ).slots t
 | [],_,_,_,_,_,hi,_,_=>by simp at hi
 | (d0,e0)::r,k,0,d,e,σ,hi,hs,hl=>by
  simp only [List.getElem?_cons_zero,Option.some.injEq,Prod.mk.injEq] at hi
  obtain⟨rfl,rfl⟩:=hi
  simp only [Nat.add_zero] at hs
  simp only [foldS,Nat.add_zero,beq_self_eq_true,Bool.true_or,if_true,hs]
  by_cases hd:d0=some t
  ·simp only [hd,if_true]
   rw [foldS_slot (S':=fun _=>false) t r (k+1) _ (σ.eff d0 e0) ?_ (by rw [hd])]
   ·have hf:∀ (r:List (Option Nat × Eff)) (k:Nat) (s:St),foldS (fun _=>false) k r s=s:=by
     intro r;induction r with
     | nil=>intro k s;rfl
     | cons p r ih=>intro k s;simp [foldS,ih]
    rw [hf]
    simp [St.eff,getS_putS,hd]
   ·intro i d' e' hi hd'
    have:=hl hd (i+1) d' e' (by omega) (by simpa using hi)
    by_cases hsi:S (k+1+i)=true
    ·exact absurd hd' (this (by rwa [show k+(i+1)=k+1+i by omega]))
    ·simp only [Bool.not_eq_true] at hsi
     simp [hsi];omega
  ·simp only [hd,if_false]
   refine foldS_slot t r (k+1) _ _ ?_ (by simp [St.eff,getS_putS,hd])
   intro i d' e' hi hd'
   have:(k+1+i == k)=false:=by simp;omega
   simp [this]
 | (d0,e0)::r,k,i+1,d,e,σ,hi,hs,hl=>by
  simp only [foldS]
  have hk:(k == k+(i+1))=false:=by simp
  simp only [hk,Bool.false_or]
  have:=foldS_slot_add (S:=S) t r (k+1) i d e (if S k then σ.eff d0 e0 else σ) (by simpa using hi) (by rwa [show k+1+i=k+(i+1) by omega]) (fun hd j d' e' hj hl' hs'=>hl hd (j+1) d' e' (by omega) (by simpa using hl') (by rwa [show k+(j+1)=k+1+j by omega]))
  rw [show k+(i+1)=k+1+i by omega]
  exact this
theorem foldS_obj_add {S:Nat→Bool} (n:Nat):∀ (l:List (Option Nat × Eff)) (k i:Nat) (d:Option Nat) (e:Eff) (σ:St),l[i]? = some (d,e)→S (k+i)=false →
  (n∈e.wn→∀ j d' e',i<j→l[j]? = some (d',e')→S (k+j)=true→n ∉ e'.wn) →
  getO (foldS (fun m=>m == k+i || S m) k l σ).objs n=match lookW e.wr n with|some o=>o|none=>getO (foldS S k l σ).objs n
 | [],_,_,_,_,_,hi,_,_=>by simp at hi
 | (d0,e0)::r,k,0,d,e,σ,hi,hs,hl=>by
  simp only [List.getElem?_cons_zero,Option.some.injEq,Prod.mk.injEq] at hi
  obtain⟨rfl,rfl⟩:=hi
  simp only [Nat.add_zero] at hs
  simp only [foldS,Nat.add_zero,beq_self_eq_true,Bool.true_or,if_true,hs]
  by_cases hd:n∈e0.wn
  ·rw [foldS_obj (S':=fun _=>false) n r (k+1) _ (σ.eff d0 e0) ?_ rfl]
   ·have hf:∀ (r:List (Option Nat × Eff)) (k:Nat) (s:St),foldS (fun _=>false) k r s=s:=by
     intro r;induction r with
     | nil=>intro k s;rfl
     | cons p r ih=>intro k s;simp [foldS,ih]
    rw [hf]
    simp only [St.eff,getO_updAll]
    have:∃ o,lookW e0.wr n=some o:=by
     have key:∀ wr:List (Nat × Option Ob),n∈wr.map (·.1)→∃ o,lookW wr n=some o:=by
      intro wr
      induction wr with
      | nil=>intro h;simp at h
      | cons p r ih =>
       obtain⟨k,o⟩:=p
       intro h
       simp only [lookW]
       cases hr:lookW r n with
       | some x=>exact⟨x,rfl⟩
       | none =>
        simp only [List.map_cons,List.mem_cons] at h
        rcases h with h|h
        ·exact⟨o,by simp [h]⟩
        ·obtain⟨x,hx⟩:=ih h;rw [hx] at hr;cases hr
     exact key _ hd
    obtain⟨o,ho⟩:=this
    simp [ho]
   ·intro i d' e' hi hd'
    have:=hl hd (i+1) d' e' (by omega) (by simpa using hi)
    by_cases hsi:S (k+1+i)=true
    ·exact absurd hd' (this (by rwa [show k+(i+1)=k+1+i by omega]))
    ·simp only [Bool.not_eq_true] at hsi
     simp [hsi];omega
  ·have hno:=lookW_notin (wr:=e0.wr) hd
   simp only [hno]
   refine foldS_obj n r (k+1) _ _ ?_ (by simp [St.eff,getO_updAll,hno])
   intro i d' e' hi hd'
   have:(k+1+i == k)=false:=by simp;omega
   simp [this]
 | (d0,e0)::r,k,i+1,d,e,σ,hi,hs,hl=>by
  simp only [foldS]
  have hk:(k == k+(i+1))=false:=by simp
  simp only [hk,Bool.false_or]
  have:=foldS_obj_add (S:=S) n r (k+1) i d e (if S k then σ.eff d0 e0 else σ) (by simpa using hi) (by rwa [show k+1+i=k+(i+1) by omega]) (fun hd j d' e' hj hl' hs'=>hl hd (j+1) d' e' (by omega) (by simpa using hl') (by rwa [show k+(j+1)=k+1+j by omega]))
  rw [show k+(i+1)=k+1+i by omega]
  exact this
theorem Ga.of_ext {C:Ctx} {E:Env} {σ σ':St} {a:Act} {w:World} (h:Ga C E σ a w) (h1:∀ t,getS σ'.slots t=getS σ.slots t) (h2:∀ n,getO σ'.objs n=getO σ.objs n) (h3:∀ n,n∈σ.used→n∈σ'.used):Ga C E σ' a w :=
 ⟨fun t=>by rw [h1];exact h.slots t,h.size,⟨h.defers.1,fun n hn=>h3 n (h.defers.2 n hn)⟩,h.heap,fun n o hn=>h.objs n o (by rwa [h2] at hn),fun n m o o' hn hm=>h.apart n m o o' (by rwa [h2] at hn) (by rwa [h2] at hm),
  fun t n hn=>h3 n (h.usedS t n (by rwa [h1] at hn)),fun n o hn=>⟨h3 n (h.usedO n o (by rwa [h2] at hn)).1,fun m hm=>h3 m ((h.usedO n o (by rwa [h2] at hn)).2 m hm)⟩,fun n o hn=>h3 n (h.usedG n o hn),
  h.grown,h.rest,h.same,h.hle,fun n o b hn=>h.own n o b (by rwa [h2] at hn),h.ext,
  fun n hn=>⟨h3 n (h.keep n hn).1,by rw [h2];exact (h.keep n hn).2.1,(h.keep n hn).2.2⟩⟩
def gv (ops:List Oper) (σ:St) (j:Nat):V:=match ops[j]? with
 | some o=>match o.dst with
  | some d=>getS σ.slots d
  | none => .undef
 | none => .undef
def dstOK (X:Env1) (dst:Option Nat):Prop:=match dst with
 | some d=>d<X.nt
 | none=>True
def bindR (o:Option R) (K:R→Prop):Prop:=match o with
 | some r=>K r
 | none=>False
theorem bindR_some (r:R) (K:R→Prop):bindR (some r) K=K r:=rfl
@[congr] theorem bindR_congr {o o':Option R} {K:R→Prop} (h:o=o'):bindR o K=bindR o' K:=by rw [h]
def callStep (X:Env1) (draw:Bool) (Qp:PV→St→Prop) (f:Nat) (args:List V) (σ:St) (next:Eff→Prop):Prop :=
 ∃ objs out objs',AC X.P X.gl f args objs out objs'∧subO objs σ.objs∧freshL ((keysO objs').filter (fun n=>(getO objs n).isNone)) σ.used ∧
   match out with
   | .ret x=>next (callEff x objs objs') ∨ ∃ ro o1 o1',objs=ro++o1∧objs'=ro++o1'∧(∀ n∈keysO ro,n ∉ keysO o1∧n ∉ keysO o1')∧next (callEffR x ro o1 o1')
   | .panic p=>draw=false∧Qp p (σ.eff none (callEff .undef objs objs'))
@[congr] theorem callStep_congr {X:Env1} {draw:Bool} {Qp:PV→St→Prop} {f f':Nat} {args args':List V} {σ σ':St} {next:Eff→Prop} (h1:f=f') (h2:args=args') (h3:σ=σ') :
  callStep X draw Qp f args σ next=callStep X draw Qp f' args' σ' next:=by rw [h1,h2,h3]
theorem callStep_ret {X:Env1} {draw:Bool} {Qp:PV→St→Prop} {f:Nat} {args:List V} {σ:St} {next:Eff→Prop} {objs:List (Nat × Ob)} {x:V} {objs':List (Nat × Ob)} (h:AC X.P X.gl f args objs (.ret x) objs')
  (h1:subO objs σ.objs) (h2:freshL ((keysO objs').filter (fun n=>(getO objs n).isNone)) σ.used) (h3:next (callEff x objs objs')):callStep X draw Qp f args σ next:=⟨objs,.ret x,objs',h,h1,h2,.inl h3⟩
theorem callStep_retR {X:Env1} {draw:Bool} {Qp:PV→St→Prop} {f:Nat} {args:List V} {σ:St} {next:Eff→Prop} {ro objs:List (Nat × Ob)} {x:V} {objs':List (Nat × Ob)} (h:AC X.P X.gl f args (ro++objs) (.ret x) (ro++objs'))
  (hro:∀ n∈keysO ro,n ∉ keysO objs∧n ∉ keysO objs') (h1:subO (ro++objs) σ.objs) (h2:freshL ((keysO objs').filter (fun n=>(getO objs n).isNone)) σ.used) (h3:next (callEffR x ro objs objs')):callStep X draw Qp f args σ next:=by
 refine⟨ro++objs,.ret x,ro++objs',h,h1,?_,.inr ⟨ro,objs,objs',rfl,rfl,hro,h3⟩⟩
 have:=callEffR_nw (x:=x) hro
 simp only [callEffR,callEff] at this
 rw [← this]
 exact h2
theorem callStep_panic {X:Env1} {Qp:PV→St→Prop} {f:Nat} {args:List V} {σ:St} {next:Eff→Prop} {objs:List (Nat × Ob)} {p:PV} {objs':List (Nat × Ob)} (h:AC X.P X.gl f args objs (.panic p) objs')
  (h1:subO objs σ.objs) (h2:freshL ((keysO objs').filter (fun n=>(getO objs n).isNone)) σ.used) (h3:Qp p (σ.eff none (callEff .undef objs objs'))):callStep X false Qp f args σ next:=⟨objs,.panic p,objs',h,h1,h2,rfl,h3⟩
def caseC (c:Option (Nat × List V)) (yes:Nat→List V→Prop) (no:Prop):Prop:=match c with
 | some (f,args)=>yes f args
 | none=>no
theorem caseC_some (f:Nat) (args:List V) (yes:Nat→List V→Prop) (no:Prop):caseC (some (f,args)) yes no=yes f args:=rfl
theorem caseC_none (yes:Nat→List V→Prop) (no:Prop):caseC none yes no=no:=rfl
@[congr] theorem caseC_congr {c c':Option (Nat × List V)} {yes:Nat→List V→Prop} {no:Prop} (h:c=c'):caseC c yes no=caseC c' yes no:=by rw [h]
def panicC (x:V) (Q:PV→Prop):Prop:=match x with
 | .pv (.iface t p)=>Q (.iface t p)
 | _=>False
theorem panicC_iface (t:Nat) (p:PV) (Q:PV→Prop):panicC (.pv (.iface t p)) Q=Q (.iface t p):=rfl
def lookC (X:Env1) (draw:Bool) (o:Oper) (σ:St) (t:Nat) (m k:V) (ok:Bool) (next:Eff→Prop):Prop:=match X.T t with
 | some ⟨.map _ vt,_,_,_,_⟩=>match X.T vt,m,k with
  | some tv,.map n,.pv (.ptr ks)=>match getO σ.objs n,zeroPV tv with
   | some (.cache D F),some z=>draw=false∧ok=true∧ks.any PV.nonint=true ∧
    ((D (.ptr ks) ∧ ∀ b:Bool,next ⟨.pv (.tuple [bif b then F (.ptr ks) else z,.bool b]),[],[],[]⟩) ∨
     ((∀ (H:Hp) (p:PV) (v:Value),D p→RepP H p v→RepP H (.ptr ks) v→False)∧next ⟨.pv (.tuple [z,.bool false]),[],[],[]⟩))
   | _,_=>False
  | _,_,_=>False
 | _=>bindR (stepOp X.T (X.note o.dst) (σ.val X.gl) (getO σ.objs) o.dst o.op) fun r =>
    r.cond∧freshL (r.eff []).nw σ.used∧((draw=false→r.fact)→next (r.eff (rdN (σ.val X.gl) o.op)))
def opStep (X:Env1) (draw:Bool) (Qp:PV→St→Prop) (o:Oper) (σ:St) (next:Eff→Prop):Prop :=
 caseC (calleeOf (σ.val X.gl) o.op) (fun f args=>callStep X draw Qp f args σ next)
  (match o.op with
  | .panic x=>panicC (σ.val X.gl x) (fun p=>draw=false∧Qp p σ)
  | .lookup t m k ok=>lookC X draw o σ t (σ.val X.gl m) (σ.val X.gl k) ok next
  | op=>bindR (stepOp X.T (X.note o.dst) (σ.val X.gl) (getO σ.objs) o.dst op) fun r =>
    r.cond∧freshL (r.eff []).nw σ.used∧((draw=false→r.fact)→next (r.eff (rdN (σ.val X.gl) op))))
def caseG (v:V) (want:Bool) (yes no:Prop):Prop:=match v with
 | .pv (.bool b)=>if b=want then yes else no
 | .pv (.tuple [])=>no
 | _=>False
theorem caseG_sk (want:Bool) (yes no:Prop):caseG (.pv (.tuple [])) want yes no=no:=rfl
theorem caseG_bool (b want:Bool) (yes no:Prop):caseG (.pv (.bool b)) want yes no=if b=want then yes else no:=rfl
theorem caseG_yes (b:Bool) (yes no:Prop):caseG (.pv (.bool b)) b yes no=yes:=by simp [caseG]
theorem caseG_tf (yes no:Prop):caseG (.pv (.bool true)) false yes no=no:=rfl
theorem caseG_ft (yes no:Prop):caseG (.pv (.bool false)) true yes no=no:=rfl
@[congr] theorem caseG_congr {v v':V} {want:Bool} {yes no:Prop} (h:v=v'):caseG v want yes no=caseG v' want yes no:=by rw [h]
def guardC (ops:List Oper) (σ:St) (g:Option (Nat × Bool)) (yes no:Prop):Prop:=match g with
 | none=>yes
 | some (j,want)=>caseG (gv ops σ j) want yes no
theorem guardC_none (ops:List Oper) (σ:St) (yes no:Prop):guardC ops σ none yes no=yes:=rfl
theorem guardC_some (ops:List Oper) (σ:St) (j:Nat) (want:Bool) (yes no:Prop):guardC ops σ (some (j,want)) yes no=caseG (gv ops σ j) want yes no:=rfl
@[congr] theorem guardC_congr {ops:List Oper} {σ σ':St} {g g':Option (Nat × Bool)} {yes no:Prop} (h:σ=σ') (h':g=g'):guardC ops σ g yes no=guardC ops σ' g' yes no:=by rw [h,h']
def runOps (X:Env1) (draw:Bool) (ops:List Oper) (K:St→List Eff→Prop) (Qp:PV→St→Prop):List Oper→St→List Eff→Prop
 | [],σ,tr=>K σ tr
 | o::rest,σ,tr =>
  dstOK X o.dst ∧
  guardC ops σ o.guard (opStep X draw Qp o σ fun e=>runOps X draw ops K Qp rest (σ.eff o.dst e) (bif draw then tr++[e] else tr))
   (runOps X draw ops K Qp rest (σ.eff o.dst skipE) (bif draw then tr++[skipE] else tr))
@[congr] theorem runOps_congr {X:Env1} {draw:Bool} {ops:List Oper} {K:St→List Eff→Prop} {Qp:PV→St→Prop} {l:List Oper} {σ σ':St} {tr tr':List Eff} (h:σ=σ') (h':tr=tr') :
  runOps X draw ops K Qp l σ tr=runOps X draw ops K Qp l σ' tr':=by rw [h,h']
theorem skip_ga {C:Ctx} {E:Env} {σ:St} {a:Act} {w:World} (h:Ga C E σ a w) {dst:Option Nat} (hd:∀ d,dst=some d→d<C.nt):Ga C E (σ.eff dst skipE) (a.put dst undef) w:=by
 have:=h.pure E.H dst (.pv (.tuple [])) undef (Hle.refl _) (Nat.le_refl _) ⟨rfl,rfl,rfl⟩ (fun _ _=>⟨rfl,rfl⟩) h.heap (by simp only [RepV,RepP];exact⟨[],rfl,rfl,by simp only [RepL]⟩) (by simp [V.names]) hd
 exact this
theorem yield_none {C:Ctx} {E:Env} {σ:St} {a:Act} {w:World} {ops:List Oper} (h:Ga C E σ a w) {j:Nat} (hg:gv ops σ j = .pv (.tuple [])):yielded ops.toArray a.tmps j=none:=by
 unfold gv at hg
 split at hg
 ·rename_i o ho
  split at hg
  ·rename_i d hd
   have hr:=h.slots d
   rw [hg] at hr
   simp only [RepV,RepP] at hr
   obtain⟨vs,hv,hl,_⟩:=hr
   have hvs:vs=[]:=List.eq_nil_of_length_eq_zero (by simpa using hl)
   subst hvs
   rw [Array.getD_eq_getD_getElem?] at hv
   cases e:a.tmps[d]? with
   | none=>simp [yielded,ho,hd,e]
   | some v =>
    rw [e] at hv
    simp at hv
    subst hv
    simp [yielded,ho,hd,e]
  ·cases hg
 ·cases hg
theorem yield_of {C:Ctx} {E:Env} {σ:St} {a:Act} {w:World} {ops:List Oper} (h:Ga C E σ a w) {j:Nat} {b:Bool} (hg:gv ops σ j = .pv (.bool b)):yielded ops.toArray a.tmps j=some b:=by
 unfold gv at hg
 split at hg
 ·rename_i o ho
  split at hg
  ·rename_i d hd
   have hr:=h.slots d
   rw [hg] at hr
   have hr:=rep_bool hr
   have hs:a.tmps[d]? = some (.bool b):=by
    rw [Array.getD_eq_getD_getElem?] at hr
    cases e:a.tmps[d]? with
    | none=>rw [e] at hr;simp [undef] at hr
    | some v=>rw [e] at hr;simp at hr;rw [hr]
   simp [yielded,ho,hd,hs]
  ·cases hg
 ·cases hg
theorem run_panic {P:Program} {w:World} {t:Nat} {v:Value} : (Instr.panic (.iface t v)).run P w = .halt (.panic (.iface t v)) w:=by
 simp [Instr.panic]
section
variable {X:Env1} {C:Ctx}
theorem opStep_sound (hT:TOK X.P X.T) (hg:GOK X.gl C.E0.H) {Qp:PV→St→Prop} {Q:Exit→Act→World→Prop} {K:Act→World→Prop} {o:Oper} {σ:St} {next:Eff→Prop} {E:Env} {a:Act} {w:World} (hG:Ga C E σ a w) (hd:∀ d,o.dst=some d→d<C.nt)
  (hK:∀ e E' a' w',next e→Ga C E' (σ.eff o.dst e) a' w'→K a' w')
  (hQ:∀ E σ p v a w,Ga C E σ a w→Qp p σ→RepP E.H p v→Q (.panic [{ v,recovered:=false }]) a w) (h:opStep X false Qp o σ next):o.wp X.P a w K Q:=by
 unfold opStep caseC at h
 split at h
 ·rename_i f args hf
  obtain⟨objs,out,objs',hac,hsub0,hfr,hout⟩:=h
  have hsub:=subO_spec hsub0
  have hfr:=freshL_spec hfr
  cases out with
  | ret x =>
   simp only at hout
   rcases hout with hout|⟨ro,o1,o1',rfl,rfl,hro,hout⟩
   ·exact (OpW.call (X:=X) f args objs x objs' hf hac hsub0 hfr).sound hT hg hG hd (fun E' a' w' hG'=>hK _ E' a' w' hout hG')
   ·exact (OpW.callR (X:=X) f args ro o1 x o1' hf hac hro hsub0 (by rw [callEffR_nw hro];exact hfr)).sound hT hg hG hd (fun E' a' w' hG'=>hK _ E' a' w' hout hG')
  | panic p =>
   simp only at hout
   obtain⟨vs,hl,hrv,hrun,hnm⟩:=call_enter hG hg hf hac.direct
   unfold Oper.wp
   rw [hrun]
   simp only [Oper.upon]
   have hbase:Base X.gl E w objs:=⟨hG.heap,hg.mono hG.hle,fun n o hn=>hG.objs n o (hsub n o hn),fun n m o o' hn hm=>hG.apart n m o o' (hsub n o hn) (hsub m o' hm)⟩
   refine (hac.calls E w vs hbase hl hrv).mono ?_
   rintro e' w' ⟨E',hD,v,rfl,hv⟩
   have hG':=hG.called (dst:=none) (x:=.undef) (v:=undef) hD hsub (by
    intro n hn'
    by_cases hk:n∈keysO objs
    ·exact .inl hk
    ·right
     refine hfr n ?_
     simp only [List.mem_filter]
     refine⟨hn',?_⟩
     cases e:getO objs n with
     | none=>rfl
     | some o=>exact absurd (getO_some_mem e) hk) (ment_used hG hnm hsub0) hac.namesO (by simp [RepV]) (by simp [V.names]) (by simp)
   exact hQ E' _ p v a w' hG' hout.2 hv
 ·split at h
  ·rename_i x hx
   unfold panicC at h
   split at h
   ·rename_i t p hv
    have hr:=val_rep hG hg x
    rw [hv] at hr
    have hr':=hr
    simp only [RepV,RepP] at hr
    obtain⟨u,hu,hru⟩:=hr
    unfold Oper.wp
    have:(execOp a.eval o).run X.P w = .halt (.panic (.iface t u)) w:=by
     simp [execOp,hx,hu,run_panic]
    rw [this]
    simp only [Oper.upon]
    refine hQ E σ _ _ a w hG h.2 ?_
    rw [← hu]
    simpa only [RepV] using hr'
   ·cases h
  ·rename_i t m k ok hx'
   have hm:=val_rep hG hg m
   have hk:=val_rep hG hg k
   unfold lookC at h
   split at h
   ·rename_i kt vt s1 s2 s3 s4 et
    obtain⟨d,hde,hkk⟩:=(hT t _ et).desc
    simp only [TKOK] at hkk
    obtain⟨rfl,e,hu,hei⟩:=hkk
    obtain⟨i,hi,hsz⟩:=map_elem hei
    split at h
    ·rename_i tv n ks ev em ek
     rw [em] at hm;rw [ek] at hk
     split at h
     ·rename_i D F z eo ez
      obtain⟨_,rfl,hni,hnext⟩:=h
      have htv:=hT vt _ ev
      simp only [RepV] at hk
      obtain⟨hcoh,u,b,hrun,h1,h2⟩:=run_lookup hde hu hi hsz htv hG eo hm hk hni
      have hz:RepP E.H z tv.zero:=by
       unfold zeroPV at ez
       split at ez
       ·rename_i zz e0
        cases ez
        simp only [RepP]
        have hz:=htv.zcells
        have h3:=htv.zlen
        have h4:=htv.zc
        rw [e0] at hz h3 ⊢
        simp only [Value.cells] at hz h3
        refine⟨zz.toList,by simp,?_,RepL.mono (Hle.zero _) _ _ _ List.prefix_rfl hz⟩
        simp;omega
       ·unfold oneZ at ez
        split at ez<;>cases ez
        all_goals
         rename_i e0
         rw [e0]
         simp [RepP]
      have fin:∀ (x:PV) (c:Bool),next ⟨.pv (.tuple [x,.bool c]),[],[],[]⟩→RepP E.H x u→c=b→o.wp X.P a w K Q:=by
       intro x c hn hx hc
       subst hc
       have hres:OpRes X.P o a w (.tuple #[u,.bool c]) w:=.inl (by simp [execOp,hx',hrun])
       refine hres.wp (hK _ E _ _ hn ?_)
       exact hG.pure E.H o.dst _ _ (Hle.refl _) (Nat.le_refl _) ⟨rfl,rfl,rfl⟩ (fun _ _=>⟨rfl,rfl⟩) hG.heap (by
        simp only [RepV]
        rw [RepP]
        exact⟨[u,.bool c],rfl,rfl,by rw [RepL,RepL,RepL];exact⟨hx,by simp [RepP],trivial⟩⟩) (by simp [V.names]) hd
      rcases hnext with ⟨hD,hnext⟩|⟨hN,hnext⟩
      ·refine fin _ b (hnext b) ?_ rfl
       cases b with
       | true =>
        obtain⟨p,hp,hpk,hpv⟩:=h1 rfl
        have:F p=F (.ptr ks):=hcoh E.H p (.ptr ks) _ hp hD hpk hk
        rw [← this]
        exact hpv
       | false =>
        rw [h2 rfl]
        exact hz
      ·cases b with
       | true =>
        obtain⟨p,hp,hpk,hpv⟩:=h1 rfl
        exact (hN E.H p _ hp hpk hk).elim
       | false =>
        refine fin _ false hnext ?_ rfl
        rw [h2 rfl]
        exact hz
     ·cases h
    ·cases h
   ·unfold bindR at h
    split at h
    ·rename_i r hs
     obtain⟨hc,hfr,hrest⟩:=h
     obtain⟨v,w',E',hres,hG',hfact⟩:=stepOp_sound hT hg hG hd hs hc (by
      intro n x hw hnew
      refine freshL_spec hfr n ?_
      simp [R.eff,hw,hnew])
     rw [app_eff σ o.dst r (rdN (σ.val X.gl) o.op)] at hG'
     exact hres.wp (hK _ E' _ _ (hrest (fun _=>hfact)) hG')
    ·cases h
  ·unfold bindR at h
   split at h
   ·rename_i r hs
    obtain⟨hc,hfr,hrest⟩:=h
    obtain⟨v,w',E',hres,hG',hfact⟩:=stepOp_sound hT hg hG hd hs hc (by
     intro n x hw hnew
     refine freshL_spec hfr n ?_
     simp [R.eff,hw,hnew])
    rw [app_eff σ o.dst r (rdN (σ.val X.gl) o.op)] at hG'
    exact hres.wp (hK _ E' _ _ (hrest (fun _=>hfact)) hG')
   ·cases h
theorem opStep_draw {Qp:PV→St→Prop} {o:Oper} {σ:St} {next:Eff→Prop} (h:opStep X true Qp o σ next):∃ e,OpW X o σ e∧next e:=by
 unfold opStep caseC at h
 split at h
 ·rename_i f args hf
  obtain⟨objs,out,objs',hac,hsub,hfr,hout⟩:=h
  cases out with
  | ret x =>
   rcases hout with hout|⟨ro,o1,o1',rfl,rfl,hro,hout⟩
   ·exact⟨_,OpW.call (X:=X) f args objs x objs' hf hac hsub (freshL_spec hfr),hout⟩
   ·exact⟨_,OpW.callR (X:=X) f args ro o1 x o1' hf hac hro hsub (by rw [callEffR_nw hro];exact freshL_spec hfr),hout⟩
  | panic p=>simp at hout
 ·split at h
  ·unfold panicC at h
   split at h
   ·simp at h
   ·cases h
  ·unfold lookC at h
   split at h
   ·split at h
    ·split at h
     ·exact absurd h.1 (by simp)
     ·cases h
    ·cases h
   ·unfold bindR at h
    split at h
    ·rename_i r hs
     obtain⟨hc,hfr,hrest⟩:=h
     exact⟨_,OpW.step r hs hc (freshL_spec hfr),hrest (fun e=>by cases e)⟩
    ·cases h
  ·unfold bindR at h
   split at h
   ·rename_i r hs
    obtain⟨hc,hfr,hrest⟩:=h
    exact⟨_,OpW.step r hs hc (freshL_spec hfr),hrest (fun e=>by cases e)⟩
   ·cases h
theorem runOps_seq (hT:TOK X.P X.T) (hg:GOK X.gl C.E0.H) (hnt:C.nt=X.nt) {ops:List Oper} {K:St→List Eff→Prop} {Qp:PV→St→Prop} {Q:Exit→Act→World→Prop}
  (hK:∀ E σ tr a w,Ga C E σ a w→K σ tr→Q .normal a w)
  (hQ:∀ E σ p v a w,Ga C E σ a w→Qp p σ→RepP E.H p v→Q (.panic [{ v,recovered:=false }]) a w) :
  ∀ (l:List Oper) (σ:St) (tr:List Eff) (E:Env) (a:Act) (w:World),runOps X false ops K Qp l σ tr→Ga C E σ a w→wpList X.P ops.toArray Q l a w
 | [],σ,tr,E,a,w,hr,hG=>hK E σ tr a w hG hr
 | o::rest,σ,tr,E,a,w,hr,hG=>by
  simp only [runOps] at hr
  obtain⟨hd,hr⟩:=hr
  have hd':∀ d,o.dst=some d→d<C.nt:=by
   intro d e;rw [e] at hd;rw [hnt];exact hd
  unfold wpList
  unfold guardC at hr
  split at hr
  ·rename_i hgn
   rw [if_pos (by simp [Region.wanted,hgn])]
   exact .inl (opStep_sound hT hg hG hd' (fun e E' a' w' hn hG'=>runOps_seq hT hg hnt hK hQ rest _ _ E' a' w' hn hG') hQ hr)
  ·rename_i j want hgs
   unfold caseG at hr
   split at hr
   ·rename_i b hb
    have hy:=yield_of hG hb
    split at hr
    ·rename_i hbw
     rw [if_pos (by simp [Region.wanted,hgs,hy,hbw])]
     exact .inl (opStep_sound hT hg hG hd' (fun e E' a' w' hn hG'=>runOps_seq hT hg hnt hK hQ rest _ _ E' a' w' hn hG') hQ hr)
    ·rename_i hbw
     rw [if_neg (by simp [Region.wanted,hgs,hy,hbw])]
     exact runOps_seq hT hg hnt hK hQ rest _ _ E _ w hr (skip_ga hG hd')
   ·rename_i hb
    have hy:=yield_none hG hb
    rw [if_neg (by simp [Region.wanted,hgs,hy])]
    exact runOps_seq hT hg hnt hK hQ rest _ _ E _ w hr (skip_ga hG hd')
   ·cases hr
end
end Go.Lg
