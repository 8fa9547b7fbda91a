/- The logic of contracts; no conditions. -/
import Derived.Test.YtodjpfpmhjdhbaaGreatDoorTwiceA10
import Derived.LoopN
set_option linter.all false
namespace Go.Lg
structure C1 where
 c:Prop
 f:Prop
def buildC:List C1→Prop→Prop
 | [],p=>p
 | x::cs,p=>buildC cs (x.c∧(x.f→p))
structure Q1 where
 cs:List C1
 σ:St
 rest:List Oper
 tr:List Eff
def isCall:Op→Bool
 | .call { callee:=.value _,.. } => true
 | .panic _=>true
 | .lookup _ _ _ _=>true
 | _=>false
abbrev Next1:=St→List Eff→List C1→Option Q1
def evalR (f:Next1) (X:Env1) (draw:Bool) (o:Oper) (σ:St) (tr:List Eff) (cs:List C1) (r:Option R):Option Q1:=match r with
 | some r=>f (σ.eff o.dst (r.eff (rdN (σ.val X.gl) o.op))) (bif draw then tr++[r.eff (rdN (σ.val X.gl) o.op)] else tr) (⟨dstOK X o.dst∧r.cond∧freshL (r.eff []).nw σ.used,bif draw then True else r.fact⟩::cs)
 | none=>none
theorem evalR_some (f:Next1) (X:Env1) (draw:Bool) (o:Oper) (σ:St) (tr:List Eff) (cs:List C1) (r:R) :
  evalR f X draw o σ tr cs (some r)=f (σ.eff o.dst (r.eff (rdN (σ.val X.gl) o.op))) (bif draw then tr++[r.eff (rdN (σ.val X.gl) o.op)] else tr) (⟨dstOK X o.dst∧r.cond∧freshL (r.eff []).nw σ.used,bif draw then True else r.fact⟩::cs):=rfl
def evalG (f:Next1) (X:Env1) (draw:Bool) (o:Oper) (σ:St) (tr:List Eff) (cs:List C1) (want:Bool) (v:V):Option Q1:=match v with
 | .pv (.bool true)=>bif want then evalR f X draw o σ tr cs (stepOp X.T (X.note o.dst) (σ.val X.gl) (getO σ.objs) o.dst o.op) else f (σ.eff o.dst skipE) (bif draw then tr++[skipE] else tr) (⟨dstOK X o.dst,True⟩::cs)
 | .pv (.bool false)=>bif want then f (σ.eff o.dst skipE) (bif draw then tr++[skipE] else tr) (⟨dstOK X o.dst,True⟩::cs) else evalR f X draw o σ tr cs (stepOp X.T (X.note o.dst) (σ.val X.gl) (getO σ.objs) o.dst o.op)
 | .pv (.tuple [])=>f (σ.eff o.dst skipE) (bif draw then tr++[skipE] else tr) (⟨dstOK X o.dst,True⟩::cs)
 | _=>none
theorem evalG_sk (f:Next1) (X:Env1) (draw:Bool) (o:Oper) (σ:St) (tr:List Eff) (cs:List C1) (want:Bool):evalG f X draw o σ tr cs want (.pv (.tuple []))=f (σ.eff o.dst skipE) (bif draw then tr++[skipE] else tr) (⟨dstOK X o.dst,True⟩::cs):=rfl
theorem evalG_tt (f:Next1) (X:Env1) (draw:Bool) (o:Oper) (σ:St) (tr:List Eff) (cs:List C1):evalG f X draw o σ tr cs true (.pv (.bool true))=evalR f X draw o σ tr cs (stepOp X.T (X.note o.dst) (σ.val X.gl) (getO σ.objs) o.dst o.op):=rfl
theorem evalG_ff (f:Next1) (X:Env1) (draw:Bool) (o:Oper) (σ:St) (tr:List Eff) (cs:List C1):evalG f X draw o σ tr cs false (.pv (.bool false))=evalR f X draw o σ tr cs (stepOp X.T (X.note o.dst) (σ.val X.gl) (getO σ.objs) o.dst o.op):=rfl
theorem evalG_ft (f:Next1) (X:Env1) (draw:Bool) (o:Oper) (σ:St) (tr:List Eff) (cs:List C1):evalG f X draw o σ tr cs false (.pv (.bool true))=f (σ.eff o.dst skipE) (bif draw then tr++[skipE] else tr) (⟨dstOK X o.dst,True⟩::cs):=rfl
theorem evalG_tf (f:Next1) (X:Env1) (draw:Bool) (o:Oper) (σ:St) (tr:List Eff) (cs:List C1):evalG f X draw o σ tr cs true (.pv (.bool false))=f (σ.eff o.dst skipE) (bif draw then tr++[skipE] else tr) (⟨dstOK X o.dst,True⟩::cs):=rfl
def evalO (f:Next1) (X:Env1) (draw:Bool) (ops:List Oper) (o:Oper) (rest:List Oper) (σ:St) (tr:List Eff) (cs:List C1) (call:Bool) (g:Option (Nat × Bool)):Option Q1:=match call,g with
 | true,_=>some ⟨cs,σ,o::rest,tr⟩
 | false,none=>evalR f X draw o σ tr cs (stepOp X.T (X.note o.dst) (σ.val X.gl) (getO σ.objs) o.dst o.op)
 | false,some (j,want)=>evalG f X draw o σ tr cs want (gv ops σ j)
theorem evalO_call (f:Next1) (X:Env1) (draw:Bool) (ops:List Oper) (o:Oper) (rest:List Oper) (σ:St) (tr:List Eff) (cs:List C1) (g:Option (Nat × Bool)):evalO f X draw ops o rest σ tr cs true g=some ⟨cs,σ,o::rest,tr⟩:=rfl
theorem evalO_none (f:Next1) (X:Env1) (draw:Bool) (ops:List Oper) (o:Oper) (rest:List Oper) (σ:St) (tr:List Eff) (cs:List C1):evalO f X draw ops o rest σ tr cs false none=evalR f X draw o σ tr cs (stepOp X.T (X.note o.dst) (σ.val X.gl) (getO σ.objs) o.dst o.op):=rfl
theorem evalO_some (f:Next1) (X:Env1) (draw:Bool) (ops:List Oper) (o:Oper) (rest:List Oper) (σ:St) (tr:List Eff) (cs:List C1) (j:Nat) (want:Bool):evalO f X draw ops o rest σ tr cs false (some (j,want))=evalG f X draw o σ tr cs want (gv ops σ j):=rfl
def evalSeq (X:Env1) (draw:Bool) (ops:List Oper):List Oper→St→List Eff→List C1→Option Q1
 | [],σ,tr,cs=>some ⟨cs,σ,[],tr⟩
 | o::rest,σ,tr,cs=>evalO (evalSeq X draw ops rest) X draw ops o rest σ tr cs (isCall o.op) o.guard
theorem calleeOf_none {val:Operand→V} {op:Op} (h:isCall op=false):calleeOf val op=none:=by
 unfold calleeOf
 split
 ·simp [isCall] at h
 ·rfl
theorem calleeOf_none' {val:Operand→V} {op:Op} (h:(match op with | .call _=>false|_=>true)=true):calleeOf val op=none:=by
 unfold calleeOf
 split
 ·simp at h
 ·rfl
theorem buildC_mono:∀ (cs:List C1) (p q:Prop),(p→q)→buildC cs p→buildC cs q
 | [],_,_,h,hp=>h hp
 | x::cs,p,q,h,hp=>buildC_mono cs _ _ (fun ⟨h1,h2⟩=>⟨h1,fun hf=>h (h2 hf)⟩) hp
theorem runOps_eval0 {X:Env1} {draw:Bool} {ops:List Oper} {K:St→List Eff→Prop} {Qp:PV→St→Prop} : ∀ (l:List Oper) (σ:St) (tr:List Eff) (cs:List C1) (q:Q1),evalSeq X draw ops l σ tr cs=some q→runOps X draw ops K Qp q.rest q.σ q.tr →
  buildC q.cs True→buildC cs (runOps X draw ops K Qp l σ tr)
 | [],σ,tr,cs,q,h,hr,hc=>by
  simp only [evalSeq,Option.some.injEq] at h
  subst h
  exact buildC_mono _ _ _ (fun _=>hr) hc
 | o::rest,σ,tr,cs,q,h,hr,hc=>by
  simp only [evalSeq] at h
  cases hcall:isCall o.op with
  | true =>
   rw [hcall,evalO_call] at h
   simp only [Option.some.injEq] at h
   subst h
   exact buildC_mono _ _ _ (fun _=>hr) hc
  | false =>
   rw [hcall] at h
   have hyes:evalR (evalSeq X draw ops rest) X draw o σ tr cs (stepOp X.T (X.note o.dst) (σ.val X.gl) (getO σ.objs) o.dst o.op)=some q →
     buildC cs (dstOK X o.dst∧opStep X draw Qp o σ (fun e=>runOps X draw ops K Qp rest (σ.eff o.dst e) (bif draw then tr++[e] else tr))):=by
    intro hy
    unfold evalR at hy
    split at hy
    ·rename_i r hs
     have ih:=runOps_eval0 rest _ _ _ q hy hr hc
     simp only [buildC] at ih
     refine buildC_mono _ _ _ ?_ ih
     rintro⟨⟨h1,h2,h3⟩,h4⟩
     refine⟨h1,?_⟩
     unfold opStep
     rw [calleeOf_none hcall,caseC_none]
     split
     ·rename_i x hx;rw [hx] at hcall;cases hcall
     ·rename_i hx;rw [hx] at hcall;cases hcall
     ·rw [hs,bindR_some]
      exact⟨h2,h3,fun hf=>h4 (by cases draw<;>simp_all)⟩
    ·cases hy
   have hno:evalSeq X draw ops rest (σ.eff o.dst skipE) (bif draw then tr++[skipE] else tr) (⟨dstOK X o.dst,True⟩::cs)=some q →
     buildC cs (dstOK X o.dst∧runOps X draw ops K Qp rest (σ.eff o.dst skipE) (bif draw then tr++[skipE] else tr)):=by
    intro hn
    have ih:=runOps_eval0 rest _ _ _ q hn hr hc
    simp only [buildC] at ih
    exact buildC_mono _ _ _ (fun ⟨h1,h2⟩=>⟨h1,h2 trivial⟩) ih
   simp only [runOps]
   cases hgu:o.guard with
   | none =>
    rw [hgu,evalO_none] at h
    rw [guardC_none]
    exact hyes h
   | some p =>
    obtain⟨j,want⟩:=p
    rw [hgu,evalO_some] at h
    rw [guardC_some]
    unfold evalG at h
    split at h
    ·rename_i hv
     rw [hv]
     cases want
     ·rw [caseG_tf];exact hno h
     ·rw [caseG_yes];exact hyes h
    ·rename_i hv
     rw [hv]
     cases want
     ·rw [caseG_yes];exact hyes h
     ·rw [caseG_ft];exact hno h
    ·rename_i hv
     rw [hv,caseG_sk]
     exact hno h
    ·cases h
theorem runOps_eval {X:Env1} {draw:Bool} {ops:List Oper} {K:St→List Eff→Prop} {Qp:PV→St→Prop} {l:List Oper} {σ:St} {tr:List Eff} {q:Q1} (h:evalSeq X draw ops l σ tr []=some q) (hc:buildC q.cs True) (hr:runOps X draw ops K Qp q.rest q.σ q.tr) :
  runOps X draw ops K Qp l σ tr:=runOps_eval0 l σ tr [] q h hr hc
def guardV (ops:List Oper) (σ:St) (g:Option (Nat × Bool)):Option Bool:=match g with
 | none=>some true
 | some (j,want)=>match gv ops σ j with
  | .pv (.bool b)=>some (b == want)
  | .pv (.tuple [])=>some false
  | _=>none
theorem guardC_run {ops:List Oper} {σ:St} {g:Option (Nat × Bool)} {yes no:Prop} (h:guardV ops σ g=some true) (hy:yes):guardC ops σ g yes no:=by
 unfold guardV at h
 unfold guardC
 split at h
 ·exact hy
 ·split at h
  ·rename_i b hb
   try simp only
   rw [hb,caseG_bool]
   simp only [Option.some.injEq,beq_iff_eq] at h
   rw [if_pos h]
   exact hy
  ·cases h
  ·cases h
theorem guardC_skip {ops:List Oper} {σ:St} {g:Option (Nat × Bool)} {yes no:Prop} (h:guardV ops σ g=some false) (hn:no):guardC ops σ g yes no:=by
 unfold guardV at h
 unfold guardC
 split at h
 ·cases h
 ·split at h
  ·rename_i b hb
   try simp only
   rw [hb,caseG_bool]
   simp only [Option.some.injEq,beq_eq_false_iff_ne] at h
   rw [if_neg h]
   exact hn
  ·rename_i hb
   try simp only
   rw [hb,caseG_sk]
   exact hn
  ·cases h
section
variable {X:Env1} {draw:Bool} {ops:List Oper} {K:St→List Eff→Prop} {Qp:PV→St→Prop} {o:Oper} {rest:List Oper} {σ:St} {tr:List Eff}
theorem runOps_call {f:Nat} {args:List V} {objs:List (Nat × Ob)} {x:V} {objs':List (Nat × Ob)} (hac:AC X.P X.gl f args objs (.ret x) objs') (hd:dstOK X o.dst) (hg:guardV ops σ o.guard=some true) (hf:calleeOf (σ.val X.gl) o.op=some (f,args))
  (h1:subO objs σ.objs) (h2:freshL ((keysO objs').filter (fun n=>(getO objs n).isNone)) σ.used) {σ':St} {tr':List Eff} (hσ:σ.eff o.dst (callEff x objs objs')=σ') (htr:(bif draw then tr++[callEff x objs objs'] else tr)=tr')
  (h:runOps X draw ops K Qp rest σ' tr'):runOps X draw ops K Qp (o::rest) σ tr:=by
 subst hσ htr
 simp only [runOps]
 refine⟨hd,guardC_run hg ?_⟩
 unfold opStep
 rw [hf,caseC_some]
 exact callStep_ret hac h1 h2 h
theorem runOps_callR {f:Nat} {args:List V} {ro objs:List (Nat × Ob)} {x:V} {objs':List (Nat × Ob)} (hac:AC X.P X.gl f args (ro++objs) (.ret x) (ro++objs')) (hd:dstOK X o.dst) (hg:guardV ops σ o.guard=some true) (hf:calleeOf (σ.val X.gl) o.op=some (f,args))
  (hro:∀ n∈keysO ro,n ∉ keysO objs∧n ∉ keysO objs') (h1:subO (ro++objs) σ.objs) (h2:freshL ((keysO objs').filter (fun n=>(getO objs n).isNone)) σ.used) {σ':St} {tr':List Eff} (hσ:σ.eff o.dst (callEffR x ro objs objs')=σ') (htr:(bif draw then tr++[callEffR x ro objs objs'] else tr)=tr')
  (h:runOps X draw ops K Qp rest σ' tr'):runOps X draw ops K Qp (o::rest) σ tr:=by
 subst hσ htr
 simp only [runOps]
 refine⟨hd,guardC_run hg ?_⟩
 unfold opStep
 rw [hf,caseC_some]
 exact callStep_retR hac hro h1 h2 h
theorem runOps_call_skip (hd:dstOK X o.dst) (hg:guardV ops σ o.guard=some false) {σ':St} {tr':List Eff} (hσ:σ.eff o.dst skipE=σ') (htr:(bif draw then tr++[skipE] else tr)=tr') (h:runOps X draw ops K Qp rest σ' tr'):runOps X draw ops K Qp (o::rest) σ tr:=by
 subst hσ htr
 simp only [runOps]
 exact⟨hd,guardC_skip hg h⟩
theorem runOps_call_panic {f:Nat} {args:List V} {objs:List (Nat × Ob)} {p:PV} {objs':List (Nat × Ob)} (hac:AC X.P X.gl f args objs (.panic p) objs') (hd:dstOK X o.dst) (hg:guardV ops σ o.guard=some true) (hf:calleeOf (σ.val X.gl) o.op=some (f,args))
  (h1:subO objs σ.objs) (h2:freshL ((keysO objs').filter (fun n=>(getO objs n).isNone)) σ.used) {σ':St} (hσ:σ.eff none (callEff .undef objs objs')=σ') (h:Qp p σ'):runOps X false ops K Qp (o::rest) σ tr:=by
 subst hσ
 simp only [runOps]
 refine⟨hd,guardC_run hg ?_⟩
 unfold opStep
 rw [hf,caseC_some]
 exact callStep_panic hac h1 h2 h
theorem runOps_panic {x:Operand} {t:Nat} {p:PV} (ho:o.op = .panic x) (hd:dstOK X o.dst) (hg:guardV ops σ o.guard=some true) (hv:σ.val X.gl x = .pv (.iface t p)) (h:Qp (.iface t p) σ):runOps X false ops K Qp (o::rest) σ tr:=by
 simp only [runOps]
 refine⟨hd,guardC_run hg ?_⟩
 unfold opStep
 rw [ho]
 simp only [calleeOf,caseC_none]
 rw [hv,panicC_iface]
 exact⟨trivial,h⟩
theorem runOps_look {t:Nat} {mo ko:Operand} {kt vt s1 s2:Nat} {s3:Value} {s4:List PV} {tv:TI} {n:Nat} {ks:List PV} {z:PV} {D:PV→Prop} {F:PV→PV} (ho:o.op = .lookup t mo ko true) (hd:dstOK X o.dst) (hg:guardV ops σ o.guard=some true)
  (ht:X.T t=some ⟨.map kt vt,s1,s2,s3,s4⟩) (hv:X.T vt=some tv) (hz:zeroPV tv=some z) (hm:σ.val X.gl mo = .map n) (hk:σ.val X.gl ko = .pv (.ptr ks)) (hob:getO σ.objs n=some (.cache D F)) (hD:D (.ptr ks)) (hni:ks.any PV.nonint=true)
  (h:∀ b:Bool,runOps X false ops K Qp rest (σ.eff o.dst ⟨.pv (.tuple [bif b then F (.ptr ks) else z,.bool b]),[],[],[]⟩) tr):runOps X false ops K Qp (o::rest) σ tr:=by
 simp only [runOps]
 refine⟨hd,guardC_run hg ?_⟩
 unfold opStep
 rw [calleeOf_none' (by rw [ho])]
 simp only [caseC,ho,lookC,ht,hv,hm,hk,hob,hz]
 exact⟨trivial,trivial,hni,.inl ⟨hD,fun b=>by simpa using h b⟩⟩
theorem runOps_lookN {t:Nat} {mo ko:Operand} {kt vt s1 s2:Nat} {s3:Value} {s4:List PV} {tv:TI} {n:Nat} {ks:List PV} {z:PV} {D:PV→Prop} {F:PV→PV} (ho:o.op = .lookup t mo ko true) (hd:dstOK X o.dst) (hg:guardV ops σ o.guard=some true)
  (ht:X.T t=some ⟨.map kt vt,s1,s2,s3,s4⟩) (hv:X.T vt=some tv) (hz:zeroPV tv=some z) (hm:σ.val X.gl mo = .map n) (hk:σ.val X.gl ko = .pv (.ptr ks)) (hob:getO σ.objs n=some (.cache D F)) (hN:∀ (H:Hp) (p:PV) (v:Value),D p→RepP H p v→RepP H (.ptr ks) v→False) (hni:ks.any PV.nonint=true)
  (h:runOps X false ops K Qp rest (σ.eff o.dst ⟨.pv (.tuple [z,.bool false]),[],[],[]⟩) tr):runOps X false ops K Qp (o::rest) σ tr:=by
 simp only [runOps]
 refine⟨hd,guardC_run hg ?_⟩
 unfold opStep
 rw [calleeOf_none' (by rw [ho])]
 simp only [caseC,ho,lookC,ht,hv,hm,hk,hob,hz]
 exact⟨trivial,trivial,hni,.inr ⟨hN,by simpa using h⟩⟩
theorem runOps_lookI {t:Nat} {mo ko:Operand} {kt vt len s1 s2:Nat} {s3:Value} {s4:List PV} {r:R} {e:Eff} (ho:o.op = .lookup t mo ko true) (hd:dstOK X o.dst) (hg:guardV ops σ o.guard=some true)
  (ht:X.T t=some ⟨.imap kt vt len,s1,s2,s3,s4⟩) (hs:stepOp X.T (X.note o.dst) (σ.val X.gl) (getO σ.objs) o.dst o.op=some r) (hc:r.cond) (he:r.eff (rdN (σ.val X.gl) o.op)=e) (hw:r.wr=none)
  (h:runOps X draw ops K Qp rest (σ.eff o.dst e) (bif draw then tr++[e] else tr)):runOps X draw ops K Qp (o::rest) σ tr:=by
 simp only [runOps]
 refine⟨hd,guardC_run hg ?_⟩
 unfold opStep
 rw [calleeOf_none' (by rw [ho])]
 subst he
 simp only [caseC,ho,lookC,ht]
 rw [ho] at hs h
 rw [hs]
 simp only [bindR]
 refine⟨hc,?_,fun _=>h⟩
 simp [R.eff,hw,freshL]
theorem runOps_nil (h:K σ tr):runOps X draw ops K Qp [] σ tr:=h
theorem runOps_ev {cs:List C1} {σ':St} {rest':List Oper} {tr':List Eff} (hcall:isCall o.op=false) (h:evalSeq X draw ops (o::rest) σ tr []=some ⟨cs,σ',rest',tr'⟩) (hc:buildC cs True) (hr:runOps X draw ops K Qp rest' σ' tr'):runOps X draw ops K Qp (o::rest) σ tr :=
 runOps_eval h hc hr
theorem ex_seq {a b:Code} {Q:AEx→St→Prop} (h:AWP X a σ (thenQ (fun σ'=>AWP X b σ' Q) Q)):AWP X (.seq a b) σ Q:=AWP.seq h
theorem ex_block {id:Nat} {a:Code} {Q:AEx→St→Prop} (h:AWP X a σ (blockQ id Q)):AWP X (.block id a) σ Q:=AWP.block h
theorem ex_skip {Q:AEx→St→Prop} (h:Q .normal σ):AWP X .skip σ Q:=exec_sound X.ok X.mix _ _ _ h
theorem ex_exit {id:Nat} {Q:AEx→St→Prop} (h:Q (.exit id) σ):AWP X (.exit id) σ Q:=exec_sound X.ok X.mix _ _ _ h
theorem ex_ret {Q:AEx→St→Prop} (h:Q .ret σ):AWP X .ret σ Q:=exec_sound X.ok X.mix _ _ _ h
theorem ex_reg {id:Nat} {l:List Oper} {Q:AEx→St→Prop} (h:runOps X false l (fun σ' _=>Q .normal σ') (fun p σ'=>Q (.panic p) σ') l σ []):AWP X (.region id l.toArray false) σ Q :=
 exec_sound X.ok X.mix _ _ _ (by simpa [exec] using h)
theorem ex_draw {id:Nat} {l:List Oper} {Q:AEx→St→Prop} (h:runOps X true l (fun σ' tr=>checkDraw l tr=true∧Q .normal σ') (fun _ _=>False) l σ []):AWP X (.region id l.toArray true) σ Q :=
 exec_sound X.ok X.mix _ _ _ (by simpa [exec] using h)
theorem ex_cond {c:Operand} {x y:Code} {Q:AEx→St→Prop} {v:V} (hv:σ.val X.gl c=v) (h:caseB v (AWP X x σ Q) (AWP X y σ Q)):AWP X (.cond c x y) σ Q:=by
 intro C E a w hC hG
 have hr:=val_rep hG hC.glob c
 rw [hv] at hr
 unfold caseB at h
 split at h
 ·rename_i b
  exact wp_cond_split (rep_bool hr) (fun hb=>h.1 hb C E a w hC hG) (fun hb=>h.2 hb C E a w hC hG)
 ·cases h
theorem q_normal {next:St→Prop} {Q:AEx→St→Prop} (h:next σ):thenQ next Q .normal σ:=h
theorem q_exit {next:St→Prop} {Q:AEx→St→Prop} {i:Nat} (h:Q (.exit i) σ):thenQ next Q (.exit i) σ:=h
theorem q_ret {next:St→Prop} {Q:AEx→St→Prop} (h:Q .ret σ):thenQ next Q .ret σ:=h
theorem q_panic {next:St→Prop} {Q:AEx→St→Prop} {p:PV} (h:Q (.panic p) σ):thenQ next Q (.panic p) σ:=h
theorem b_normal {id:Nat} {Q:AEx→St→Prop} (h:Q .normal σ):blockQ id Q .normal σ:=h
theorem b_same {id:Nat} {Q:AEx→St→Prop} (h:Q .normal σ):blockQ id Q (.exit id) σ:=by rw [blockQ_same];exact h
theorem b_other {id i:Nat} {Q:AEx→St→Prop} (hne:(i == id)=false) (h:Q (.exit i) σ):blockQ id Q (.exit i) σ:=by rw [blockQ_other hne];exact h
theorem b_ret {id:Nat} {Q:AEx→St→Prop} (h:Q .ret σ):blockQ id Q .ret σ:=h
theorem b_panic {id:Nat} {Q:AEx→St→Prop} {p:PV} (h:Q (.panic p) σ):blockQ id Q (.panic p) σ:=h
theorem ex_freeze {c:Code} {Q:AEx→St→Prop} (n:Nat) {ver sz ty:Nat} {es:List (List PV)} (ho:getO σ.objs n=some (.arr ver sz ty (pvE es))) {σ':St} (hσ:σ.frz n ver es=σ') (h:AWP X c σ' Q):AWP X c σ Q :=
 AWP.freeze n ho (by rw [hσ];exact h)
theorem AWP.loopN {b:Code} {Q:AEx→St→Prop} (n:Nat) (I:Nat→St) (h0:Weak X σ (I 0)) (hr:∀ k,k≤n→AWP X b (I k) (thenQ (fun σ'=>k<n∧Weak X σ' (I (k+1))) Q)):AWP X (.loop b) σ Q:=by
 refine AWP.loop (fun k:Fin (n+1)=>I k) (fun k=>n-k) 0 h0 ?_
 intro k
 refine (hr k (by omega)).mono ?_
 intro e σ' h
 cases e with
 | normal =>
  obtain⟨hk,hw⟩:=h
  exact⟨⟨k+1,by omega⟩,by simp;omega,hw⟩
 | exit i=>exact h
 | ret=>exact h
 | panic p=>exact h
end
def PV.one:PV→Bool
 | .agg _=>false
 | .tuple _=>false
 | _=>true
theorem one_pv (p:PV):(V.pv p).one=p.one:=by cases p<;>rfl
theorem vc_int (n:Int):vcells (.pv (.int n))=some [.pv (.int n)]:=rfl
theorem vo_int (n:Int):(V.pv (.int n)).one=true:=rfl
theorem po_int (n:Int):PV.one (.int n)=true:=rfl
theorem vc_bool (b:Bool):vcells (.pv (.bool b))=some [.pv (.bool b)]:=rfl
theorem vo_bool (b:Bool):(V.pv (.bool b)).one=true:=rfl
theorem po_bool (b:Bool):PV.one (.bool b)=true:=rfl
theorem vc_nil  : vcells (.pv (.nil))=some [.pv (.nil)]:=rfl
theorem vo_nil  : (V.pv (.nil)).one=true:=rfl
theorem po_nil  : PV.one (.nil)=true:=rfl
theorem vc_nils  : vcells (.pv (.nils))=some [.pv (.nils)]:=rfl
theorem vo_nils  : (V.pv (.nils)).one=true:=rfl
theorem po_nils  : PV.one (.nils)=true:=rfl
theorem vc_nilfn  : vcells (.pv (.nilfn))=some [.pv (.nilfn)]:=rfl
theorem vo_nilfn  : (V.pv (.nilfn)).one=true:=rfl
theorem po_nilfn  : PV.one (.nilfn)=true:=rfl
theorem vc_nilm  : vcells (.pv (.nilm))=some [.pv (.nilm)]:=rfl
theorem vo_nilm  : (V.pv (.nilm)).one=true:=rfl
theorem po_nilm  : PV.one (.nilm)=true:=rfl
theorem vc_nilif  : vcells (.pv (.nilif))=some [.pv (.nilif)]:=rfl
theorem vo_nilif  : (V.pv (.nilif)).one=true:=rfl
theorem po_nilif  : PV.one (.nilif)=true:=rfl
theorem vc_ptr (cs:List PV):vcells (.pv (.ptr cs))=some [.pv (.ptr cs)]:=rfl
theorem vo_ptr (cs:List PV):(V.pv (.ptr cs)).one=true:=rfl
theorem po_ptr (cs:List PV):PV.one (.ptr cs)=true:=rfl
theorem vc_slice (es:List (List PV)):vcells (.pv (.slice es))=some [.pv (.slice es)]:=rfl
theorem vo_slice (es:List (List PV)):(V.pv (.slice es)).one=true:=rfl
theorem po_slice (es:List (List PV)):PV.one (.slice es)=true:=rfl
theorem vc_iface (t:Nat) (p:PV):vcells (.pv (.iface t p))=some [.pv (.iface t p)]:=rfl
theorem vo_iface (t:Nat) (p:PV):(V.pv (.iface t p)).one=true:=rfl
theorem po_iface (t:Nat) (p:PV):PV.one (.iface t p)=true:=rfl
theorem vc_loc (n o:Nat):vcells (.loc n o)=some [.loc n o]:=rfl
theorem vo_loc (n o:Nat):V.one (.loc n o)=true:=rfl
theorem vc_eloc (n v i o:Nat):vcells (.eloc n v i o)=some [.eloc n v i o]:=rfl
theorem vo_eloc (n v i o:Nat):V.one (.eloc n v i o)=true:=rfl
theorem vc_arr (n v l:Nat):vcells (.arr n v l)=some [.arr n v l]:=rfl
theorem vo_arr (n v l:Nat):V.one (.arr n v l)=true:=rfl
theorem vc_map (n:Nat):vcells (.map n)=some [.map n]:=rfl
theorem vo_map (n:Nat):V.one (.map n)=true:=rfl
theorem vc_vsl (es:List (List V)):vcells (.vsl es)=some [.vsl es]:=rfl
theorem vo_vsl (es:List (List V)):V.one (.vsl es)=true:=rfl
theorem vc_fn (f:Nat) (cs:List V):vcells (.fn f cs)=some [.fn f cs]:=rfl
theorem vo_fn (f:Nat) (cs:List V):V.one (.fn f cs)=true:=rfl
theorem vc_agg (cs:List PV):vcells (.pv (.agg cs))=some (cs.map .pv):=rfl
theorem vc_aggv (cs:List V):vcells (.agg cs)=some cs:=rfl
theorem pc_int (n:Int):pcells (.int n)=some [.int n]:=rfl
theorem pc_bool (b:Bool):pcells (.bool b)=some [.bool b]:=rfl
theorem pc_nil  : pcells (.nil)=some [.nil]:=rfl
theorem pc_nils  : pcells (.nils)=some [.nils]:=rfl
theorem pc_nilfn  : pcells (.nilfn)=some [.nilfn]:=rfl
theorem pc_nilm  : pcells (.nilm)=some [.nilm]:=rfl
theorem pc_nilif  : pcells (.nilif)=some [.nilif]:=rfl
theorem pc_ptr (cs:List PV):pcells (.ptr cs)=some [.ptr cs]:=rfl
theorem pc_slice (es:List (List PV)):pcells (.slice es)=some [.slice es]:=rfl
theorem pc_iface (t:Nat) (p:PV):pcells (.iface t p)=some [.iface t p]:=rfl
theorem pc_agg (cs:List PV):pcells (.agg cs)=some cs:=rfl
theorem pvE_take (es:List (List PV)) (k:Nat):(pvE es).take k=pvE (es.take k):=by simp [pvE]
theorem pvE_app (a b:List (List PV)):pvE a++pvE b=pvE (a++b):=by simp [pvE]
theorem pvE_len (a:List (List PV)):(pvE a).length=a.length:=by simp [pvE]
theorem pvE_all (es:List (List PV)) (s:Nat):(∀ y∈pvE es,y.length=s) ↔ ∀ y∈es,y.length=s:=by
 simp [pvE,pvL]
theorem pvE_one (es:List (List PV)):(∀ y∈pvE es,y.all V.one=true) ↔ ∀ y∈es,y.all PV.one=true:=by
 simp [pvE,pvL,one_pv]
theorem pvE_nil:([]:List (List V))=pvE []:=rfl
theorem pvE_get (es:List (List PV)) (i:Nat):(pvE es)[i]? = (es[i]?).map pvL:=by simp [pvE]
def Rounds (X:Env1) (b:Code) (Q:AEx→St→Prop):Nat→St→Prop
 | 0,_=>False
 | n+1,σ=>AWP X b σ (thenQ (Rounds X b Q n) Q)
theorem ex_round {X:Env1} {b:Code} {Q:AEx→St→Prop} {n:Nat} {σ:St} (h:AWP X b σ (thenQ (Rounds X b Q n) Q)):Rounds X b Q (n+1) σ:=h
theorem rounds_wp {X:Env1} {b:Code} {Q:AEx→St→Prop} {C:Ctx} (hC:COK X C):∀ (n:Nat) (σ:St) (E:Env) (a:Act) (w:World),Ga C E σ a w→Rounds X b Q n σ→Code.rounds X.P b (APost C Q) n a w
 | 0,_,_,_,_,_,h=>h.elim
 | n+1,σ,E,a,w,hG,h=>by
  rw [rounds_succ]
  refine wp_mono (h C E a w hC hG) ?_
  rintro e a' w' ⟨E',σ',ae,hG',hrel,hq⟩
  cases ae with
  | normal=>cases hrel;exact rounds_wp hC n σ' E' a' w' hG' hq
  | exit i=>cases hrel;exact⟨E',σ',.exit i,hG',rfl,hq⟩
  | ret=>cases hrel;exact⟨E',σ',.ret,hG',rfl,hq⟩
  | panic p=>obtain⟨v,rfl,hv⟩:=hrel;exact⟨E',σ',.panic p,hG',⟨v,rfl,hv⟩,hq⟩
theorem ex_loop (n:Nat) {X:Env1} {b:Code} {Q:AEx→St→Prop} {σ:St} (h:Rounds X b Q n σ):AWP X (.loop b) σ Q :=
 fun _ E a w hC hG=>wp_loop_rounds n (rounds_wp hC n σ E a w hG h)
def pickO (objs:List (Nat × Ob)):List Nat→List (Nat × Ob)
 | []=>[]
 | n::r=>match getO objs n with
  | some o=>(n,o)::pickO objs r
  | none=>pickO objs r
def pickS (slots:List (Nat × V)):List Nat→List (Nat × V)
 | []=>[]
 | n::r=>(n,getS slots n)::pickS slots r
def St.keep (σ:St) (ss ns:List Nat):St:=⟨pickS σ.slots ss,pickO σ.objs ns,ns⟩
theorem pickS_le (l:List (Nat × V)):∀ ss,slotsLe (pickS l ss) l
 | []=>trivial
 | s::r=>⟨rfl,pickS_le l r⟩
theorem pickO_le (l:List (Nat × Ob)):∀ ns,subO (pickO l ns) l
 | []=>trivial
 | n::r=>by
  unfold pickO
  cases h:getO l n with
  | none=>exact pickO_le l r
  | some o=>exact⟨h,pickO_le l r⟩
theorem Weak.keep {X:Env1} {σ:St} (ss ns:List Nat) (h:subL (namesSl (σ.keep ss ns).slots++namesOb (σ.keep ss ns).objs++X.given) ns):Weak X σ (σ.keep ss ns) :=
 ⟨pickS_le _ _,pickO_le _ _,h⟩
theorem ex_keep {X:Env1} {c:Code} {Q:AEx→St→Prop} {σ σ':St} (ss ns:List Nat) (hσ:σ.keep ss ns=σ') (hn:subL (namesSl σ'.slots++namesOb σ'.objs++X.given) ns) (h:AWP X c σ' Q):AWP X c σ Q:=by
 subst hσ
 exact AWP.weaken (Weak.keep ss ns hn) h
end Go.Lg
