/- The logic of contracts; no conditions. -/
import Derived.Test.YtodjpfpmhjdhbaaGreatDoorTwiceA2
import Derived.IntWalk
set_option linter.all false
namespace Go.Lg
section
variable {P:Program} {C:Ctx} {E:Env} {σ:St} {a:Act} {w:World} {gl:Nat→Option (List PV)} {o:Oper} {T:Nat→Option TI} {note:Note} {ob:Nat→Option Ob}
theorem wrap_in {x:Int} (h:inI x):IntKind.i64.wrap x=x:=IntWalk.i64_in x (by obtain⟨h1,h2⟩:=h;omega)
theorem run_eqGuard {b:BinOp} {t:Nat} {x y:Operand} {u v:Value} (h1:∀ c,u ≠ .agg c) (h2:u ≠ .nilIface):(eqGuard b t x y u v).run P w = .ok () w:=by
 cases u<;>first|exact absurd rfl (h1 _)|exact absurd rfl h2|skip
 all_goals
  unfold eqGuard
  cases b<;>rfl
theorem exec_bin {b:BinOp} {t t':Nat} {x y:Operand} (ho:o.op = .binOp b t x y t') {v:Value}
  (h:(binOp b t (a.eval x) (a.eval y)).run P w = .ok v w) (h1:∀ c,a.eval x ≠ .agg c) (h2:a.eval x ≠ .nilIface):OpRes P o a w v w:=by
 refine .inl ?_
 have hq:=run_eqGuard (P:=P) (w:=w) (b:=b) (t:=t) (x:=x) (y:=y) (v:=a.eval y) h1 h2
 simp [execOp,ho,hq,h]
theorem run_equal {t:Nat} {x y:Value} {b:Bool} (h:∀ d,(Op.equalIn (d+1) t x y).run P w = .ok b w):(Op.equal t x y).run P w = .ok b w:=by
 unfold Op.equal
 exact h 9999
theorem sound_int2 {op:BinOp} {x y:Int} {r:R} (hs:stepInt op x y=some r) (hc:r.cond) (t:Nat) :
  ∃ v,(binOp op t (.int .i64 x) (.int .i64 y)).run P w = .ok v w∧RepV E r.out v∧r.out.names=[]∧r.wr=none∧r.fact:=by
 have hb:∀ z:Int,(x == y)=decide (x=y):=by intro z;by_cases e:x=y<;>simp [e]
 cases op<;>simp only [stepInt,boolR,Option.some.injEq,reduceCtorEq] at hs<;>subst hs
 ·exact⟨.int .i64 (x+y),by simp [binOp,Op.intArith,wrap_in hc],by simp [RepV,RepP,R.ofIf],rfl,rfl,trivial⟩
 ·exact⟨.int .i64 (x-y),by simp [binOp,Op.intArith,wrap_in hc],by simp [RepV,RepP,R.ofIf],rfl,rfl,trivial⟩
 ·exact⟨.int .i64 (x * y),by simp [binOp,Op.intArith,wrap_in hc],by simp [RepV,RepP,R.ofIf],rfl,rfl,trivial⟩
 ·have hc:y≠0:=hc
  exact⟨.int .i64 (x.tmod y),by simp [binOp,Op.intDiv,hc],by simp [RepV,RepP,R.ofIf],rfl,rfl,trivial⟩
 ·exact⟨.bool (decide (x=y)),by simp [binOp,Op.intCmp,hb 0],by simp [RepV,RepP,R.of],rfl,rfl,trivial⟩
 ·exact⟨.bool (!decide (x=y)),by simp [binOp,Op.intCmp,bne,hb 0],by simp [RepV,RepP,R.of],rfl,rfl,trivial⟩
 ·exact⟨.bool (decide (x<y)),by simp [binOp,Op.intCmp],by simp [RepV,RepP,R.of],rfl,rfl,trivial⟩
 ·exact⟨.bool (decide (x≤y)),by simp [binOp,Op.intCmp],by simp [RepV,RepP,R.of],rfl,rfl,trivial⟩
 ·exact⟨.bool (decide (y<x)),by simp [binOp,Op.intCmp],by simp [RepV,RepP,R.of],rfl,rfl,trivial⟩
 ·exact⟨.bool (decide (y≤x)),by simp [binOp,Op.intCmp],by simp [RepV,RepP,R.of],rfl,rfl,trivial⟩
theorem sound_eq {t:Nat} {ti:TI} (hT:TIOK P t ti) {x y:V} {yo:Operand} {b:Bool} (hs:stepEq ti.k x y yo=some b) {u v:Value} (hu:RepV E x u) (hv:RepV E y v) (hyo:∀ c,yo = .const c→v=c) :
  (Op.equal t u v).run P w = .ok b w∧((∃ c,u = .bool c)∨(∃ c,u = .pointer c∧v = .pointer none)∨(∃ a b c,u = .slice a b c)∨u = .nilFunc∨(∃ a b c,u = .func a b c) ∨ ∃ t x,u = .iface t x∧v = .nilIface):=by
 obtain⟨d,hd,hk⟩:=hT.desc
 unfold stepEq at hs
 split at hs
 ·rename_i a' b' e
  rw [e] at hk
  simp only [TKOK] at hk
  subst hk
  have hu:=rep_bool hu
  have hv:=rep_bool hv
  subst hu hv
  simp only [Option.some.injEq] at hs
  subst hs
  exact⟨run_equal fun d=>by simp [Op.equalIn,run_underlying hd],.inl ⟨_,rfl⟩⟩
 ·rename_i e
  rw [e] at hk
  obtain⟨el,rfl⟩:=hk
  simp only [RepV,RepP] at hu hv
  subst hu hv
  simp only [Option.some.injEq] at hs
  subst hs
  exact⟨run_equal fun d=>by simp [Op.equalIn,run_underlying hd],.inr (.inl ⟨_,rfl,rfl⟩)⟩
 ·rename_i cs e
  rw [e] at hk
  obtain⟨el,rfl⟩:=hk
  simp only [RepV,RepP] at hu hv
  obtain⟨b',off,rfl,_⟩:=hu
  subst hv
  simp only [Option.some.injEq] at hs
  subst hs
  exact⟨run_equal fun d=>by simp [Op.equalIn,run_underlying hd],.inr (.inl ⟨_,rfl,rfl⟩)⟩
 ·rename_i n off e
  rw [e] at hk
  obtain⟨el,rfl⟩:=hk
  simp only [RepV,RepP] at hu hv
  obtain⟨b',_,rfl⟩:=hu
  subst hv
  simp only [Option.some.injEq] at hs
  subst hs
  exact⟨run_equal fun d=>by simp [Op.equalIn,run_underlying hd],.inr (.inl ⟨_,rfl,rfl⟩)⟩
 ·rename_i e
  rw [e] at hk
  obtain⟨p,r,vv,rfl⟩:=hk
  simp only [RepV,RepP] at hu hv
  subst hu hv
  simp only [Option.some.injEq] at hs
  subst hs
  exact⟨run_equal fun d=>by simp [Op.equalIn,run_underlying hd],.inr (.inr (.inr (.inl rfl)))⟩
 ·rename_i f cs e
  rw [e] at hk
  obtain⟨p,r,vv,rfl⟩:=hk
  simp only [RepV,RepP] at hu hv
  obtain⟨vs,rfl,_⟩:=hu
  subst hv
  simp only [Option.some.injEq] at hs
  subst hs
  exact⟨run_equal fun d=>by simp [Op.equalIn,run_underlying hd],.inr (.inr (.inr (.inr (.inl ⟨_,_,_,rfl⟩))))⟩
 ·rename_i f cs e
  rw [e] at hk
  obtain⟨p,r,vv,rfl⟩:=hk
  simp only [RepV,RepP] at hu hv
  obtain⟨vs,rfl,_⟩:=hu
  subst hv
  simp only [Option.some.injEq] at hs
  subst hs
  exact⟨run_equal fun d=>by simp [Op.equalIn,run_underlying hd],.inr (.inr (.inr (.inr (.inl ⟨_,_,_,rfl⟩))))⟩
 ·rename_i t' p e
  rw [e] at hk
  obtain⟨ms,rfl⟩:=hk
  simp only [RepV,RepP] at hu
  obtain⟨x,rfl,_⟩:=hu
  split at hs
  ·have:=hyo _ rfl
   subst this
   simp only [Option.some.injEq] at hs
   subst hs
   exact⟨run_equal fun d=>by simp [Op.equalIn,run_underlying hd],.inr (.inr (.inr (.inr (.inr ⟨_,_,rfl,rfl⟩))))⟩
  ·cases hs
 ·rename_i el e
  rw [e] at hk
  simp only [TKOK] at hk
  subst hk
  simp only [RepV,RepP] at hu
  subst hu
  split at hs
  ·have:=hyo _ rfl
   subst this
   simp only [Option.some.injEq] at hs
   subst hs
   exact⟨run_equal fun d=>by simp [Op.equalIn,run_underlying hd],.inr (.inr (.inl ⟨_,_,_,rfl⟩))⟩
  ·cases hs
 ·rename_i el e1 e2 e
  rw [e] at hk
  simp only [TKOK] at hk
  subst hk
  simp only [RepV,RepP] at hu
  obtain⟨ad,cap,rfl,_,_,h0⟩:=hu
  rcases h0 with h0|⟨b',off,rfl,_⟩
  ·cases h0
  split at hs
  ·have:=hyo _ rfl
   subst this
   simp only [Option.some.injEq] at hs
   subst hs
   exact⟨run_equal fun d=>by simp [Op.equalIn,run_underlying hd],.inr (.inr (.inl ⟨_,_,_,rfl⟩))⟩
  ·cases hs
 ·cases hs
theorem run_eql_of {t:Nat} {u v:Value} {b:Bool} (hr:(Op.equal t u v).run P w = .ok b w)
  (hu:(∃ c,u = .bool c)∨(∃ c,u = .pointer c∧v = .pointer none)∨(∃ a b c,u = .slice a b c)∨u = .nilFunc∨(∃ a b c,u = .func a b c) ∨ ∃ t x,u = .iface t x∧v = .nilIface) :
  (binOp .eql t u v).run P w = .ok (.bool b) w∧(binOp .neq t u v).run P w = .ok (.bool !b) w:=by
 rcases hu with ⟨c,rfl⟩|⟨c,rfl,rfl⟩|⟨a',b',c,rfl⟩|rfl|⟨a',b',c,rfl⟩|⟨t',x,rfl,rfl⟩
 ·cases v<;>simp [binOp,hr]
 ·simp [binOp,hr]
 ·cases v<;>simp [binOp,hr]
 ·cases v<;>simp [binOp,hr]
 ·cases v<;>simp [binOp,hr]
 ·simp [binOp,hr]
theorem sound_bin (h:Ga C E σ a w) (hg:GOK gl C.E0.H) (hd:∀ d,o.dst=some d→d<C.nt) (hT:TOK P T) {b:BinOp} {t t':Nat} {x y:Operand} (ho:o.op = .binOp b t x y t') {r:R} (hc:r.cond)
  (hs:stepOp T note (σ.val gl) ob o.dst (.binOp b t x y t')=some r):Sound P C E σ a w o r:=by
 have hx:=val_rep h hg x
 have hy:=val_rep h hg y
 simp only [stepOp] at hs
 split at hs
 ·rename_i ti e
  have hti:=hT t ti e
  unfold stepBin at hs
  split at hs
  ·rename_i p q e1 e2
   rw [e1] at hx;rw [e2] at hy
   have hx:=rep_int hx
   have hy:=rep_int hy
   obtain⟨v,hr,hv,hn,hw,hf⟩:=sound_int2 (P:=P) (E:=E) (w:=w) hs hc t
   obtain⟨c,f,x',wr,nw⟩:=r
   simp only at hw hn hv hf
   subst hw
   refine Sound.pure h (exec_bin ho (v:=v) ?_ ?_ ?_) hv (by simp [hn]) hd hf
   ·rw [hx,hy];exact hr
   ·rw [hx];simp
   ·rw [hx];simp
  ·have hyo:∀ c,y = .const c→a.eval y=c:=by rintro c rfl;rfl
   split at hs
   all_goals (try cases hs)
   all_goals
    rename_i bb e1
    obtain⟨hr,hu⟩:=sound_eq (w:=w) hti e1 hx hy hyo
    refine sound_bool h hd (exec_bin ho ?_ ?_ ?_)
    ·first|exact (run_eql_of hr hu).1|exact (run_eql_of hr hu).2
    ·rcases hu with ⟨c,hu⟩|⟨c,hu,hu'⟩|⟨a',b',c,hu⟩|hu|⟨a',b',c,hu⟩|⟨t',x,hu,_⟩<;>rw [hu]<;>simp
    ·rcases hu with ⟨c,hu⟩|⟨c,hu,hu'⟩|⟨a',b',c,hu⟩|hu|⟨a',b',c,hu⟩|⟨t',x,hu,_⟩<;>rw [hu]<;>simp
 ·cases hs
end
theorem add_none (b o k:Nat):(⟨b,o,none⟩:Addr).add k=⟨b,o+k,none⟩:=by
 unfold Addr.add
 split<;>simp_all
theorem RepE.get {H:Hp} {s:Nat} : ∀ {es:List (List PV)} {vs:List Value},RepE H es vs→(∀ e∈es,e.length=s)→∀ i,i<es.length→RepL H (es.getD i []) (vs.drop (i * s))
 | [],_,_,_,i,hi=>by simp at hi
 | e::es,vs,r,hs,0,_=>by simp only [RepE] at r;simpa using r.1
 | e::es,vs,r,hs,i+1,hi=>by
  simp only [RepE] at r
  have:=RepE.get r.2 (fun x hx=>hs x (by simp [hx])) i (by simpa using hi)
  rw [List.drop_drop,hs e (by simp)] at this
  simpa [Nat.succ_mul,Nat.add_comm] using this
theorem RepVE.get {E:Env} {s:Nat} : ∀ {es:List (List V)} {vs:List Value},RepVE E es vs→(∀ e∈es,e.length=s)→∀ i,i<es.length→RepVL E (es.getD i []) (vs.drop (i * s))
 | [],_,_,_,i,hi=>by simp at hi
 | e::es,vs,r,hs,0,_=>by simp only [RepVE] at r;simpa using r.1
 | e::es,vs,r,hs,i+1,hi=>by
  simp only [RepVE] at r
  have:=RepVE.get r.2 (fun x hx=>hs x (by simp [hx])) i (by simpa using hi)
  rw [List.drop_drop,hs e (by simp)] at this
  simpa [Nat.succ_mul,Nat.add_comm] using this
theorem RepE.dropE {H:Hp} {s:Nat} : ∀ {es:List (List PV)} {vs:List Value},RepE H es vs→(∀ e∈es,e.length=s)→∀ i,RepE H (es.drop i) (vs.drop (i * s))
 | es,vs,r,_,0=>by simpa using r
 | [],vs,r,_,i+1=>by simp [RepE]
 | e::es,vs,r,hs,i+1=>by
  simp only [RepE] at r
  have:=RepE.dropE r.2 (fun x hx=>hs x (by simp [hx])) i
  rw [List.drop_drop,hs e (by simp)] at this
  simpa [Nat.succ_mul,Nat.add_comm] using this
theorem RepE.takeE {H:Hp} : ∀ {es:List (List PV)} {vs:List Value},RepE H es vs→∀ i,RepE H (es.take i) vs
 | es,vs,r,0=>by simp [RepE]
 | [],vs,r,i+1=>by simp [RepE]
 | e::es,vs,r,i+1=>by
  simp only [RepE] at r
  simp only [List.take_succ_cons,RepE]
  exact⟨r.1,RepE.takeE r.2 i⟩
section
variable {P:Program} {C:Ctx} {E:Env} {σ:St} {a:Act} {w:World} {gl:Nat→Option (List PV)} {o:Oper} {T:Nat→Option TI} {note:Note}
theorem addrOff_rep {x y:V} {off:Nat} {v:Value} (h:addrOff x off=some y) (hx:RepV E x v) :
  ∃ ad:Addr,v = .pointer (some ad)∧RepV E y (.pointer (some (ad.add off)))∧y.names=x.names:=by
 unfold addrOff at h
 split at h
 ·cases h
  simp only [RepV,RepP] at hx
  obtain⟨b,o',rfl,hr⟩:=hx
  refine⟨_,rfl,?_,by simp [V.names]⟩
  rw [add_none]
  simp only [RepV,RepP]
  exact⟨b,o'+off,rfl,by rw [← List.drop_drop];exact RepL.drop off hr⟩
 ·cases h
  simp only [RepV] at hx
  obtain⟨b,hg,rfl⟩:=hx
  refine⟨_,rfl,?_,by simp [V.names]⟩
  rw [add_none]
  exact⟨b,hg,rfl⟩
 ·cases h
  simp only [RepV] at hx
  obtain⟨h1,⟨ad,rfl⟩,h2⟩:=hx
  refine⟨ad,rfl,?_,by simp [V.names]⟩
  simp only [RepV]
  refine⟨h1,⟨_,rfl⟩,fun e => ?_⟩
  obtain⟨b,L,cap,hg,hv,hl⟩:=h2 e
  cases hv
  refine⟨b,L,cap,hg,?_,hl⟩
  rw [add_none,Nat.add_assoc]
 ·cases h
theorem sound_fieldAddr (h:Ga C E σ a w) (hg:GOK gl C.E0.H) (hd:∀ d,o.dst=some d→d<C.nt) (hT:TOK P T) {t f:Nat} {x:Operand} (ho:o.op = .fieldAddr t x f) {r:R} {ob:Nat→Option Ob}
  (hs:stepOp T note (σ.val gl) ob o.dst (.fieldAddr t x f)=some r):Sound P C E σ a w o r:=by
 have hx:=val_rep h hg x
 have nx:=val_names (gl:=gl) h x
 simp only [stepOp] at hs
 split at hs
 ·rename_i fs s1 s2 s3 s4 e
  have hti:=hT t _ e
  obtain⟨d,hde,hk⟩:=hti.desc
  simp only [TKOK] at hk
  obtain⟨ff,rfl,hmap⟩:=hk
  split at hs
  ·rename_i off size ef
   split at hs
   ·cases hs
   ·rename_i hz
    cases ha:addrOff (σ.val gl x) off with
    | none=>rw [ha] at hs;cases hs
    | some y =>
     rw [ha] at hs
     simp only [Option.map_some,Option.some.injEq] at hs
     subst hs
     obtain⟨ad,hv,hy,hny⟩:=addrOff_rep ha hx
     have hget:(ff.toList.map (fun x=>(x.offset,(P.info? x.type).map (·.size))))[f]? = some (off,some size):=by
      rw [hmap];simp [ef]
     rw [List.getElem?_map] at hget
     cases hff:ff.toList[f]? with
     | none=>rw [hff] at hget;cases hget
     | some fd =>
      rw [hff] at hget
      simp only [Option.map_some,Option.some.injEq,Prod.mk.injEq] at hget
      have hff':ff[f]? = some fd:=by simpa using hff
      obtain⟨hoff,hsz⟩:=hget
      cases hi:P.info? fd.type with
      | none=>rw [hi] at hsz;cases hsz
      | some i =>
       rw [hi] at hsz
       have hsz:i.size=size:=by simpa using hsz
       refine Sound.pure h (v:=.pointer (some (ad.add off))) (.inl ?_) hy (by rw [hny];exact nx) hd trivial
       simp [execOp,ho,Instr.fieldAt,run_underlying hde,hff',hv,Instr.sureAddr,fieldPlace,sizeOf,typeInfo,hi,hsz,hz,hoff]
  ·cases hs
 ·cases hs
theorem sound_extract (h:Ga C E σ a w) (hg:GOK gl C.E0.H) (hd:∀ d,o.dst=some d→d<C.nt) {i:Nat} {x:Operand} (ho:o.op = .extract x i) {r:R} {ob:Nat→Option Ob}
  (hs:stepOp T note (σ.val gl) ob o.dst (.extract x i)=some r):Sound P C E σ a w o r:=by
 have hx:=val_rep h hg x
 have nx:=val_names (gl:=gl) h x
 have getP:∀ (cs:List PV) (vs:List Value) (i:Nat) (c:PV),RepL E.H cs vs→cs[i]? = some c→∃ v,vs[i]? = some v∧RepP E.H c v:=by
  intro cs
  induction cs with
  | nil=>intro vs i c _ hc;simp at hc
  | cons d cs ih =>
   intro vs i c hr hc
   cases vs with
   | nil=>simp [RepL] at hr
   | cons v vs =>
    simp only [RepL] at hr
    cases i with
    | zero=>simp at hc;subst hc;exact⟨v,rfl,hr.1⟩
    | succ i=>simpa using ih vs i c hr.2 (by simpa using hc)
 have getV:∀ (cs:List V) (vs:List Value) (i:Nat) (c:V),RepVL E cs vs→cs[i]? = some c→∃ v,vs[i]? = some v∧RepV E c v:=by
  intro cs
  induction cs with
  | nil=>intro vs i c _ hc;simp at hc
  | cons d cs ih =>
   intro vs i c hr hc
   cases vs with
   | nil=>simp [RepVL] at hr
   | cons v vs =>
    simp only [RepVL] at hr
    cases i with
    | zero=>simp at hc;subst hc;exact⟨v,rfl,hr.1⟩
    | succ i=>simpa using ih vs i c hr.2 (by simpa using hc)
 simp only [stepOp] at hs
 split at hs
 ·rename_i cs e
  rw [e] at hx
  simp only [RepV,RepP] at hx
  obtain⟨vs,hv,hl,hr⟩:=hx
  cases hc:cs[i]? with
  | none=>rw [hc] at hs;cases hs
  | some c =>
   rw [hc] at hs
   simp only [Option.map_some,Option.some.injEq] at hs
   subst hs
   obtain⟨v,hvi,hrc⟩:=getP cs vs i c hr hc
   refine Sound.pure h (v:=v) (.inl ?_) (by simpa [RepV] using hrc) (by simp [V.names]) hd trivial
   simp [execOp,ho,hv,Instr.extract,hvi]
 ·rename_i cs e
  rw [e] at hx nx
  simp only [RepV] at hx
  obtain⟨vs,hv,hl,hr⟩:=hx
  cases hc:cs[i]? with
  | none=>rw [hc] at hs;cases hs
  | some c =>
   rw [hc] at hs
   simp only [Option.map_some,Option.some.injEq] at hs
   subst hs
   obtain⟨v,hvi,hrc⟩:=getV cs vs i c hr hc
   refine Sound.pure h (v:=v) (.inl ?_) hrc (fun n hn=>nx n ?_) hd trivial
   ·simp [execOp,ho,hv,Instr.extract,hvi]
   ·simp only [V.names]
    exact mem_namesL.2 ⟨c,List.mem_of_getElem? hc,hn⟩
 ·cases hs
end
section
variable {P:Program} {C:Ctx} {E:Env} {σ:St} {a:Act} {w:World} {gl:Nat→Option (List PV)} {o:Oper} {T:Nat→Option TI} {note:Note}
theorem arr_header {n ver sz ty:Nat} {es:List (List V)} (h:ObOK E w n (.arr ver sz ty es)) :
  ∃ ad cap,E.g n = .slice ad es.length cap∧es.length≤cap∧es.length≤maxLen ∧
   (ad=none∧es=[]∧cap=0 ∨ ∃ b cur,ad=some ⟨b,0,none⟩∧w.heap[b]? = some (.cells cur ty (0,0))∧cur.size=cap * sz∧RepVE E es cur.toList∧E.H b=[]):=by
 obtain⟨_,_,_,xs,ho,hr,hf⟩:=h
 rcases ho.2 with ⟨e,h0⟩|⟨g,cap,cur,e,_,hc,hle,hm,hs,ht⟩
 ·refine⟨none,0,by rw [e,h0],by omega,by omega,.inl ⟨rfl,List.eq_nil_of_length_eq_zero h0,rfl⟩⟩
 ·refine⟨_,cap,e,hle,Nat.le_trans hle hm,.inr ⟨g,cur,rfl,hc,hs,?_,hf g (by rw [e];rfl)⟩⟩
  refine RepVE.mono (Hle.refl _) es xs _ ?_ (fun n _=>EExt.refl E n) hr
  rw [← ht]
  exact List.take_prefix _ _
theorem sound_index (h:Ga C E σ a w) (hg:GOK gl C.E0.H) (hd:∀ d,o.dst=some d→d<C.nt) (hT:TOK P T) {t:Nat} {x i:Operand} (ho:o.op = .indexAddr t x i) {r:R} (hc:r.cond)
  (hs:stepOp T note (σ.val gl) (getO σ.objs) o.dst (.indexAddr t x i)=some r):Sound P C E σ a w o r:=by
 have hx:=val_rep h hg x
 have nx:=val_names (gl:=gl) h x
 have hi:=val_rep h hg i
 simp only [stepOp,stepIndex] at hs
 split at hs
 ·rename_i k ek
  rw [ek] at hi
  have hi:=rep_int hi
  split at hs
  ·rename_i e s1 s2 s3 s4 et
   obtain⟨d,hde,hk⟩:=(hT t _ et).desc
   simp only [TKOK] at hk
   subst hk
   split at hs
   ·rename_i te ee
    have hte:=hT e te ee
    split at hs
    ·rename_i es ex
     rw [ex] at hx
     simp only [Option.some.injEq] at hs
     subst hs
     obtain⟨h0,h1,h2⟩:=hc
     simp only [RepV,RepP] at hx
     obtain⟨ad,cap,hv,hl,hm,hr⟩:=hx
     obtain⟨kn,rfl⟩:=Int.eq_ofNat_of_zero_le h0
     have hlt:kn<es.length:=by omega
     rcases hr with rfl|⟨b,off,rfl,hr⟩
     ·simp at hlt
     refine Sound.pure h (v:=.pointer (some ((⟨b,off,none⟩:Addr).add (kn * te.size)))) (.inl ?_) ?_ (by simp [V.names]) hd trivial
     ·simp [execOp,ho,Instr.indexAt,hi,asIntOf,run_underlying hde,hv,hlt,hte.run_size]
     ·rw [add_none]
      simp only [RepV,RepP,Int.toNat_natCast]
      refine⟨b,off+kn * te.size,rfl,?_⟩
      rw [← List.drop_drop]
      exact hr.get h2 kn hlt
    ·rename_i n ver len ex
     rw [ex] at hx nx
     split at hs
     ·rename_i ver' sz ty es eo
      simp only [Option.some.injEq] at hs
      subst hs
      obtain⟨rfl,h0,h1,h2,h3⟩:=hc
      have hob:=h.objs n _ eo
      obtain⟨hver,hsz,_⟩:=id hob
      obtain⟨ad,cap,hgn,hlc,hlm,hh⟩:=arr_header hob
      simp only [RepV] at hx
      obtain⟨_,_,hx⟩:=hx
      obtain⟨ad',L,cap',hgn',hv,hle⟩:=hx hver.symm
      rw [hgn] at hgn'
      cases hgn'
      obtain⟨kn,rfl⟩:=Int.eq_ofNat_of_zero_le h0
      have hlt:kn<len:=by omega
      rcases hh with ⟨_,e0,_⟩|⟨b,cur,rfl,hcur,_⟩
      ·subst e0;simp at hle;omega
      refine Sound.pure h (v:=.pointer (some ((⟨b,0,none⟩:Addr).add (kn * te.size)))) (.inl ?_) ?_ ?_ hd trivial
      ·simp [execOp,ho,Instr.indexAt,hi,asIntOf,run_underlying hde,hv,hlt,hte.run_size]
      ·rw [add_none]
       simp only [RepV,Int.toNat_natCast]
       refine⟨by omega,⟨_,rfl⟩,fun _=>⟨b,_,_,hgn,?_,by omega⟩⟩
       rw [hsz,h2];simp
      ·intro m hm
       simp only [R.ofIf,V.names] at hm nx
       exact nx m hm
     ·cases hs
    ·cases hs
   ·cases hs
  ·rename_i m e s1 s2 s3 s4 et
   obtain⟨d,hde,hk⟩:=(hT t _ et).desc
   simp only [TKOK] at hk
   subst hk
   split at hs
   ·rename_i te ee
    have hte:=hT e te ee
    cases ha:addrOff (σ.val gl x) (k.toNat * te.size) with
    | none=>rw [ha] at hs;cases hs
    | some y =>
     rw [ha] at hs
     simp only [Option.map_some,Option.some.injEq] at hs
     subst hs
     obtain⟨h0,h1⟩:=hc
     obtain⟨ad,hv,hy,hny⟩:=addrOff_rep ha hx
     refine Sound.pure h (v:=.pointer (some (ad.add (k.toNat * te.size)))) (.inl ?_) hy (by rw [hny];exact nx) hd trivial
     simp [execOp,ho,Instr.indexAt,hi,asIntOf,run_underlying hde,hv,h0,h1,hte.run_size,Instr.sureAddr]
   ·cases hs
  ·cases hs
 ·cases hs
theorem rdV_rep {agg:Bool} {n:Nat} {cs:List V} {x:V} {vs:List Value} (h:rdV agg n cs=some x) (hr:RepVL E cs vs) :
  (agg=true→n≤vs.length∧RepV E x (.agg (vs.take n).toArray))∧(agg=false→∃ v,vs[0]? = some v∧RepV E x v) ∧ ∀ m∈x.names,m∈namesL cs:=by
 unfold rdV at h
 split at h
 ·rename_i ha
  split at h
  ·rename_i hl
   cases h
   have hlen:=hr.len
   refine⟨fun _=>⟨by omega,mkAgg_rep (by simp;omega) (hr.take n)⟩,by simp [ha],?_⟩
   intro m hm
   have:=mkAgg_names _ m hm
   obtain⟨c,hc,hmc⟩:=mem_namesL.1 this
   exact mem_namesL.2 ⟨c,List.mem_of_mem_take hc,hmc⟩
  ·cases h
 ·rename_i ha
  split at h
  ·rename_i c cs'
   cases h
   cases vs with
   | nil=>simp [RepVL] at hr
   | cons v vs =>
    simp only [RepVL] at hr
    exact⟨by simp [ha],fun _=>⟨v,rfl,hr.1⟩,fun m hm=>by simp [namesL,hm]⟩
  ·cases h
theorem sound_load (h:Ga C E σ a w) (hg:GOK gl C.E0.H) (hd:∀ d,o.dst=some d→d<C.nt) (hT:TOK P T) {t:Nat} {x:Operand} (ho:o.op = .load t x) {r:R} (hc:r.cond)
  (hs:stepOp T note (σ.val gl) (getO σ.objs) o.dst (.load t x)=some r):Sound P C E σ a w o r:=by
 have hx:=val_rep h hg x
 simp only [stepOp] at hs
 split at hs
 ·rename_i ti et
  have hti:=hT t ti et
  unfold stepLoad at hs
  split at hs
  ·rename_i cs ex
   rw [ex] at hx
   simp only [RepV,RepP] at hx
   obtain⟨b,off,hv,hr⟩:=hx
   unfold rdP at hs
   split at hs
   ·rename_i ha
    simp only [Option.some.injEq] at hs
    subst hs
    have hc:ti.size≤cs.length:=hc
    have hlen:=hr.len
    by_cases hne:E.H b=[]
    ·rw [hne] at hr hlen
     simp only [List.drop_nil,List.length_nil,Nat.le_zero_eq] at hlen
     have h0:ti.size=0:=by omega
     have hcs:cs=[]:=List.eq_nil_of_length_eq_zero hlen
     subst hcs
     have hll:(loadCells ⟨b,off,none⟩ 0).run P w = .ok #[] w:=by simp [loadCells,loadCellsFrom]
     refine Sound.pure h (v:=.agg #[]) (.inl ?_) ?_ (by simp [V.names]) hd trivial
     ·simp [execOp,ho,hv,Instr.loadAt,Instr.sureAddr,loadVar,hti.run_agg,ha,hti.run_size,h0,hll]
     ·simp only [RepV,RepP];exact⟨[],rfl,by simp,by simp [RepL]⟩
    ·obtain⟨c,T',fr,hcell,hpre,_⟩:=h.heap b hne
     have hl2:((E.H b).drop off).length≤c.size-off:=by
      have:=hpre.1
      simp at this ⊢;omega
     have hle:off+ti.size≤c.size∨ti.size=0:=by
      by_cases h0:ti.size=0
      ·exact .inr h0
      ·left;omega
     rcases hle with hle|h0
     ·refine Sound.pure h (v:=.agg ((c.toList.drop off).take ti.size).toArray) (.inl ?_) ?_ (by simp [V.names]) hd trivial
      ·simp [execOp,ho,hv,run_loadAt_agg hti ha hcell hle]
      ·simp only [RepV,RepP]
       refine⟨_,rfl,by simp;omega,?_⟩
       refine RepL.take _ (hr.msk (hpre.drop off))
     ·have hll:(loadCells ⟨b,off,none⟩ 0).run P w = .ok #[] w:=by simp [loadCells,loadCellsFrom]
      refine Sound.pure h (v:=.agg #[]) (.inl ?_) ?_ (by simp [V.names]) hd trivial
      ·simp [execOp,ho,hv,Instr.loadAt,Instr.sureAddr,loadVar,hti.run_agg,ha,hti.run_size,h0,hll]
      ·simp only [RepV,RepP];exact⟨[],rfl,by simp [h0],by simp [h0,RepL]⟩
   ·rename_i ha
    have ha:ti.isAgg=false:=by simpa using ha
    split at hs
    ·rename_i c cs'
     simp only [Option.some.injEq] at hs
     subst hs
     cases hdr:(E.H b).drop off with
     | nil=>rw [hdr] at hr;simp [RepL] at hr
     | cons v vs =>
      rw [hdr] at hr
      simp only [RepL] at hr
      have hne:E.H b≠[]:=by intro e;rw [e] at hdr;simp at hdr
      obtain⟨cc,T',fr,hcell,hpre,_⟩:=h.heap b hne
      have hget:cc[off]? = some v:=by
       have h1:(E.H b)[off]? = some v:=by
        have:=congrArg (fun l=>l[0]?) hdr
        simpa using this
       rw [← Array.getElem?_toList]
       exact hpre.2 off v h1 (not_hole hr.1)
      refine Sound.pure h (v:=v) (.inl ?_) (by simpa [RepV] using hr.1) (by simp [V.names]) hd trivial
      simp [execOp,ho,hv,run_loadAt_one hti ha hcell hget]
    ·cases hs
  ·rename_i n off ex
   rw [ex] at hx
   split at hs
   ·rename_i cs eo
    cases hrd:rdV ti.isAgg ti.size (cs.drop off) with
    | none=>rw [hrd] at hs;cases hs
    | some y =>
     rw [hrd] at hs
     simp only [Option.map_some,Option.some.injEq] at hs
     subst hs
     obtain⟨b,c,T',hgn,hcell,hsz,hr,_⟩:=h.objs n _ eo
     simp only [RepV] at hx
     obtain⟨b',hgn',hv⟩:=hx
     rw [hgn] at hgn'
     cases hgn'
     obtain⟨h1,h2,h3⟩:=rdV_rep hrd (hr.drop off)
     have hnm:∀ m∈y.names,m∈σ.used:=by
      intro m hm
      obtain⟨c',hc',hm'⟩:=mem_namesL.1 (h3 m hm)
      exact (h.usedO n _ eo).2 m (mem_namesL.2 ⟨c',List.mem_of_mem_drop hc',hm'⟩)
     cases hagg:ti.isAgg with
     | true =>
      obtain⟨hle,hy⟩:=h1 hagg
      by_cases h0:off+ti.size≤c.size
      ·refine Sound.pure h (.inl ?_) hy hnm hd trivial
       simp [execOp,ho,hv,run_loadAt_agg hti hagg hcell h0]
      ·have h00:ti.size=0:=by simp at hle;omega
       have hll:(loadCells ⟨b,off,none⟩ 0).run P w = .ok #[] w:=by simp [loadCells,loadCellsFrom]
       rw [h00] at hy
       refine Sound.pure h (.inl ?_) hy hnm hd trivial
       simp [execOp,ho,hv,Instr.loadAt,Instr.sureAddr,loadVar,hti.run_agg,hagg,hti.run_size,h00,hll]
     | false =>
      obtain⟨v,hv0,hy⟩:=h2 hagg
      have hget:c[off]? = some v:=by simpa using hv0
      refine Sound.pure h (.inl ?_) hy hnm hd trivial
      simp [execOp,ho,hv,run_loadAt_one hti hagg hcell hget]
   ·cases hs
  ·rename_i n ver i off ex
   rw [ex] at hx
   split at hs
   ·rename_i ver' sz ty es eo
    split at hs
    ·rename_i e ee
     cases hrd:rdV ti.isAgg ti.size (e.drop off) with
     | none=>rw [hrd] at hs;cases hs
     | some y =>
      rw [hrd] at hs
      simp only [Option.map_some,Option.some.injEq] at hs
      subst hs
      have hc:ver=ver':=hc
      subst hc
      have hob:=h.objs n _ eo
      obtain⟨hver,hsz,hlen,_⟩:=id hob
      obtain⟨ad,cap,hgn,hlc,hlm,hh⟩:=arr_header hob
      simp only [RepV] at hx
      obtain⟨_,_,hx⟩:=hx
      obtain⟨b',L,cap',hgn',hv,hlt⟩:=hx hver.symm
      rw [hgn] at hgn'
      cases hgn'
      rcases hh with ⟨e0,_⟩|⟨b,c,hb,hcell,hcs,hr,_⟩
      ·cases e0
      cases hb
      have hi:i<es.length:=by rw [List.getElem?_eq_some_iff] at ee;exact ee.1
      have hre:=hr.get hlen i hi
      have hge:es.getD i []=e:=by simp [List.getD,ee]
      rw [hge] at hre
      have hre:=hre.drop off
      rw [List.drop_drop] at hre
      obtain⟨h1,h2,h3⟩:=rdV_rep hrd hre
      have hnm:∀ m∈y.names,m∈σ.used:=by
       intro m hm
       obtain⟨c',hc',hm'⟩:=mem_namesL.1 (h3 m hm)
       exact (h.usedO n _ eo).2 m (mem_namesE.2 ⟨e,List.mem_of_getElem? ee,mem_namesL.2 ⟨c',List.mem_of_mem_drop hc',hm'⟩⟩)
      rw [hsz] at hv
      cases hagg:ti.isAgg with
      | true =>
       obtain⟨hle,hy⟩:=h1 hagg
       by_cases h0:i * sz+off+ti.size≤c.size
       ·refine Sound.pure h (.inl ?_) hy hnm hd trivial
        simp [execOp,ho,hv,run_loadAt_agg hti hagg hcell h0]
       ·have h00:ti.size=0:=by simp at hle;omega
        have hll:(loadCells ⟨b',i * sz+off,none⟩ 0).run P w = .ok #[] w:=by simp [loadCells,loadCellsFrom]
        rw [h00] at hy
        refine Sound.pure h (.inl ?_) hy hnm hd trivial
        simp [execOp,ho,hv,Instr.loadAt,Instr.sureAddr,loadVar,hti.run_agg,hagg,hti.run_size,h00,hll]
      | false =>
       obtain⟨v,hv0,hy⟩:=h2 hagg
       have hget:c[i * sz+off]? = some v:=by simpa using hv0
       refine Sound.pure h (.inl ?_) hy hnm hd trivial
       simp [execOp,ho,hv,run_loadAt_one hti hagg hcell hget]
    ·cases hs
   ·cases hs
  ·cases hs
 ·cases hs
end
section
variable {P:Program} {C:Ctx} {E:Env} {σ:St} {a:Act} {w:World} {gl:Nat→Option (List PV)} {o:Oper} {T:Nat→Option TI} {note:Note}
theorem arr_view {n ver len sz ty:Nat} {es:List (List V)} (hob:ObOK E w n (.arr ver sz ty es)) {v:Value} (hx:RepV E (.arr n ver len) v) :
  ∃ ad cap,E.g n = .slice ad es.length cap∧v = .slice ad len cap∧len≤es.length∧es.length≤cap∧es.length≤maxLen:=by
 obtain⟨hver,_⟩:=id hob
 obtain⟨ad,cap,hgn,hlc,hlm,_⟩:=arr_header hob
 simp only [RepV] at hx
 obtain⟨_,_,hx⟩:=hx
 obtain⟨ad',L,cap',hgn',hv,hle⟩:=hx hver.symm
 rw [hgn] at hgn'
 cases hgn'
 exact⟨ad,cap,hgn,hv,hle,hlc,hlm⟩
theorem sound_len (h:Ga C E σ a w) (hg:GOK gl C.E0.H) (hd:∀ d,o.dst=some d→d<C.nt) (hT:TOK P T) {args:Array Operand} {argTypes:Array Nat} (ho:o.op = .call { callee:=.builtin .len,args,argTypes }) {r:R} (hc:r.cond)
  (hs:stepOp T note (σ.val gl) (getO σ.objs) o.dst (.call { callee:=.builtin .len,args,argTypes })=some r):Sound P C E σ a w o r:=by
 simp only [stepOp] at hs
 split at hs
 ·rename_i t x et ex
  have hat:argTypes = #[t]:=by rw [← Array.toArray_toList (xs:=argTypes),et]
  have hax:args = #[x]:=by rw [← Array.toArray_toList (xs:=args),ex]
  subst hat hax
  have hx:=val_rep h hg x
  split at hs
  ·rename_i e s1 s2 s3 s4 et
   obtain⟨d,hde,hk⟩:=(hT t _ et).desc
   simp only [TKOK] at hk
   subst hk
   have hrun:∀ ad n c,a.eval x = .slice ad n c→OpRes P o a w (.int .i64 n) w:=by
    intro ad n c hv
    refine .inl ?_
    simp [execOp,ho,resolve,invoke,builtin,Builtin.len_,hv,run_underlying hde,goInt]
   unfold stepLen at hs
   split at hs
   ·rename_i es ex
    rw [ex] at hx
    simp only [RepV,RepP] at hx
    obtain⟨ad,cap,hv,_,hm,_⟩:=hx
    cases hs
    exact sound_int h hd (hrun _ _ _ hv) hm
   ·rename_i ex
    rw [ex] at hx
    simp only [RepV,RepP] at hx
    cases hs
    exact sound_int h hd (hrun _ _ _ hx) trivial
   ·rename_i n ver len ex
    rw [ex] at hx
    split at hs
    ·rename_i ver' sz ty es eo
     cases hs
     have hc:ver=ver':=hc
     subst hc
     obtain⟨ad,cap,hgn,hv,hle,_,hm⟩:=arr_view (h.objs n _ eo) hx
     exact sound_int h hd (hrun _ _ _ hv) hm
    ·cases hs
   ·cases hs
  ·rename_i k v len s1 s2 s3 s4 et
   obtain⟨d,hde,hk⟩:=(hT t _ et).desc
   simp only [TKOK] at hk
   obtain⟨rfl,_⟩:=hk
   unfold stepLenM at hs
   split at hs
   ·rename_i n ex
    rw [ex] at hx
    simp only [RepV] at hx
    obtain⟨b,hgn,hv⟩:=hx
    split at hs
    ·rename_i es eo
     cases hs
     obtain⟨b',ms,ck,hgn',hcell,_,hents⟩:=h.objs n _ eo
     rw [hgn] at hgn'
     cases hgn'
     refine sound_int h hd (.inl ?_) trivial
     have hl:=hents.length
     have hget:(getObj b).run P w = .ok (.map ms ck) w:=by simp [getObj,Sem.run,hcell]
     simp [execOp,ho,resolve,invoke,builtin,Builtin.len_,hv,run_underlying hde,goInt,hget,hl]
    ·cases hs
   ·cases hs
  ·cases hs
 ·cases hs
theorem run_slice_lo {t e:Nat} {te:TI} (hte:TIOK P e te) (hde:P.underlying t=some (.slice e)) {ad:Option Addr} {len cap l:Nat} (hl:l≤len) :
  (Instr.sliceAt t (.slice ad len cap) (some (.int .i64 l)) none none).run P w = .ok (.slice (if cap=l then ad else ad.map (·.add (l * te.size))) (len-l) (cap-l)) w:=by
 simp [Instr.sliceAt,run_underlying hde,Instr.slice,Instr.sliceBounds,Instr.sliceBound,asIntOf,hl,hte.run_size]
theorem run_slice_hi {t e:Nat} {te:TI} (hte:TIOK P e te) (hde:P.underlying t=some (.slice e)) {ad:Option Addr} {len cap k:Nat} (hk:k≤cap) :
  (Instr.sliceAt t (.slice ad len cap) none (some (.int .i64 k)) none).run P w = .ok (.slice ad k cap) w:=by
 have hm:ad.map (fun x=>x.add 0)=ad:=by cases ad<;>simp [Addr.add]
 simp [Instr.sliceAt,run_underlying hde,Instr.slice,Instr.sliceBounds,Instr.sliceBound,asIntOf,hk,hte.run_size,hm]
theorem run_slice_full {t e:Nat} {te:TI} (hte:TIOK P e te) (hde:P.underlying t=some (.slice e)) {ad:Option Addr} {len cap:Nat} (hk:len≤cap) :
  (Instr.sliceAt t (.slice ad len cap) none (some (.int .i64 len)) (some (.int .i64 len))).run P w = .ok (.slice ad len len) w:=by
 have hm:ad.map (fun x=>x.add 0)=ad:=by cases ad<;>simp [Addr.add]
 simp [Instr.sliceAt,run_underlying hde,Instr.slice,Instr.sliceBounds,Instr.sliceBound,asIntOf,hk,hte.run_size,hm]
theorem sound_slice (h:Ga C E σ a w) (hg:GOK gl C.E0.H) (hd:∀ d,o.dst=some d→d<C.nt) (hT:TOK P T) {t:Nat} {x:Operand} {lo hi mx:Option Operand} (ho:o.op = .slice t x lo hi mx) {r:R} (hc:r.cond)
  (hs:stepOp T note (σ.val gl) (getO σ.objs) o.dst (.slice t x lo hi mx)=some r):Sound P C E σ a w o r:=by
 have hx:=val_rep h hg x
 have nx:=val_names (gl:=gl) h x
 simp only [stepOp] at hs
 split at hs
 ·rename_i e s1 s2 s3 s4 et
  obtain⟨d,hde,hk⟩:=(hT t _ et).desc
  simp only [TKOK] at hk
  subst hk
  split at hs
  ·rename_i te ee
   have hte:=hT e te ee
   unfold stepSlice at hs
   split at hs
   ·rename_i es l ex el eh em
    rw [ex] at hx
    simp only [RepV,RepP] at hx
    obtain⟨ad,cap,hv,hlc,hm,hr⟩:=hx
    cases hs
    obtain⟨h0,h1,h2⟩:=hc
    cases lo with
    | none=>cases el
    | some lo =>
     simp only [Option.map_some,Option.some.injEq] at el
     have hlo:=val_rep h hg lo
     rw [el] at hlo
     have hlo:=rep_int hlo
     cases hi with
     | some _=>cases eh
     | none =>
      cases mx with
      | some _=>cases em
      | none =>
       obtain⟨l,rfl⟩:=Int.eq_ofNat_of_zero_le h0
       have hll:l≤es.length:=by omega
       refine Sound.pure h (v:=.slice (if cap=l then ad else ad.map (·.add (l * te.size))) (es.length-l) (cap-l)) (.inl ?_) ?_ (by simp [R.ofIf,V.names]) hd trivial
       ·simp only [execOp,ho,Option.map_some,Option.map_none,hv,hlo]
        simp [run_slice_lo hte hde hll]
       ·simp only [RepV,RepP,Int.toNat_natCast,List.length_drop]
        refine⟨_,_,rfl,by omega,by omega,?_⟩
        rcases hr with rfl|⟨b,off,rfl,hr⟩
        ·simp
        ·by_cases he:l=es.length
         ·left;simp [he]
         ·right
          have hne:¬ cap=l:=by omega
          refine⟨b,off+l * te.size,?_,?_⟩
          ·simp [hne,add_none]
          ·rw [← List.drop_drop]
           exact hr.dropE h2 l
   ·rename_i es k ex el eh em
    rw [ex] at hx
    simp only [RepV,RepP] at hx
    obtain⟨ad,cap,hv,hlc,hm,hr⟩:=hx
    cases hs
    obtain⟨h0,h1⟩:=hc
    cases hi with
    | none=>cases eh
    | some hi =>
     simp only [Option.map_some,Option.some.injEq] at eh
     have hhi:=val_rep h hg hi
     rw [eh] at hhi
     have hhi:=rep_int hhi
     cases lo with
     | some _=>cases el
     | none =>
      cases mx with
      | some _=>cases em
      | none =>
       obtain⟨k,rfl⟩:=Int.eq_ofNat_of_zero_le h0
       have hkk:k≤es.length:=by omega
       refine Sound.pure h (v:=.slice ad k cap) (.inl ?_) ?_ (by simp [R.ofIf,V.names]) hd trivial
       ·simp only [execOp,ho,Option.map_some,Option.map_none,hv,hhi]
        simp [run_slice_hi hte hde (show k≤cap by omega)]
       ·simp only [RepV,RepP,Int.toNat_natCast]
        have hkl:(es.take k).length=k:=by simp;omega
        refine⟨_,_,by rw [hkl],by omega,by omega,?_⟩
        rcases hr with rfl|⟨b,off,rfl,hr⟩
        ·simp
        ·exact .inr ⟨b,off,rfl,hr.takeE k⟩
   ·rename_i n ver len k ex el eh em
    rw [ex] at hx nx
    split at hs
    ·rename_i ver' sz ty es eo
     cases hs
     obtain⟨rfl,h0,h1⟩:=hc
     have hob:=h.objs n _ eo
     obtain⟨hver,_⟩:=id hob
     obtain⟨ad,cap,hgn,hv,hle,hlc,hm⟩:=arr_view hob hx
     cases hi with
     | none=>cases eh
     | some hi =>
      simp only [Option.map_some,Option.some.injEq] at eh
      have hhi:=val_rep h hg hi
      rw [eh] at hhi
      have hhi:=rep_int hhi
      cases lo with
      | some _=>cases el
      | none =>
       cases mx with
       | some _=>cases em
       | none =>
        obtain⟨k,rfl⟩:=Int.eq_ofNat_of_zero_le h0
        have hkk:k≤len:=by omega
        refine Sound.pure h (v:=.slice ad k cap) (.inl ?_) ?_ ?_ hd trivial
        ·simp only [execOp,ho,Option.map_some,Option.map_none,hv,hhi]
         simp [run_slice_hi hte hde (show k≤cap by omega)]
        ·simp only [RepV,Int.toNat_natCast]
         exact⟨by omega,⟨_,_,_,rfl⟩,fun _=>⟨ad,_,cap,hgn,rfl,by omega⟩⟩
        ·intro m hm
         simp only [R.ofIf,V.names] at hm nx
         exact nx m hm
    ·cases hs
   ·rename_i es k k2 ex el eh em
    rw [ex] at hx
    simp only [RepV,RepP] at hx
    obtain⟨ad,cap,hv,hlc,hm,hr⟩:=hx
    cases hs
    obtain⟨h0,h1⟩:=hc
    subst h0 h1
    cases hi with
    | none=>cases eh
    | some hi =>
     simp only [Option.map_some,Option.some.injEq] at eh
     have hhi:=val_rep h hg hi
     rw [eh] at hhi
     have hhi:=rep_int hhi
     cases lo with
     | some _=>cases el
     | none =>
      cases mx with
      | none=>cases em
      | some mx =>
       simp only [Option.map_some,Option.some.injEq] at em
       have hmx:=val_rep h hg mx
       rw [em] at hmx
       have hmx:=rep_int hmx
       refine Sound.pure h (v:=.slice ad es.length es.length) (.inl ?_) ?_ (by simp [R.ofIf,V.names]) hd trivial
       ·simp only [execOp,ho,Option.map_some,Option.map_none,hv,hhi,hmx]
        simp [run_slice_full hte hde hlc]
       ·simp only [RepV]
        exact⟨ad,rfl,hm,hr⟩
   ·cases hs
  ·cases hs
 ·cases hs
end
end Go.Lg
