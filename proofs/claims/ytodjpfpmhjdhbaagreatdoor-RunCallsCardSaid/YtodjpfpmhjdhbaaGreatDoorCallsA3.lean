/- Part of the proof: the logic of contracts, proved sound for the model; no conditions. -/
import Derived.Test.YtodjpfpmhjdhbaaGreatDoorCallsA2
import Derived.LoopN
set_option linter.unusedVariables false
set_option linter.unusedSimpArgs false
set_option linter.unusedSectionVars false
/- One operation of a region: what it reads, and that nothing else matters. -/
namespace Go.Lg

/-- whether an operation looks into objects -/
def looksIn : Op → Bool
  | .load _ _ => true
  | .store _ _ _ => true
  | .indexAddr _ _ _ => true
  | .slice _ _ _ _ _ => true
  | .call _ => true
  | .mapUpdate _ _ _ _ => true
  | _ => false
def rdN (val : Operand → V) (op : Op) : List Nat := bif looksIn op then namesL (op.operands.toList.map val) else []

theorem mem_rdN {val : Operand → V} {op : Op} {x : Operand} (hl : looksIn op = true) (hx : x ∈ op.operands) {n : Nat} (hn : n ∈ (val x).names) : n ∈ rdN val op := by
  unfold rdN
  rw [hl]
  exact mem_namesL.2 ⟨val x, List.mem_map_of_mem (by simpa using hx), hn⟩

theorem stepLoad_congr {ti : TI} {ob ob' : Nat → Option Ob} {x : V} (h : ∀ n ∈ x.names, ob n = ob' n) : stepLoad ti ob x = stepLoad ti ob' x := by
  unfold stepLoad
  split
  · rfl
  · rw [h _ (by simp [V.names])]
  · rw [h _ (by simp [V.names])]
  · rfl
theorem stepStore_congr {ti : TI} {ob ob' : Nat → Option Ob} {x y : V} (h : ∀ n ∈ x.names, ob n = ob' n) : stepStore ti ob x y = stepStore ti ob' x y := by
  unfold stepStore
  split
  · rfl
  · split
    · rw [h _ (by simp [V.names])]
    · rw [h _ (by simp [V.names])]
    · rfl
theorem stepIndex_congr {T : Nat → Option TI} {ob ob' : Nat → Option Ob} {t : Nat} {x i : V} (h : ∀ n ∈ x.names, ob n = ob' n) : stepIndex T ob t x i = stepIndex T ob' t x i := by
  unfold stepIndex
  split
  · split
    · split
      · split
        · rfl
        · rw [h _ (by simp [V.names])]
        · rfl
      · rfl
    · rfl
    · rfl
  · rfl
theorem stepLen_congr {ob ob' : Nat → Option Ob} {x : V} (h : ∀ n ∈ x.names, ob n = ob' n) : stepLen ob x = stepLen ob' x := by
  unfold stepLen
  split
  · rfl
  · rfl
  · rw [h _ (by simp [V.names])]
  · rfl
theorem stepAppend_congr {e : Nat} {te : TI} {ob ob' : Nat → Option Ob} {note : Note} {xo : Operand} {x y : V} (h : ∀ n ∈ x.names, ob n = ob' n) : stepAppend e te ob note xo x y = stepAppend e te ob' note xo x y := by
  unfold stepAppend
  split
  · rw [h _ (by simp [V.names])]
  · rfl
  · rfl
theorem stepSlice_congr {te : TI} {ob ob' : Nat → Option Ob} {x : V} {lo hi mx : Option V} (h : ∀ n ∈ x.names, ob n = ob' n) : stepSlice te ob x lo hi mx = stepSlice te ob' x lo hi mx := by
  unfold stepSlice
  split
  · rfl
  · rfl
  · rw [h _ (by simp [V.names])]
  · rfl
  · rfl

theorem stepUpdate_congr {ob ob' : Nat → Option Ob} {m k v : V} (h : ∀ n ∈ m.names, ob n = ob' n) : stepUpdate ob m k v = stepUpdate ob' m k v := by
  unfold stepUpdate
  split
  · rename_i n ks cs
    rw [h n (by simp [V.names])]
  · rfl

theorem stepOp_congr {T : Nat → Option TI} {note : Note} {val val' : Operand → V} {ob ob' : Nat → Option Ob} {dst : Option Nat} {op : Op} (hv : ∀ x ∈ op.operands, val x = val' x) (ho : ∀ n ∈ rdN val op, ob n = ob' n) :
    stepOp T note val ob dst op = stepOp T note val' ob' dst op := by
  have hn : looksIn op = true → ∀ x ∈ op.operands, ∀ n ∈ (val x).names, ob n = ob' n := fun hl x hx n hn => ho n (mem_rdN hl hx hn)
  cases op with
  | move x => simp only [stepOp, stepMove]; rw [hv x (by simp [Op.operands])]
  | assign x => simp only [stepOp, stepMove]; rw [hv x (by simp [Op.operands])]
  | pick c x y => simp only [stepOp]; rw [hv c (by simp [Op.operands]), hv x (by simp [Op.operands]), hv y (by simp [Op.operands])]
  | alloc t => simp only [stepOp]
  | box t x => simp only [stepOp]; rw [hv x (by simp [Op.operands])]
  | build t parts =>
    simp only [stepOp]
    have : (parts.toList.map fun p => (p.1, val p.2)) = (parts.toList.map fun p => (p.1, val' p.2)) := List.map_congr_left fun p hp => by
      rw [hv p.2 (by simp only [Op.operands, List.mem_toArray, List.mem_map]; exact ⟨p, hp, rfl⟩)]
    rw [this]
  | buildSlice t len parts =>
    simp only [stepOp]
    have : (parts.toList.map fun p => (p.1, val p.2)) = (parts.toList.map fun p => (p.1, val' p.2)) := List.map_congr_left fun p hp => by
      rw [hv p.2 (by simp only [Op.operands, List.mem_toArray, List.mem_map]; exact ⟨p, hp, rfl⟩)]
    rw [this]
  | typeAssert x t0 t b =>
    cases b with
    | true => simp only [stepOp]; rw [hv x (by simp [Op.operands])]
    | false => simp only [stepOp]
  | makeFunc fn first caps =>
    cases fn with
    | func f =>
      simp only [stepOp]
      have : caps.toList.map val = caps.toList.map val' := List.map_congr_left fun x hx => hv x (by simp only [Op.operands, Array.mem_append]; right; simpa using hx)
      rw [this]
    | _ => simp only [stepOp]
  | makeMap t r =>
    cases r with
    | none => simp only [stepOp]
    | some _ => simp only [stepOp]
  | mapUpdate t m k v =>
    have h1 := hv m (by simp [Op.operands])
    have h2 := hv k (by simp [Op.operands])
    have h3 := hv v (by simp [Op.operands])
    simp only [stepOp, ← h1, ← h2, ← h3]
    split
    · exact stepUpdate_congr (hn rfl m (by simp [Op.operands]))
    · rfl
  | load t x =>
    have h1 := hv x (by simp [Op.operands])
    simp only [stepOp, ← h1]
    split
    · exact stepLoad_congr (hn rfl x (by simp [Op.operands]))
    · rfl
  | store t x y =>
    have h1 := hv x (by simp [Op.operands])
    have h2 := hv y (by simp [Op.operands])
    simp only [stepOp, ← h1, ← h2]
    split
    · exact stepStore_congr (hn rfl x (by simp [Op.operands]))
    · rfl
  | nilCheck x => simp only [stepOp]; rw [hv x (by simp [Op.operands])]
  | binOp b t x y t' => simp only [stepOp]; rw [hv x (by simp [Op.operands]), hv y (by simp [Op.operands])]
  | unOp u t x =>
    cases u
    case not => simp only [stepOp]; rw [hv x (by simp [Op.operands])]
    all_goals simp only [stepOp]
  | makeInterface t x => simp only [stepOp]; rw [hv x (by simp [Op.operands])]
  | fieldAddr t x f => simp only [stepOp]; rw [hv x (by simp [Op.operands])]
  | indexAddr t x i =>
    have h1 := hv x (by simp [Op.operands])
    have h2 := hv i (by simp [Op.operands])
    simp only [stepOp, ← h1, ← h2]
    exact stepIndex_congr (hn rfl x (by simp [Op.operands]))
  | extract x i => simp only [stepOp]; rw [hv x (by simp [Op.operands])]
  | slice t x lo hi mx =>
    have h1 := hv x (by simp [Op.operands])
    have hl : lo.map val = lo.map val' := by
      cases lo with
      | none => rfl
      | some y => simp [hv y (by simp [Op.operands])]
    have hh : hi.map val = hi.map val' := by
      cases hi with
      | none => rfl
      | some y => simp [hv y (by simp [Op.operands])]
    have hm : mx.map val = mx.map val' := by
      cases mx with
      | none => rfl
      | some y => simp [hv y (by simp [Op.operands])]
    simp only [stepOp, ← h1, ← hl, ← hh, ← hm]
    split
    · split
      · exact stepSlice_congr (hn rfl x (by simp [Op.operands]))
      · rfl
    · rfl
  | call c =>
    obtain ⟨callee, args, argTypes⟩ := c
    cases callee with
    | builtin b =>
      cases b
      case len =>
        simp only [stepOp]
        split
        · rename_i t x et ex
          have hx : x ∈ (Op.call { callee := .builtin .len, args, argTypes }).operands := by
            simp only [Op.operands, Call.operands, Array.mem_append]
            right
            rw [← Array.mem_toList_iff, ex]
            simp
          have h1 := hv x hx
          simp only [← h1]
          split
          · exact stepLen_congr (hn rfl x hx)
          · rfl
        · rfl
      case append =>
        simp only [stepOp]
        split
        · rename_i t t' x y et ex
          have hx : x ∈ (Op.call { callee := .builtin .append, args, argTypes }).operands := by
            simp only [Op.operands, Call.operands, Array.mem_append]
            right
            rw [← Array.mem_toList_iff, ex]
            simp
          have hy : y ∈ (Op.call { callee := .builtin .append, args, argTypes }).operands := by
            simp only [Op.operands, Call.operands, Array.mem_append]
            right
            rw [← Array.mem_toList_iff, ex]
            simp
          have h1 := hv x hx
          have h2 := hv y hy
          simp only [← h1, ← h2]
          split
          · split
            · split
              · exact stepAppend_congr (hn rfl x hx)
              · rfl
            · rfl
          · rfl
        · rfl
      case max =>
        simp only [stepOp]
        split
        · rename_i x y ex
          have hx : x ∈ (Op.call { callee := .builtin .max, args, argTypes }).operands := by
            simp only [Op.operands, Call.operands, Array.mem_append]
            right
            rw [← Array.mem_toList_iff, ex]
            simp
          have hy : y ∈ (Op.call { callee := .builtin .max, args, argTypes }).operands := by
            simp only [Op.operands, Call.operands, Array.mem_append]
            right
            rw [← Array.mem_toList_iff, ex]
            simp
          rw [hv x hx, hv y hy]
        · rfl
      all_goals simp only [stepOp]
    | value f => simp only [stepOp]
    | invoke r m => simp only [stepOp]
  | _ => simp only [stepOp]

def calleeOf (val : Operand → V) : Op → Option (Nat × List V)
  | .call { callee := .value f, args, .. } => match val f with
    | .fn g caps => some (g, args.toList.map val ++ caps)
    | _ => none
  | _ => none
theorem calleeOf_congr {val val' : Operand → V} {op : Op} (hv : ∀ x ∈ op.operands, val x = val' x) : calleeOf val op = calleeOf val' op := by
  unfold calleeOf
  split
  · rename_i f args at'
    rw [hv f (by simp [Op.operands, Call.operands])]
    split
    · have : args.toList.map val = args.toList.map val' := List.map_congr_left fun x hx => hv x (by simp only [Op.operands, Call.operands, Array.mem_append]; right; simpa using hx)
      rw [this]
    · rfl
  · rfl

/-- What is fixed for one function: its program, what is known of types, the notes on its slots. -/
structure Env1 where
  P : Program
  T : Nat → Option TI
  gl : Nat → Option (List PV)
  nm : List (Nat × Note)
  nt : Nat
  given : List Nat
  ok : TOK P T
  mix : P.follows .mixedOrders = true
def noteOf : List (Nat × Note) → Nat → Note
  | [], _ => .none
  | (k, x) :: r, t => if k = t then x else noteOf r t
def noteD (l : List (Nat × Note)) (dst : Option Nat) : Note := match dst with
  | some d => noteOf l d
  | none => .none
def Env1.note (X : Env1) (dst : Option Nat) : Note := noteD X.nm dst

def R.eff (r : R) (rd : List Nat) : Eff :=
  ⟨r.out, match r.wr with | some (n, o) => [(n, some o)] | none => [], match r.wr, r.new with | some (n, _), true => [n] | _, _ => [], rd⟩
theorem app_eff (σ : St) (dst : Option Nat) (r : R) (rd : List Nat) : σ.app dst r = σ.eff dst (r.eff rd) := by
  obtain ⟨c, f, x, wr, nw⟩ := r
  cases wr with
  | none => rfl
  | some p =>
    obtain ⟨n, o⟩ := p
    cases nw <;> rfl

/-- An operation can be run, and changes this. -/
inductive OpW (X : Env1) (o : Oper) (σ : St) : Eff → Prop where
  | step (r : R) (hs : stepOp X.T (X.note o.dst) (σ.val X.gl) (getO σ.objs) o.dst o.op = some r) (hc : r.cond) (hn : ∀ n ∈ (r.eff []).nw, n ∉ σ.used) : OpW X o σ (r.eff (rdN (σ.val X.gl) o.op))
  | call (f : Nat) (args : List V) (objs : List (Nat × Ob)) (x : V) (objs' : List (Nat × Ob)) (hf : calleeOf (σ.val X.gl) o.op = some (f, args)) (hac : AC X.P X.gl f args objs (.ret x) objs')
      (hsub : subO objs σ.objs) (hn : ∀ n ∈ (callEff x objs objs').nw, n ∉ σ.used) : OpW X o σ (callEff x objs objs')
  | callR (f : Nat) (args : List V) (ro objs : List (Nat × Ob)) (x : V) (objs' : List (Nat × Ob)) (hf : calleeOf (σ.val X.gl) o.op = some (f, args)) (hac : AC X.P X.gl f args (ro ++ objs) (.ret x) (ro ++ objs'))
      (hro : ∀ n ∈ keysO ro, n ∉ keysO objs ∧ n ∉ keysO objs') (hsub : subO (ro ++ objs) σ.objs) (hn : ∀ n ∈ (callEffR x ro objs objs').nw, n ∉ σ.used) : OpW X o σ (callEffR x ro objs objs')

theorem getO_append (a b : List (Nat × Ob)) (k : Nat) : getO (a ++ b) k = match getO a k with | some o => some o | none => getO b k := by
  induction a with
  | nil => rfl
  | cons p r ih =>
    obtain ⟨n, o⟩ := p
    simp only [List.cons_append, getO, ih]
    split <;> rfl
theorem Ga.congrO {C : Ctx} {E : Env} {s : List (Nat × V)} {O O' : List (Nat × Ob)} {u : List Nat} {a : Act} {w : World} (h : Ga C E ⟨s, O, u⟩ a w) (ho : ∀ n, getO O' n = getO O n) : Ga C E ⟨s, O', u⟩ a w :=
  ⟨h.slots, h.size, h.defers, h.heap, fun n o hn => h.objs n o (by rw [← ho]; exact hn), fun n m o o' hn hm => h.apart n m o o' (by rw [← ho]; exact hn) (by rw [← ho]; exact hm), h.usedS, fun n o hn => h.usedO n o (by rw [← ho]; exact hn), h.usedG, h.grown, h.rest, h.same, h.hle,
    fun n o b hn => h.own n o b (by rw [← ho]; exact hn), h.ext, fun n hn => ⟨(h.keep n hn).1, (ho n).trans (h.keep n hn).2.1, (h.keep n hn).2.2⟩⟩
theorem callEffR_nw {x : V} {ro objs objs' : List (Nat × Ob)} (hro : ∀ n ∈ keysO ro, n ∉ keysO objs ∧ n ∉ keysO objs') : (callEffR x ro objs objs').nw = (callEff x (ro ++ objs) (ro ++ objs')).nw := by
  have hnone : ∀ {l : List (Nat × Ob)} {n : Nat}, n ∉ keysO l → getO l n = none := by
    intro l n hn
    cases e : getO l n with
    | none => rfl
    | some o => exact absurd (getO_some_mem e) hn
  simp only [callEffR, callEff]
  have hk : keysO (ro ++ objs') = keysO ro ++ keysO objs' := by simp [keysO]
  rw [hk, List.filter_append]
  have h1 : (keysO ro).filter (fun n => (getO (ro ++ objs) n).isNone) = [] := by
    rw [List.filter_eq_nil_iff]
    intro n hn
    obtain ⟨o, ho⟩ := getO_of_mem hn
    rw [getO_append, ho]
    simp
  rw [h1, List.nil_append]
  refine List.filter_congr ?_
  intro n hn
  have : n ∉ keysO ro := fun h => (hro n h).2 hn
  rw [getO_append, hnone this]
theorem callEffR_get {l : List (Nat × Ob)} {ro objs objs' : List (Nat × Ob)} (hro : ∀ n ∈ keysO ro, n ∉ keysO objs ∧ n ∉ keysO objs') (hsub : subO (ro ++ objs) l) (n : Nat) : getO (updAll l (callWr objs objs')) n = getO (updAll l (callWr (ro ++ objs) (ro ++ objs'))) n := by
  have hnone : ∀ {l : List (Nat × Ob)} {n : Nat}, n ∉ keysO l → getO l n = none := by
    intro l n hn
    cases e : getO l n with
    | none => rfl
    | some o => exact absurd (getO_some_mem e) hn
  rw [getO_callWr, getO_callWr, getO_append]
  have hk : keysO (ro ++ objs) = keysO ro ++ keysO objs := by simp [keysO]
  by_cases h : n ∈ keysO ro
  · obtain ⟨o, ho⟩ := getO_of_mem h
    have h1 := hro n h
    rw [ho, hnone h1.2]
    simp only [h1.1, if_false]
    exact subO_spec hsub n o (by rw [getO_append, ho])
  · rw [hnone h]
    simp only [hk, List.mem_append, h, false_or]

/-- What a state must have in common with another one. -/
structure Alike (X : Env1) (o : Oper) (e : Eff) (σ σ' : St) : Prop where
  val : ∀ x ∈ o.op.operands, σ.val X.gl x = σ'.val X.gl x
  ob : ∀ n ∈ e.rd, getO σ.objs n = getO σ'.objs n
  new : ∀ n ∈ e.nw, n ∉ σ'.used

theorem OpW.congr {X : Env1} {o : Oper} {σ σ' : St} {e : Eff} (h : OpW X o σ e) (ha : Alike X o e σ σ') : OpW X o σ' e := by
  cases h with
  | step r hs hc hn =>
    have hrd : rdN (σ.val X.gl) o.op = rdN (σ'.val X.gl) o.op := by
      unfold rdN
      have : o.op.operands.toList.map (σ.val X.gl) = o.op.operands.toList.map (σ'.val X.gl) := List.map_congr_left fun x hx => ha.val x (by simpa using hx)
      rw [this]
    have hs' := hs
    rw [stepOp_congr ha.val ha.ob] at hs'
    rw [hrd]
    refine .step r hs' hc ?_
    intro n hn'
    exact ha.new n hn'
  | call f args objs x objs' hf hac hsub hn =>
    refine .call f args objs x objs' (by rw [← calleeOf_congr ha.val]; exact hf) hac ?_ ha.new
    exact subO_congr (fun n hn' => ha.ob n hn') hsub
  | callR f args ro objs x objs' hf hac hro hsub hn =>
    refine .callR f args ro objs x objs' (by rw [← calleeOf_congr ha.val]; exact hf) hac hro ?_ ha.new
    refine subO_congr (fun n hn' => ha.ob n ?_) hsub
    simpa [callEffR, keysO] using hn'

theorem call_enter {P : Program} {E : Env} {a : Act} {w : World} {o : Oper} {gl : Nat → Option (List PV)} {σ : St} {C : Ctx} (h : Ga C E σ a w) (hg : GOK gl C.E0.H) {f : Nat} {args : List V} (hf : calleeOf (σ.val gl) o.op = some (f, args)) (hdir : Direct P f) :
    ∃ vs : List Value, vs.length = args.length ∧ RepVL E args vs ∧ (execOp a.eval o).run P w = .ok (.enter f vs.toArray) w ∧ ∀ n ∈ namesL args, n ∈ σ.used := by
  unfold calleeOf at hf
  split at hf
  · rename_i fo as ats ho
    split at hf
    · rename_i g caps ev
      cases hf
      have hv := val_rep h hg fo
      rw [ev] at hv
      simp only [RepV] at hv
      obtain ⟨cs, hv, hcl, hcr⟩ := hv
      obtain ⟨fn, hfn, hname, hbody⟩ := hdir
      have hargs : RepVL E (as.toList.map (σ.val gl)) (as.toList.map a.eval) := by
        have : ∀ l : List Operand, RepVL E (l.map (σ.val gl)) (l.map a.eval) := by
          intro l
          induction l with
          | nil => simp [RepVL]
          | cons x l ih => simp only [List.map_cons, RepVL]; exact ⟨val_rep h hg x, ih⟩
        exact this _
      have hnm : ∀ n ∈ namesL (as.toList.map (σ.val gl) ++ caps), n ∈ σ.used := by
        intro n hn
        obtain ⟨c, hc, hn⟩ := mem_namesL.1 hn
        rcases List.mem_append.1 hc with hc | hc
        · obtain ⟨x, _, rfl⟩ := List.mem_map.1 hc
          exact val_names h x n hn
        · refine val_names (gl := gl) h fo n ?_
          rw [ev]
          simp only [V.names]
          exact mem_namesL.2 ⟨c, hc, hn⟩
      refine ⟨as.toList.map a.eval ++ cs, by simp [hcl], RepVL.append (by simp) hargs hcr, ?_, hnm⟩
      have hb : ¬ fn.body = none := by intro e; rw [e] at hbody; cases hbody
      have hname' : ¬ fn.name = "runtime.NumGoroutine" := by simpa using hname
      simp [execOp, ho, resolve, hv, Deferred.ofValue, invoke, callFunc, hfn, hname', hb]
    · cases hf
  · cases hf

theorem ment_used {C : Ctx} {E : Env} {σ : St} {a : Act} {w : World} (h : Ga C E σ a w) {args : List V} {objs : List (Nat × Ob)} (hn : ∀ n ∈ namesL args, n ∈ σ.used) (hs : subO objs σ.objs) : ∀ n ∈ mentL args objs, n ∈ σ.used := by
  intro n hm
  rcases List.mem_append.1 hm with hm | hm
  · exact hn n hm
  · obtain ⟨m, o, ho, hm⟩ := mentO_mem hs hm
    exact (h.usedO m o ho).2 n hm

theorem OpW.sound_call {X : Env1} {o : Oper} {σ : St} {f : Nat} {args : List V} {objs : List (Nat × Ob)} {x : V} {objs' : List (Nat × Ob)} (hf : calleeOf (σ.val X.gl) o.op = some (f, args)) (hac : AC X.P X.gl f args objs (.ret x) objs') (hsub : subO objs σ.objs) (hn : ∀ n ∈ (callEff x objs objs').nw, n ∉ σ.used)
    {C : Ctx} {E : Env} {a : Act} {w : World} (hg : GOK X.gl C.E0.H) (hG : Ga C E σ a w) (hd : ∀ d, o.dst = some d → d < C.nt)
    {K : Act → World → Prop} {Q : Exit → Act → World → Prop} (hK : ∀ E' a' w', Ga C E' (σ.eff o.dst (callEff x objs objs')) a' w' → K a' w') : o.wp X.P a w K Q := by
  obtain ⟨vs, hl, hr, hrun, hnm⟩ := call_enter hG hg hf hac.direct
  have hsub0 := hsub
  have hsub := subO_spec hsub
  unfold Oper.wp
  rw [hrun]
  simp only [Oper.upon]
  have hbase : Base X.gl E w objs := ⟨hG.heap, hg.mono hG.hle, fun n o hn => hG.objs n o (hsub n o hn), fun n m o o' hn hm => hG.apart n m o o' (hsub n o hn) (hsub m o' hm)⟩
  refine (hac.calls E w vs hbase hl hr).mono ?_
  rintro e' w' ⟨E', hD, v, rfl, hv⟩
  refine hK E' _ _ (hG.called hD hsub ?_ (ment_used hG hnm hsub0) hac.namesO hv hac.names hd)
  intro n hn'
  by_cases hk : n ∈ keysO objs
  · exact .inl hk
  · right
    refine hn n ?_
    simp only [callEff, List.mem_filter]
    refine ⟨hn', ?_⟩
    cases e : getO objs n with
    | none => rfl
    | some o => exact absurd (getO_some_mem e) hk

theorem OpW.sound {X : Env1} {o : Oper} {σ : St} {e : Eff} (h : OpW X o σ e) (hT : TOK X.P X.T) {C : Ctx} {E : Env} {a : Act} {w : World} (hg : GOK X.gl C.E0.H) (hG : Ga C E σ a w) (hd : ∀ d, o.dst = some d → d < C.nt)
    {K : Act → World → Prop} {Q : Exit → Act → World → Prop} (hK : ∀ E' a' w', Ga C E' (σ.eff o.dst e) a' w' → K a' w') : o.wp X.P a w K Q := by
  cases h with
  | step r hs hc hn =>
    obtain ⟨v, w', E', hres, hG', _⟩ := stepOp_sound hT hg hG hd hs hc (by
      intro n x hw hnew
      refine hn n ?_
      simp [R.eff, hw, hnew])
    rw [app_eff σ o.dst r (rdN (σ.val X.gl) o.op)] at hG'
    exact hres.wp (hK E' _ _ hG')
  | call f args objs x objs' hf hac hsub hn => exact OpW.sound_call hf hac hsub hn hg hG hd hK
  | callR f args ro objs x objs' hf hac hro hsub hn =>
    have hnw := callEffR_nw (x := x) hro
    refine OpW.sound_call hf hac hsub (by rw [← hnw]; exact hn) hg hG hd ?_
    intro E' a' w' hG'
    refine hK E' a' w' ?_
    have := hG'.congrO (O' := updAll σ.objs (callWr objs objs')) (callEffR_get hro hsub)
    rw [← hnw] at this
    exact this
end Go.Lg
/- A region whose order is open: every order leads to the state of the text's order. -/
namespace Go.Lg

/-- what an operation leaves that is not carried out: the model's own mark -/
def skipE : Eff := ⟨.pv (.tuple []), [], [], []⟩
def Eff.wn (e : Eff) : List Nat := e.wr.map (·.1)

def foldS (S : Nat → Bool) : Nat → List (Option Nat × Eff) → St → St
  | _, [], σ => σ
  | k, (d, e) :: r, σ => foldS S (k + 1) r (if S k then σ.eff d e else σ)

theorem getS_putS (dst : Option Nat) (x : V) (l : List (Nat × V)) (t : Nat) : getS (putS dst x l) t = if dst = some t then x else getS l t := by
  cases dst with
  | none => simp [putS]
  | some d => simp [putS, getS]

theorem foldS_slot {S S' : Nat → Bool} (t : Nat) : ∀ (l : List (Option Nat × Eff)) (k : Nat) (σ σ' : St), (∀ i d e, l[i]? = some (d, e) → d = some t → S (k + i) = S' (k + i)) → getS σ.slots t = getS σ'.slots t →
    getS (foldS S k l σ).slots t = getS (foldS S' k l σ').slots t
  | [], _, _, _, _, h => h
  | (d, e) :: r, k, σ, σ', hw, h => by
    simp only [foldS]
    refine foldS_slot t r (k + 1) _ _ (fun i d' e' hi hd => by have := hw (i + 1) d' e' (by simpa using hi) hd; rwa [show k + (i + 1) = k + 1 + i by omega] at this) ?_
    have h0 := hw 0 d e rfl
    simp only [Nat.add_zero] at h0
    by_cases hd : d = some t
    · have hs := h0 hd
      rw [hs]
      split
      · simp [St.eff, getS_putS, hd]
      · exact h
    · have e1 : ∀ s : St, getS (if S k then s.eff d e else s).slots t = getS s.slots t := by
        intro s; split <;> simp [St.eff, getS_putS, hd]
      have e2 : ∀ s : St, getS (if S' k then s.eff d e else s).slots t = getS s.slots t := by
        intro s; split <;> simp [St.eff, getS_putS, hd]
      rw [e1, e2, h]

theorem lookW_notin {wr : List (Nat × Option Ob)} {n : Nat} (h : n ∉ wr.map (·.1)) : lookW wr n = none := by
  induction wr with
  | nil => rfl
  | cons p r ih =>
    obtain ⟨k, o⟩ := p
    simp only [List.map_cons, List.mem_cons, not_or] at h
    have : ¬ k = n := fun e => h.1 e.symm
    simp [lookW, ih h.2, this]

theorem foldS_obj {S S' : Nat → Bool} (n : Nat) : ∀ (l : List (Option Nat × Eff)) (k : Nat) (σ σ' : St), (∀ i d e, l[i]? = some (d, e) → n ∈ e.wn → S (k + i) = S' (k + i)) → getO σ.objs n = getO σ'.objs n →
    getO (foldS S k l σ).objs n = getO (foldS S' k l σ').objs n
  | [], _, _, _, _, h => h
  | (d, e) :: r, k, σ, σ', hw, h => by
    simp only [foldS]
    refine foldS_obj n r (k + 1) _ _ (fun i d' e' hi hd => by have := hw (i + 1) d' e' (by simpa using hi) hd; rwa [show k + (i + 1) = k + 1 + i by omega] at this) ?_
    have h0 := hw 0 d e rfl
    simp only [Nat.add_zero] at h0
    by_cases hd : n ∈ e.wn
    · have hs := h0 hd
      rw [hs]
      split
      · simp only [St.eff, getO_updAll, h]
      · exact h
    · have hno := lookW_notin (wr := e.wr) hd
      have e1 : ∀ s : St, getO (if S k then s.eff d e else s).objs n = getO s.objs n := by
        intro s; split <;> simp [St.eff, getO_updAll, hno]
      have e2 : ∀ s : St, getO (if S' k then s.eff d e else s).objs n = getO s.objs n := by
        intro s; split <;> simp [St.eff, getO_updAll, hno]
      rw [e1, e2, h]

theorem foldS_used {S : Nat → Bool} (n : Nat) : ∀ (l : List (Option Nat × Eff)) (k : Nat) (σ : St), n ∈ (foldS S k l σ).used ↔ n ∈ σ.used ∨ ∃ i d e, l[i]? = some (d, e) ∧ S (k + i) = true ∧ n ∈ e.nw
  | [], _, σ => by simp [foldS]
  | (d, e) :: r, k, σ => by
    simp only [foldS]
    rw [foldS_used n r (k + 1)]
    constructor
    · rintro (h | ⟨i, d', e', hi, hs, hn⟩)
      · by_cases hs : S k = true
        · simp only [hs, if_true, St.eff, List.mem_append] at h
          rcases h with h | h
          · exact .inr ⟨0, d, e, rfl, by simpa using hs, h⟩
          · exact .inl h
        · simp only [hs] at h
          exact .inl h
      · exact .inr ⟨i + 1, d', e', by simpa using hi, by rwa [show k + (i + 1) = k + 1 + i by omega], hn⟩
    · rintro (h | ⟨i, d', e', hi, hs, hn⟩)
      · left
        split
        · simp [St.eff, h]
        · exact h
      · cases i with
        | zero =>
          simp only [List.getElem?_cons_zero, Option.some.injEq, Prod.mk.injEq] at hi
          obtain ⟨rfl, rfl⟩ := hi
          left
          simp only [Nat.add_zero] at hs
          simp [hs, St.eff, hn]
        | succ i => exact .inr ⟨i, d', e', by simpa using hi, by rwa [show k + 1 + i = k + (i + 1) by omega], hn⟩

/-- one more operation, in the midst -/
theorem foldS_slot_add {S : Nat → Bool} (t : Nat) : ∀ (l : List (Option Nat × Eff)) (k i : Nat) (d : Option Nat) (e : Eff) (σ : St), l[i]? = some (d, e) → S (k + i) = false →
    (d = some t → ∀ j d' e', i < j → l[j]? = some (d', e') → S (k + j) = true → d' ≠ some t) →
    getS (foldS (fun m => m == k + i || S m) k l σ).slots t = if d = some t then e.x else getS (foldS S k l σ).slots t
  | [], _, _, _, _, _, hi, _, _ => by simp at hi
  | (d0, e0) :: r, k, 0, d, e, σ, hi, hs, hl => by
    simp only [List.getElem?_cons_zero, Option.some.injEq, Prod.mk.injEq] at hi
    obtain ⟨rfl, rfl⟩ := hi
    simp only [Nat.add_zero] at hs
    simp only [foldS, Nat.add_zero, beq_self_eq_true, Bool.true_or, if_true, hs]
    by_cases hd : d0 = some t
    · simp only [hd, if_true]
      rw [foldS_slot (S' := fun _ => false) t r (k + 1) _ (σ.eff d0 e0) ?_ (by rw [hd])]
      · have hf : ∀ (r : List (Option Nat × Eff)) (k : Nat) (s : St), foldS (fun _ => false) k r s = s := by
          intro r; induction r with
          | nil => intro k s; rfl
          | cons p r ih => intro k s; simp [foldS, ih]
        rw [hf]
        simp [St.eff, getS_putS, hd]
      · intro i d' e' hi hd'
        have := hl hd (i + 1) d' e' (by omega) (by simpa using hi)
        by_cases hsi : S (k + 1 + i) = true
        · exact absurd hd' (this (by rwa [show k + (i + 1) = k + 1 + i by omega]))
        · simp only [Bool.not_eq_true] at hsi
          simp [hsi]; omega
    · simp only [hd, if_false]
      refine foldS_slot t r (k + 1) _ _ ?_ (by simp [St.eff, getS_putS, hd])
      intro i d' e' hi hd'
      have : (k + 1 + i == k) = false := by simp; omega
      simp [this]
  | (d0, e0) :: r, k, i + 1, d, e, σ, hi, hs, hl => by
    simp only [foldS]
    have hk : (k == k + (i + 1)) = false := by simp
    simp only [hk, Bool.false_or]
    have := foldS_slot_add (S := S) t r (k + 1) i d e (if S k then σ.eff d0 e0 else σ) (by simpa using hi) (by rwa [show k + 1 + i = k + (i + 1) by omega]) (fun hd j d' e' hj hl' hs' => hl hd (j + 1) d' e' (by omega) (by simpa using hl') (by rwa [show k + (j + 1) = k + 1 + j by omega]))
    rw [show k + (i + 1) = k + 1 + i by omega]
    exact this

theorem foldS_obj_add {S : Nat → Bool} (n : Nat) : ∀ (l : List (Option Nat × Eff)) (k i : Nat) (d : Option Nat) (e : Eff) (σ : St), l[i]? = some (d, e) → S (k + i) = false →
    (n ∈ e.wn → ∀ j d' e', i < j → l[j]? = some (d', e') → S (k + j) = true → n ∉ e'.wn) →
    getO (foldS (fun m => m == k + i || S m) k l σ).objs n = match lookW e.wr n with | some o => o | none => getO (foldS S k l σ).objs n
  | [], _, _, _, _, _, hi, _, _ => by simp at hi
  | (d0, e0) :: r, k, 0, d, e, σ, hi, hs, hl => by
    simp only [List.getElem?_cons_zero, Option.some.injEq, Prod.mk.injEq] at hi
    obtain ⟨rfl, rfl⟩ := hi
    simp only [Nat.add_zero] at hs
    simp only [foldS, Nat.add_zero, beq_self_eq_true, Bool.true_or, if_true, hs]
    by_cases hd : n ∈ e0.wn
    · rw [foldS_obj (S' := fun _ => false) n r (k + 1) _ (σ.eff d0 e0) ?_ rfl]
      · have hf : ∀ (r : List (Option Nat × Eff)) (k : Nat) (s : St), foldS (fun _ => false) k r s = s := by
          intro r; induction r with
          | nil => intro k s; rfl
          | cons p r ih => intro k s; simp [foldS, ih]
        rw [hf]
        simp only [St.eff, getO_updAll]
        have : ∃ o, lookW e0.wr n = some o := by
          have key : ∀ wr : List (Nat × Option Ob), n ∈ wr.map (·.1) → ∃ o, lookW wr n = some o := by
            intro wr
            induction wr with
            | nil => intro h; simp at h
            | cons p r ih =>
              obtain ⟨k, o⟩ := p
              intro h
              simp only [lookW]
              cases hr : lookW r n with
              | some x => exact ⟨x, rfl⟩
              | none =>
                simp only [List.map_cons, List.mem_cons] at h
                rcases h with h | h
                · exact ⟨o, by simp [h]⟩
                · obtain ⟨x, hx⟩ := ih h; rw [hx] at hr; cases hr
          exact key _ hd
        obtain ⟨o, ho⟩ := this
        simp [ho]
      · intro i d' e' hi hd'
        have := hl hd (i + 1) d' e' (by omega) (by simpa using hi)
        by_cases hsi : S (k + 1 + i) = true
        · exact absurd hd' (this (by rwa [show k + (i + 1) = k + 1 + i by omega]))
        · simp only [Bool.not_eq_true] at hsi
          simp [hsi]; omega
    · have hno := lookW_notin (wr := e0.wr) hd
      simp only [hno]
      refine foldS_obj n r (k + 1) _ _ ?_ (by simp [St.eff, getO_updAll, hno])
      intro i d' e' hi hd'
      have : (k + 1 + i == k) = false := by simp; omega
      simp [this]
  | (d0, e0) :: r, k, i + 1, d, e, σ, hi, hs, hl => by
    simp only [foldS]
    have hk : (k == k + (i + 1)) = false := by simp
    simp only [hk, Bool.false_or]
    have := foldS_obj_add (S := S) n r (k + 1) i d e (if S k then σ.eff d0 e0 else σ) (by simpa using hi) (by rwa [show k + 1 + i = k + (i + 1) by omega]) (fun hd j d' e' hj hl' hs' => hl hd (j + 1) d' e' (by omega) (by simpa using hl') (by rwa [show k + (j + 1) = k + 1 + j by omega]))
    rw [show k + (i + 1) = k + 1 + i by omega]
    exact this

/-- a state that reads as another one -/
theorem Ga.of_ext {C : Ctx} {E : Env} {σ σ' : St} {a : Act} {w : World} (h : Ga C E σ a w) (h1 : ∀ t, getS σ'.slots t = getS σ.slots t) (h2 : ∀ n, getO σ'.objs n = getO σ.objs n) (h3 : ∀ n, n ∈ σ.used → n ∈ σ'.used) : Ga C E σ' a w :=
  ⟨fun t => by rw [h1]; exact h.slots t, h.size, ⟨h.defers.1, fun n hn => h3 n (h.defers.2 n hn)⟩, h.heap, fun n o hn => h.objs n o (by rwa [h2] at hn), fun n m o o' hn hm => h.apart n m o o' (by rwa [h2] at hn) (by rwa [h2] at hm),
    fun t n hn => h3 n (h.usedS t n (by rwa [h1] at hn)), fun n o hn => ⟨h3 n (h.usedO n o (by rwa [h2] at hn)).1, fun m hm => h3 m ((h.usedO n o (by rwa [h2] at hn)).2 m hm)⟩, fun n o hn => h3 n (h.usedG n o hn),
    h.grown, h.rest, h.same, h.hle, fun n o b hn => h.own n o b (by rwa [h2] at hn), h.ext,
    fun n hn => ⟨h3 n (h.keep n hn).1, by rw [h2]; exact (h.keep n hn).2.1, (h.keep n hn).2.2⟩⟩
end Go.Lg
/- Regions: one operation after the other, or in an open order. -/
namespace Go.Lg

/-- the value of the operation that guards -/
def gv (ops : List Oper) (σ : St) (j : Nat) : V := match ops[j]? with
  | some o => match o.dst with
    | some d => getS σ.slots d
    | none => .undef
  | none => .undef

def dstOK (X : Env1) (dst : Option Nat) : Prop := match dst with
  | some d => d < X.nt
  | none => True

/-- a result that is there -/
def bindR (o : Option R) (K : R → Prop) : Prop := match o with
  | some r => K r
  | none => False
theorem bindR_some (r : R) (K : R → Prop) : bindR (some r) K = K r := rfl
@[congr] theorem bindR_congr {o o' : Option R} {K : R → Prop} (h : o = o') : bindR o K = bindR o' K := by rw [h]

/-- the call of a function -/
def callStep (X : Env1) (draw : Bool) (Qp : PV → St → Prop) (f : Nat) (args : List V) (σ : St) (next : Eff → Prop) : Prop :=
  ∃ objs out objs', AC X.P X.gl f args objs out objs' ∧ subO objs σ.objs ∧ freshL ((keysO objs').filter (fun n => (getO objs n).isNone)) σ.used ∧
      match out with
      | .ret x => next (callEff x objs objs') ∨ ∃ ro o1 o1', objs = ro ++ o1 ∧ objs' = ro ++ o1' ∧ (∀ n ∈ keysO ro, n ∉ keysO o1 ∧ n ∉ keysO o1') ∧ next (callEffR x ro o1 o1')
      | .panic p => draw = false ∧ Qp p (σ.eff none (callEff .undef objs objs'))
@[congr] theorem callStep_congr {X : Env1} {draw : Bool} {Qp : PV → St → Prop} {f f' : Nat} {args args' : List V} {σ σ' : St} {next : Eff → Prop} (h1 : f = f') (h2 : args = args') (h3 : σ = σ') :
    callStep X draw Qp f args σ next = callStep X draw Qp f' args' σ' next := by rw [h1, h2, h3]
theorem callStep_ret {X : Env1} {draw : Bool} {Qp : PV → St → Prop} {f : Nat} {args : List V} {σ : St} {next : Eff → Prop} {objs : List (Nat × Ob)} {x : V} {objs' : List (Nat × Ob)} (h : AC X.P X.gl f args objs (.ret x) objs')
    (h1 : subO objs σ.objs) (h2 : freshL ((keysO objs').filter (fun n => (getO objs n).isNone)) σ.used) (h3 : next (callEff x objs objs')) : callStep X draw Qp f args σ next := ⟨objs, .ret x, objs', h, h1, h2, .inl h3⟩
theorem callStep_retR {X : Env1} {draw : Bool} {Qp : PV → St → Prop} {f : Nat} {args : List V} {σ : St} {next : Eff → Prop} {ro objs : List (Nat × Ob)} {x : V} {objs' : List (Nat × Ob)} (h : AC X.P X.gl f args (ro ++ objs) (.ret x) (ro ++ objs'))
    (hro : ∀ n ∈ keysO ro, n ∉ keysO objs ∧ n ∉ keysO objs') (h1 : subO (ro ++ objs) σ.objs) (h2 : freshL ((keysO objs').filter (fun n => (getO objs n).isNone)) σ.used) (h3 : next (callEffR x ro objs objs')) : callStep X draw Qp f args σ next := by
  refine ⟨ro ++ objs, .ret x, ro ++ objs', h, h1, ?_, .inr ⟨ro, objs, objs', rfl, rfl, hro, h3⟩⟩
  have := callEffR_nw (x := x) hro
  simp only [callEffR, callEff] at this
  rw [← this]
  exact h2
theorem callStep_panic {X : Env1} {Qp : PV → St → Prop} {f : Nat} {args : List V} {σ : St} {next : Eff → Prop} {objs : List (Nat × Ob)} {p : PV} {objs' : List (Nat × Ob)} (h : AC X.P X.gl f args objs (.panic p) objs')
    (h1 : subO objs σ.objs) (h2 : freshL ((keysO objs').filter (fun n => (getO objs n).isNone)) σ.used) (h3 : Qp p (σ.eff none (callEff .undef objs objs'))) : callStep X false Qp f args σ next := ⟨objs, .panic p, objs', h, h1, h2, rfl, h3⟩

def caseC (c : Option (Nat × List V)) (yes : Nat → List V → Prop) (no : Prop) : Prop := match c with
  | some (f, args) => yes f args
  | none => no
theorem caseC_some (f : Nat) (args : List V) (yes : Nat → List V → Prop) (no : Prop) : caseC (some (f, args)) yes no = yes f args := rfl
theorem caseC_none (yes : Nat → List V → Prop) (no : Prop) : caseC none yes no = no := rfl
@[congr] theorem caseC_congr {c c' : Option (Nat × List V)} {yes : Nat → List V → Prop} {no : Prop} (h : c = c') : caseC c yes no = caseC c' yes no := by rw [h]

def panicC (x : V) (Q : PV → Prop) : Prop := match x with
  | .pv (.iface t p) => Q (.iface t p)
  | _ => False
theorem panicC_iface (t : Nat) (p : PV) (Q : PV → Prop) : panicC (.pv (.iface t p)) Q = Q (.iface t p) := rfl

/-- a look into a table: whether it is there is left open -/
def lookC (X : Env1) (draw : Bool) (σ : St) (t : Nat) (m k : V) (ok : Bool) (next : Eff → Prop) : Prop := match X.T t with
  | some ⟨.map _ vt, _, _, _, _⟩ => match X.T vt, m, k with
    | some ⟨_, _, _, .agg z, zc⟩, .map n, .pv (.ptr ks) => match getO σ.objs n with
      | some (.cache D F) => draw = false ∧ ok = true ∧ D (.ptr ks) ∧ ks.any PV.nonint = true ∧ ∀ b : Bool, next ⟨.pv (.tuple [.agg (bif b then F (.ptr ks) else zc), .bool b]), [], [], []⟩
      | _ => False
    | _, _, _ => False
  | _ => False

/-- One operation that is carried out. -/
def opStep (X : Env1) (draw : Bool) (Qp : PV → St → Prop) (o : Oper) (σ : St) (next : Eff → Prop) : Prop :=
  caseC (calleeOf (σ.val X.gl) o.op) (fun f args => callStep X draw Qp f args σ next)
    (match o.op with
    | .panic x => panicC (σ.val X.gl x) (fun p => draw = false ∧ Qp p σ)
    | .lookup t m k ok => lookC X draw σ t (σ.val X.gl m) (σ.val X.gl k) ok next
    | op => bindR (stepOp X.T (X.note o.dst) (σ.val X.gl) (getO σ.objs) o.dst op) fun r =>
        r.cond ∧ freshL (r.eff []).nw σ.used ∧ ((draw = false → r.fact) → next (r.eff (rdN (σ.val X.gl) op))))

def caseG (v : V) (want : Bool) (yes no : Prop) : Prop := match v with
  | .pv (.bool b) => if b = want then yes else no
  | .pv (.tuple []) => no
  | _ => False
theorem caseG_sk (want : Bool) (yes no : Prop) : caseG (.pv (.tuple [])) want yes no = no := rfl
theorem caseG_bool (b want : Bool) (yes no : Prop) : caseG (.pv (.bool b)) want yes no = if b = want then yes else no := rfl
theorem caseG_yes (b : Bool) (yes no : Prop) : caseG (.pv (.bool b)) b yes no = yes := by simp [caseG]
theorem caseG_tf (yes no : Prop) : caseG (.pv (.bool true)) false yes no = no := rfl
theorem caseG_ft (yes no : Prop) : caseG (.pv (.bool false)) true yes no = no := rfl
@[congr] theorem caseG_congr {v v' : V} {want : Bool} {yes no : Prop} (h : v = v') : caseG v want yes no = caseG v' want yes no := by rw [h]
def guardC (ops : List Oper) (σ : St) (g : Option (Nat × Bool)) (yes no : Prop) : Prop := match g with
  | none => yes
  | some (j, want) => caseG (gv ops σ j) want yes no
theorem guardC_none (ops : List Oper) (σ : St) (yes no : Prop) : guardC ops σ none yes no = yes := rfl
theorem guardC_some (ops : List Oper) (σ : St) (j : Nat) (want : Bool) (yes no : Prop) : guardC ops σ (some (j, want)) yes no = caseG (gv ops σ j) want yes no := rfl
@[congr] theorem guardC_congr {ops : List Oper} {σ σ' : St} {g g' : Option (Nat × Bool)} {yes no : Prop} (h : σ = σ') (h' : g = g') : guardC ops σ g yes no = guardC ops σ' g' yes no := by rw [h, h']

/-- The operations of a region, in the text's order. -/
def runOps (X : Env1) (draw : Bool) (ops : List Oper) (K : St → List Eff → Prop) (Qp : PV → St → Prop) : List Oper → St → List Eff → Prop
  | [], σ, tr => K σ tr
  | o :: rest, σ, tr =>
    dstOK X o.dst ∧
    guardC ops σ o.guard (opStep X draw Qp o σ fun e => runOps X draw ops K Qp rest (σ.eff o.dst e) (bif draw then tr ++ [e] else tr))
      (runOps X draw ops K Qp rest (σ.eff o.dst skipE) (bif draw then tr ++ [skipE] else tr))
@[congr] theorem runOps_congr {X : Env1} {draw : Bool} {ops : List Oper} {K : St → List Eff → Prop} {Qp : PV → St → Prop} {l : List Oper} {σ σ' : St} {tr tr' : List Eff} (h : σ = σ') (h' : tr = tr') :
    runOps X draw ops K Qp l σ tr = runOps X draw ops K Qp l σ' tr' := by rw [h, h']

theorem skip_ga {C : Ctx} {E : Env} {σ : St} {a : Act} {w : World} (h : Ga C E σ a w) {dst : Option Nat} (hd : ∀ d, dst = some d → d < C.nt) : Ga C E (σ.eff dst skipE) (a.put dst undef) w := by
  have := h.pure E.H dst (.pv (.tuple [])) undef (Hle.refl _) (Nat.le_refl _) ⟨rfl, rfl, rfl⟩ (fun _ _ => ⟨rfl, rfl⟩) h.heap (by simp only [RepV, RepP]; exact ⟨[], rfl, rfl, by simp only [RepL]⟩) (by simp [V.names]) hd
  exact this

theorem yield_none {C : Ctx} {E : Env} {σ : St} {a : Act} {w : World} {ops : List Oper} (h : Ga C E σ a w) {j : Nat} (hg : gv ops σ j = .pv (.tuple [])) : yielded ops.toArray a.tmps j = none := by
  unfold gv at hg
  split at hg
  · rename_i o ho
    split at hg
    · rename_i d hd
      have hr := h.slots d
      rw [hg] at hr
      simp only [RepV, RepP] at hr
      obtain ⟨vs, hv, hl, _⟩ := hr
      have hvs : vs = [] := List.eq_nil_of_length_eq_zero (by simpa using hl)
      subst hvs
      rw [Array.getD_eq_getD_getElem?] at hv
      cases e : a.tmps[d]? with
      | none => simp [yielded, ho, hd, e]
      | some v =>
        rw [e] at hv
        simp at hv
        subst hv
        simp [yielded, ho, hd, e]
    · cases hg
  · cases hg
theorem yield_of {C : Ctx} {E : Env} {σ : St} {a : Act} {w : World} {ops : List Oper} (h : Ga C E σ a w) {j : Nat} {b : Bool} (hg : gv ops σ j = .pv (.bool b)) : yielded ops.toArray a.tmps j = some b := by
  unfold gv at hg
  split at hg
  · rename_i o ho
    split at hg
    · rename_i d hd
      have hr := h.slots d
      rw [hg] at hr
      have hr := rep_bool hr
      have hs : a.tmps[d]? = some (.bool b) := by
        rw [Array.getD_eq_getD_getElem?] at hr
        cases e : a.tmps[d]? with
        | none => rw [e] at hr; simp [undef] at hr
        | some v => rw [e] at hr; simp at hr; rw [hr]
      simp [yielded, ho, hd, hs]
    · cases hg
  · cases hg

theorem run_panic {P : Program} {w : World} {t : Nat} {v : Value} : (Instr.panic (.iface t v)).run P w = .halt (.panic (.iface t v)) w := by
  simp [Instr.panic]

section
variable {X : Env1} {C : Ctx}

theorem opStep_sound (hT : TOK X.P X.T) (hg : GOK X.gl C.E0.H) {Qp : PV → St → Prop} {Q : Exit → Act → World → Prop} {K : Act → World → Prop} {o : Oper} {σ : St} {next : Eff → Prop} {E : Env} {a : Act} {w : World} (hG : Ga C E σ a w) (hd : ∀ d, o.dst = some d → d < C.nt)
    (hK : ∀ e E' a' w', next e → Ga C E' (σ.eff o.dst e) a' w' → K a' w')
    (hQ : ∀ E σ p v a w, Ga C E σ a w → Qp p σ → RepP E.H p v → Q (.panic [{ v, recovered := false }]) a w) (h : opStep X false Qp o σ next) : o.wp X.P a w K Q := by
  unfold opStep caseC at h
  split at h
  · rename_i f args hf
    obtain ⟨objs, out, objs', hac, hsub0, hfr, hout⟩ := h
    have hsub := subO_spec hsub0
    have hfr := freshL_spec hfr
    cases out with
    | ret x =>
      simp only at hout
      rcases hout with hout | ⟨ro, o1, o1', rfl, rfl, hro, hout⟩
      · exact (OpW.call (X := X) f args objs x objs' hf hac hsub0 hfr).sound hT hg hG hd (fun E' a' w' hG' => hK _ E' a' w' hout hG')
      · exact (OpW.callR (X := X) f args ro o1 x o1' hf hac hro hsub0 (by rw [callEffR_nw hro]; exact hfr)).sound hT hg hG hd (fun E' a' w' hG' => hK _ E' a' w' hout hG')
    | panic p =>
      simp only at hout
      obtain ⟨vs, hl, hrv, hrun, hnm⟩ := call_enter hG hg hf hac.direct
      unfold Oper.wp
      rw [hrun]
      simp only [Oper.upon]
      have hbase : Base X.gl E w objs := ⟨hG.heap, hg.mono hG.hle, fun n o hn => hG.objs n o (hsub n o hn), fun n m o o' hn hm => hG.apart n m o o' (hsub n o hn) (hsub m o' hm)⟩
      refine (hac.calls E w vs hbase hl hrv).mono ?_
      rintro e' w' ⟨E', hD, v, rfl, hv⟩
      have hG' := hG.called (dst := none) (x := .undef) (v := undef) hD hsub (by
        intro n hn'
        by_cases hk : n ∈ keysO objs
        · exact .inl hk
        · right
          refine hfr n ?_
          simp only [List.mem_filter]
          refine ⟨hn', ?_⟩
          cases e : getO objs n with
          | none => rfl
          | some o => exact absurd (getO_some_mem e) hk) (ment_used hG hnm hsub0) hac.namesO (by simp [RepV]) (by simp [V.names]) (by simp)
      exact hQ E' _ p v a w' hG' hout.2 hv
  · split at h
    · rename_i x hx
      unfold panicC at h
      split at h
      · rename_i t p hv
        have hr := val_rep hG hg x
        rw [hv] at hr
        have hr' := hr
        simp only [RepV, RepP] at hr
        obtain ⟨u, hu, hru⟩ := hr
        unfold Oper.wp
        have : (execOp a.eval o).run X.P w = .halt (.panic (.iface t u)) w := by
          simp [execOp, hx, hu, run_panic]
        rw [this]
        simp only [Oper.upon]
        refine hQ E σ _ _ a w hG h.2 ?_
        rw [← hu]
        simpa only [RepV] using hr'
      · cases h
    · rename_i t m k ok hx
      have hm := val_rep hG hg m
      have hk := val_rep hG hg k
      unfold lookC at h
      split at h
      · rename_i kt vt s1 s2 s3 s4 et
        obtain ⟨d, hde, hkk⟩ := (hT t _ et).desc
        simp only [TKOK] at hkk
        obtain ⟨rfl, e, hu, hei⟩ := hkk
        obtain ⟨i, hi, hsz⟩ := map_elem hei
        split at h
        · rename_i kv sv bv z zc n ks ev em ek
          rw [em] at hm; rw [ek] at hk
          split at h
          · rename_i D F eo
            obtain ⟨_, rfl, hD, hni, hnext⟩ := h
            have htv := hT vt _ ev
            simp only [RepV] at hk
            obtain ⟨u, b, hrun, h1, h2⟩ := run_lookup hde hu hi hsz htv hG eo hm hk hD hni
            have hrep : RepP E.H (.agg (bif b then F (.ptr ks) else zc)) u := by
              cases b with
              | true => exact h1 rfl
              | false =>
                rw [h2 rfl]
                simp only [cond_false, RepP]
                have hz := htv.zcells
                simp only [Value.cells] at hz
                refine ⟨z.toList, by simp, ?_, RepL.mono (Hle.zero _) _ _ _ List.prefix_rfl hz⟩
                have h3 := htv.zlen
                have h4 := htv.zc
                simp only [Value.cells] at h3 h4
                simp; omega
            have hres : OpRes X.P o a w (.tuple #[u, .bool b]) w := .inl (by simp [execOp, hx, hrun])
            refine hres.wp (hK _ E _ _ (hnext b) ?_)
            exact hG.pure E.H o.dst _ _ (Hle.refl _) (Nat.le_refl _) ⟨rfl, rfl, rfl⟩ (fun _ _ => ⟨rfl, rfl⟩) hG.heap (by
              simp only [RepV]
              rw [RepP]
              exact ⟨[u, .bool b], rfl, rfl, by rw [RepL, RepL, RepL]; exact ⟨hrep, by simp [RepP], trivial⟩⟩) (by simp [V.names]) hd
          · cases h
        · cases h
      · cases h
    · unfold bindR at h
      split at h
      · rename_i r hs
        obtain ⟨hc, hfr, hrest⟩ := h
        obtain ⟨v, w', E', hres, hG', hfact⟩ := stepOp_sound hT hg hG hd hs hc (by
          intro n x hw hnew
          refine freshL_spec hfr n ?_
          simp [R.eff, hw, hnew])
        rw [app_eff σ o.dst r (rdN (σ.val X.gl) o.op)] at hG'
        exact hres.wp (hK _ E' _ _ (hrest (fun _ => hfact)) hG')
      · cases h

theorem opStep_draw {Qp : PV → St → Prop} {o : Oper} {σ : St} {next : Eff → Prop} (h : opStep X true Qp o σ next) : ∃ e, OpW X o σ e ∧ next e := by
  unfold opStep caseC at h
  split at h
  · rename_i f args hf
    obtain ⟨objs, out, objs', hac, hsub, hfr, hout⟩ := h
    cases out with
    | ret x =>
      rcases hout with hout | ⟨ro, o1, o1', rfl, rfl, hro, hout⟩
      · exact ⟨_, OpW.call (X := X) f args objs x objs' hf hac hsub (freshL_spec hfr), hout⟩
      · exact ⟨_, OpW.callR (X := X) f args ro o1 x o1' hf hac hro hsub (by rw [callEffR_nw hro]; exact freshL_spec hfr), hout⟩
    | panic p => simp at hout
  · split at h
    · unfold panicC at h
      split at h
      · simp at h
      · cases h
    · unfold lookC at h
      split at h
      · split at h
        · split at h
          · exact absurd h.1 (by simp)
          · cases h
        · cases h
      · cases h
    · unfold bindR at h
      split at h
      · rename_i r hs
        obtain ⟨hc, hfr, hrest⟩ := h
        exact ⟨_, OpW.step r hs hc (freshL_spec hfr), hrest (fun e => by cases e)⟩
      · cases h

/-- a region in the text's order -/
theorem runOps_seq (hT : TOK X.P X.T) (hg : GOK X.gl C.E0.H) (hnt : C.nt = X.nt) {ops : List Oper} {K : St → List Eff → Prop} {Qp : PV → St → Prop} {Q : Exit → Act → World → Prop}
    (hK : ∀ E σ tr a w, Ga C E σ a w → K σ tr → Q .normal a w)
    (hQ : ∀ E σ p v a w, Ga C E σ a w → Qp p σ → RepP E.H p v → Q (.panic [{ v, recovered := false }]) a w) :
    ∀ (l : List Oper) (σ : St) (tr : List Eff) (E : Env) (a : Act) (w : World), runOps X false ops K Qp l σ tr → Ga C E σ a w → wpList X.P ops.toArray Q l a w
  | [], σ, tr, E, a, w, hr, hG => hK E σ tr a w hG hr
  | o :: rest, σ, tr, E, a, w, hr, hG => by
    simp only [runOps] at hr
    obtain ⟨hd, hr⟩ := hr
    have hd' : ∀ d, o.dst = some d → d < C.nt := by
      intro d e; rw [e] at hd; rw [hnt]; exact hd
    unfold wpList
    unfold guardC at hr
    split at hr
    · rename_i hgn
      rw [if_pos (by simp [Region.wanted, hgn])]
      exact .inl (opStep_sound hT hg hG hd' (fun e E' a' w' hn hG' => runOps_seq hT hg hnt hK hQ rest _ _ E' a' w' hn hG') hQ hr)
    · rename_i j want hgs
      unfold caseG at hr
      split at hr
      · rename_i b hb
        have hy := yield_of hG hb
        split at hr
        · rename_i hbw
          rw [if_pos (by simp [Region.wanted, hgs, hy, hbw])]
          exact .inl (opStep_sound hT hg hG hd' (fun e E' a' w' hn hG' => runOps_seq hT hg hnt hK hQ rest _ _ E' a' w' hn hG') hQ hr)
        · rename_i hbw
          rw [if_neg (by simp [Region.wanted, hgs, hy, hbw])]
          exact runOps_seq hT hg hnt hK hQ rest _ _ E _ w hr (skip_ga hG hd')
      · rename_i hb
        have hy := yield_none hG hb
        rw [if_neg (by simp [Region.wanted, hgs, hy])]
        exact runOps_seq hT hg hnt hK hQ rest _ _ E _ w hr (skip_ga hG hd')
      · cases hr
end
end Go.Lg
/- A region that draws its order. -/
namespace Go.Lg

def edges (o : Oper) : List Nat := (o.after.toList.filter (Region.binds .any)).map (·.on)
def maskOf (ms : List Nat) (l : List Nat) : Nat := l.foldl (fun m i => m ||| (1 <<< i) ||| ms.getD i 0) 0
def masks : List Oper → List Nat → List Nat
  | [], ms => ms
  | o :: r, ms => masks r (ms ++ [maskOf ms (edges o)])

def conflict (ops : Array Oper) (o1 : Oper) (e1 : Eff) (o2 : Oper) (e2 : Eff) : Bool :=
  (match o1.dst with | some d => (o2.looksAt ops).contains d || o2.dst == some d | none => false) ||
  (match o2.dst with | some d => (o1.looksAt ops).contains d | none => false) ||
  e1.wn.any (fun n => e2.rd.contains n || e2.wn.contains n) || e2.wn.any (fun n => e1.rd.contains n)

def checkDraw (ops : List Oper) (es : List Eff) : Bool :=
  (List.range ops.length).all fun j => match ops[j]?, es[j]? with
    | some oj, some ej => (edges oj).all (fun i => decide (i < j)) && (List.range j).all fun i => match ops[i]?, es[i]? with
      | some oi, some ei => !conflict ops.toArray oi ei oj ej || ((masks ops []).getD j 0).testBit i
      | _, _ => false
    | _, _ => false

theorem maskOf_bit (ms : List Nat) (i : Nat) : ∀ (l : List Nat) (m : Nat), (l.foldl (fun m i => m ||| (1 <<< i) ||| ms.getD i 0) m).testBit i = true → m.testBit i = true ∨ ∃ d ∈ l, d = i ∨ (ms.getD d 0).testBit i = true
  | [], m, h => .inl h
  | d :: l, m, h => by
    simp only [List.foldl_cons] at h
    rcases maskOf_bit ms i l _ h with h | ⟨d', hd', h⟩
    · simp only [Nat.testBit_or, Bool.or_eq_true] at h
      rcases h with (h | h) | h
      · exact .inl h
      · right
        refine ⟨d, by simp, .inl ?_⟩
        simp only [Nat.testBit_shiftLeft, Bool.and_eq_true, decide_eq_true_eq] at h
        obtain ⟨h1, h2⟩ := h
        have : i - d = 0 := by
          cases hq : i - d with
          | zero => rfl
          | succ k => rw [hq] at h2; simp [Nat.testBit_succ] at h2
        omega
      · exact .inr ⟨d, by simp, .inr h⟩
    · exact .inr ⟨d', by simp [hd'], h⟩

theorem masks_get : ∀ (l : List Oper) (ms : List Nat) (j : Nat), j < ms.length → (masks l ms)[j]? = ms[j]?
  | [], _, _, _ => rfl
  | o :: r, ms, j, h => by
    simp only [masks]
    rw [masks_get r _ j (by simp; omega), List.getElem?_append_left h]
theorem masks_at : ∀ (l : List Oper) (ms : List Nat) (i : Nat) (o : Oper), l[i]? = some o → ∃ ms', (masks l ms)[ms.length + i]? = some (maskOf ms' (edges o)) ∧ ∀ d, (ms'.getD d 0 = 0 ∨ ms'.getD d 0 = (masks l ms).getD d 0)
  | [], _, _, _, h => by simp at h
  | o' :: r, ms, 0, o, h => by
    simp only [List.getElem?_cons_zero, Option.some.injEq] at h
    subst h
    simp only [masks]
    refine ⟨ms, ?_, fun d => ?_⟩
    · rw [masks_get r _ _ (by simp)]
      simp
    · by_cases hd : d < ms.length
      · right
        rw [List.getD_eq_getElem?_getD, List.getD_eq_getElem?_getD, masks_get r _ d (by simp; omega), List.getElem?_append_left hd]
      · left
        rw [List.getD_eq_getElem?_getD, List.getElem?_eq_none (by omega)]
        rfl
  | o' :: r, ms, i + 1, o, h => by
    simp only [masks]
    have := masks_at r (ms ++ [maskOf ms (edges o')]) i o (by simpa using h)
    simpa [Nat.add_assoc, Nat.add_comm 1 i] using this

def Txt (X : Env1) (ops : List Oper) (o : Oper) (σ : St) (e : Eff) : Prop :=
  dstOK X o.dst ∧ ((o.guard = none ∧ OpW X o σ e) ∨ (∃ j want b, o.guard = some (j, want) ∧ gv ops σ j = .pv (.bool b) ∧ ((b = want ∧ OpW X o σ e) ∨ (b ≠ want ∧ e = skipE))) ∨ ∃ j want, o.guard = some (j, want) ∧ gv ops σ j = .pv (.tuple []) ∧ e = skipE)
def TextFrom (X : Env1) (ops : List Oper) : List Oper → List Eff → St → Prop
  | [], [], _ => True
  | o :: l, e :: es, σ => Txt X ops o σ e ∧ TextFrom X ops l es (σ.eff o.dst e)
  | _, _, _ => False
def zipD (l : List Oper) (es : List Eff) : List (Option Nat × Eff) := (l.map (·.dst)).zip es

theorem runOps_text {X : Env1} {ops : List Oper} {K : St → List Eff → Prop} {Qp : PV → St → Prop} : ∀ (l : List Oper) (σ : St) (tr : List Eff), runOps X true ops K Qp l σ tr →
    ∃ es, es.length = l.length ∧ TextFrom X ops l es σ ∧ K (foldS (fun _ => true) 0 (zipD l es) σ) (tr ++ es)
  | [], σ, tr, h => ⟨[], rfl, trivial, by simpa [runOps, zipD, foldS] using h⟩
  | o :: rest, σ, tr, h => by
    simp only [runOps, cond_true] at h
    obtain ⟨hd, h⟩ := h
    have key : ∀ e, Txt X ops o σ e → runOps X true ops K Qp rest (σ.eff o.dst e) (tr ++ [e]) → ∃ es, es.length = (o :: rest).length ∧ TextFrom X ops (o :: rest) es σ ∧ K (foldS (fun _ => true) 0 (zipD (o :: rest) es) σ) (tr ++ es) := by
      intro e ht hr
      obtain ⟨es, h1, h2, h3⟩ := runOps_text rest _ _ hr
      refine ⟨e :: es, by simp [h1], ⟨ht, h2⟩, ?_⟩
      simp only [zipD, List.map_cons, List.zip_cons_cons, foldS, if_true]
      have hk : ∀ (l : List (Option Nat × Eff)) (k : Nat) (s : St), foldS (fun _ => true) k l s = foldS (fun _ => true) 0 l s := by
        intro l
        induction l with
        | nil => intro k s; rfl
        | cons p r ih => intro k s; simp only [foldS, if_true]; rw [ih (k + 1), ih (0 + 1)]
      rw [hk]
      simpa [zipD] using h3
    unfold guardC at h
    split at h
    · rename_i hg
      obtain ⟨e, hw, hn⟩ := opStep_draw h
      exact key e ⟨hd, .inl ⟨hg, hw⟩⟩ hn
    · rename_i j want hg
      unfold caseG at h
      split at h
      · rename_i b hb
        split at h
        · rename_i hbw
          obtain ⟨e, hw, hn⟩ := opStep_draw h
          exact key e ⟨hd, .inr (.inl ⟨j, want, b, hg, hb, .inl ⟨hbw, hw⟩⟩)⟩ hn
        · rename_i hbw
          exact key skipE ⟨hd, .inr (.inl ⟨j, want, b, hg, hb, .inr ⟨hbw, rfl⟩⟩)⟩ h
      · rename_i hb
        exact key skipE ⟨hd, .inr (.inr ⟨j, want, hg, hb, rfl⟩)⟩ h
      · cases h

theorem text_at {X : Env1} {ops : List Oper} : ∀ (l : List Oper) (es : List Eff) (k : Nat) (σ : St), TextFrom X ops l es σ → ∀ i o e, l[i]? = some o → es[i]? = some e →
    Txt X ops o (foldS (fun m => decide (m < k + i)) k (zipD l es) σ) e
  | [], _, _, _, _, i, o, e, h, _ => by simp at h
  | o' :: l, [], _, _, h, _, _, _, _, _ => by simp [TextFrom] at h
  | o' :: l, e' :: es, k, σ, h, 0, o, e, ho, he => by
    simp only [List.getElem?_cons_zero, Option.some.injEq] at ho he
    subst ho he
    simp only [TextFrom] at h
    have hf : ∀ (l : List (Option Nat × Eff)) (j : Nat) (s : St), k ≤ j → foldS (fun m => decide (m < k + 0)) j l s = s := by
      intro l
      induction l with
      | nil => intro j s _; rfl
      | cons p r ih =>
        intro j s hj
        have : ¬ j < k + 0 := by omega
        simp only [foldS, this, decide_false]
        exact ih (j + 1) s (by omega)
    rw [hf _ k σ (Nat.le_refl _)]
    exact h.1
  | o' :: l, e' :: es, k, σ, h, i + 1, o, e, ho, he => by
    simp only [TextFrom] at h
    have := text_at l es (k + 1) _ h.2 i o e (by simpa using ho) (by simpa using he)
    simp only [zipD, List.map_cons, List.zip_cons_cons, foldS]
    have hk : k < k + (i + 1) := by omega
    simp only [hk, decide_true, if_true]
    rw [show k + (i + 1) = k + 1 + i by omega]
    simpa [zipD] using this

theorem count_set : ∀ (l : List Bool) (i : Nat), l[i]? = some false → (l.set i true).count false + 1 = l.count false
  | [], i, h => by simp at h
  | b :: l, 0, h => by
    simp only [List.getElem?_cons_zero, Option.some.injEq] at h
    subst h
    simp
  | b :: l, i + 1, h => by
    have := count_set l i (by simpa using h)
    simp only [List.set_cons_succ, List.count_cons]
    omega

section
variable {X : Env1} {C : Ctx}

theorem draw_any (hT : TOK X.P X.T) (hg : GOK X.gl C.E0.H) (hnt : C.nt = X.nt) {ops : List Oper} {es : List Eff} {σ : St} {Q : Exit → Act → World → Prop} (hlen : es.length = ops.length)
    (htext : TextFrom X ops ops es σ) (hcheck : checkDraw ops es = true)
    (hQ : ∀ E a w, Ga C E (foldS (fun _ => true) 0 (zipD ops es) σ) a w → Q .normal a w) :
    ∀ (fuel : Nat) (listed : Array Bool) (E : Env) (a : Act) (w : World), listed.size = ops.length → listed.toList.count false ≤ fuel →
      (∀ j, listed.getD j false = true → ∀ i, ((masks ops []).getD j 0).testBit i = true → listed.getD i false = true) →
      Ga C E (foldS (fun m => listed.getD m false) 0 (zipD ops es) σ) a w → wpAny X.P .any ops.toArray Q fuel listed a w := by
  -- what the check says
  have hck : ∀ (j : Nat) (oj : Oper) (ej : Eff), ops[j]? = some oj → es[j]? = some ej → (∀ d ∈ edges oj, d < j) ∧ ∀ (i : Nat) (oi : Oper) (ei : Eff), i < j → ops[i]? = some oi → es[i]? = some ei → conflict ops.toArray oi ei oj ej = true → ((masks ops []).getD j 0).testBit i = true := by
    intro j oj ej hoj hej
    have hjl : j < ops.length := (List.getElem?_eq_some_iff.1 hoj).1
    unfold checkDraw at hcheck
    rw [List.all_eq_true] at hcheck
    have hj := hcheck j (by simpa using hjl)
    simp only [hoj, hej, Bool.and_eq_true] at hj
    refine ⟨fun d hd => by simpa using List.all_eq_true.1 hj.1 d hd, ?_⟩
    intro i oi ei hij hoi hei hcf
    have hi := List.all_eq_true.1 hj.2 i (by simpa using hij)
    simp only [hoi, hei, hcf, Bool.not_true, Bool.false_or] at hi
    exact hi
  have hget : ∀ (i : Nat) (o : Oper) (e : Eff), ops[i]? = some o → es[i]? = some e → (zipD ops es)[i]? = some (o.dst, e) := by
    intro i o e ho he
    simp [zipD, List.getElem?_zip_eq_some, ho, he]
  have hget' : ∀ (i : Nat) (d : Option Nat) (e : Eff), (zipD ops es)[i]? = some (d, e) → ∃ o, ops[i]? = some o ∧ o.dst = d ∧ es[i]? = some e := by
    intro i d e h
    simp only [zipD, List.getElem?_zip_eq_some, List.getElem?_map, Option.map_eq_some_iff] at h
    obtain ⟨⟨o, ho, hd⟩, he⟩ := h
    exact ⟨o, ho, hd, he⟩
  -- the bits of an operation that is ready
  have hready : ∀ (S : Nat → Bool) (j : Nat) (oj : Oper), ops[j]? = some oj → (∀ d ∈ edges oj, S d = true) → (∀ k, S k = true → ∀ i, ((masks ops []).getD k 0).testBit i = true → S i = true) → ∀ i, ((masks ops []).getD j 0).testBit i = true → S i = true := by
    intro S j oj hoj hed hcl i hbit
    obtain ⟨ms', h1, h2⟩ := masks_at ops [] j oj hoj
    simp only [List.length_nil, Nat.zero_add] at h1
    rw [List.getD_eq_getElem?_getD, h1] at hbit
    simp only [Option.getD_some] at hbit
    rcases maskOf_bit ms' i _ 0 hbit with h0 | ⟨d, hd, h0⟩
    · simp at h0
    · rcases h0 with rfl | h0
      · exact hed d hd
      · rcases h2 d with h3 | h3
        · rw [h3] at h0; simp at h0
        · rw [h3] at h0
          exact hcl d (hed d hd) i h0
  have hallQ : ∀ (listed : Array Bool) (E : Env) (a : Act) (w : World), listed.size = ops.length → (∀ i, i < ops.length → listed.getD i false = true) → Ga C E (foldS (fun m => listed.getD m false) 0 (zipD ops es) σ) a w → Q .normal a w := by
    intro listed E a w hs hall hG
    refine hQ E a w (hG.of_ext ?_ ?_ ?_)
    · intro t
      refine foldS_slot t _ 0 σ σ (fun i d e hi _ => ?_) rfl
      obtain ⟨o, ho, _⟩ := hget' i d e hi
      rw [Nat.zero_add, hall i (List.getElem?_eq_some_iff.1 ho).1]
    · intro n
      refine foldS_obj n _ 0 σ σ (fun i d e hi _ => ?_) rfl
      obtain ⟨o, ho, _⟩ := hget' i d e hi
      rw [Nat.zero_add, hall i (List.getElem?_eq_some_iff.1 ho).1]
    · intro n hn
      rw [foldS_used] at hn ⊢
      rcases hn with hn | ⟨i, d, e, hi, _, hne⟩
      · exact .inl hn
      · exact .inr ⟨i, d, e, hi, rfl, hne⟩
  have hnil : ∀ (listed : Array Bool), listed.size = ops.length → Region.ready .any ops.toArray listed = [] → ∀ i, i < ops.length → listed.getD i false = true := by
    intro listed hs hnil i
    induction i using Nat.strongRecOn with
    | _ i ih =>
      intro hi
      cases hb : listed.getD i false with
      | true => rfl
      | false =>
        exfalso
        have hoi : ops[i]? = some ops[i] := List.getElem?_eq_getElem hi
        have hei : es[i]? = some es[i] := List.getElem?_eq_getElem (by omega)
        have hmem : i ∈ Region.ready .any ops.toArray listed := by
          unfold Region.ready
          rw [List.mem_filter]
          refine ⟨by simpa using hi, ?_⟩
          have h1 : listed.getD i true = false := by
            rw [Array.getD_eq_getD_getElem?] at hb ⊢
            rw [Array.getElem?_eq_getElem (by omega)] at hb ⊢
            simpa using hb
          simp only [h1, Bool.not_false, Bool.true_and, List.getElem?_toArray, hoi, Option.map_some, Option.getD_some]
          rw [Array.all_eq_true']
          intro ed hed
          by_cases hbd : Region.binds .any ed = true
          · have hlt := (hck i _ _ hoi hei).1 ed.on (List.mem_map_of_mem (List.mem_filter.2 ⟨by simpa using hed, hbd⟩))
            rw [ih ed.on hlt (by omega)]
            simp
          · simp [hbd]
        rw [hnil] at hmem
        simp at hmem
  intro fuel
  induction fuel with
  | zero =>
    intro listed E a w hs hcnt hcl hG
    have hall : ∀ i, i < ops.length → listed.getD i false = true := by
      intro i hi
      have h0 : listed.toList.count false = 0 := by omega
      rw [List.count_eq_zero] at h0
      rw [Array.getD_eq_getD_getElem?, Array.getElem?_eq_getElem (by omega)]
      simp only [Option.getD_some]
      cases hb : listed[i] with
      | true => rfl
      | false => exact absurd (by rw [← hb]; simp) h0
    refine ⟨?_, hallQ listed E a w hs hall hG⟩
    unfold Region.ready
    rw [List.filter_eq_nil_iff]
    intro i hi
    have hi' : i < ops.length := by simpa using hi
    have := hall i hi'
    have h1 : listed.getD i true = true := by
      rw [Array.getD_eq_getD_getElem?] at this ⊢
      rw [Array.getElem?_eq_getElem (by omega)] at this ⊢
      simpa using this
    simp [h1]
  | succ fuel ih =>
    intro listed E a w hs hcnt hcl hG
    refine ⟨fun hn => hallQ listed E a w hs (hnil listed hs hn) hG, ?_⟩
    intro i hi
    unfold Region.ready at hi
    rw [List.mem_filter] at hi
    obtain ⟨hi, hrd⟩ := hi
    have hi : i < ops.length := by simpa using hi
    have hoi : ops[i]? = some ops[i] := List.getElem?_eq_getElem hi
    have hei : es[i]? = some es[i] := List.getElem?_eq_getElem (by omega)
    generalize ops[i] = o at hoi hrd
    generalize es[i] = e at hei
    simp only [List.getElem?_toArray, hoi, Option.map_some, Option.getD_some, Bool.and_eq_true, Bool.not_eq_true'] at hrd
    obtain ⟨hun, hpre⟩ := hrd
    have hSi : listed.getD i false = false := by
      rw [Array.getD_eq_getD_getElem?] at hun ⊢
      rw [Array.getElem?_eq_getElem (by omega)] at hun ⊢
      simpa using hun
    have hed : ∀ d ∈ edges o, listed.getD d false = true := by
      intro d hd
      obtain ⟨ed, hed, rfl⟩ := List.mem_map.1 hd
      obtain ⟨hed, hbd⟩ := List.mem_filter.1 hed
      rw [Array.all_eq_true'] at hpre
      have := hpre ed (by simpa using hed)
      simpa [hbd] using this
    have hbits := hready (fun m => listed.getD m false) i o hoi hed hcl
    -- conflicts
    have hbefore : ∀ (j : Nat) (oj : Oper) (ej : Eff), j < i → ops[j]? = some oj → es[j]? = some ej → conflict ops.toArray oj ej o e = true → listed.getD j false = true :=
      fun j oj ej hj hoj hej hc => hbits j ((hck i o e hoi hei).2 j oj ej hj hoj hej hc)
    have hafter : ∀ (j : Nat) (oj : Oper) (ej : Eff), i < j → ops[j]? = some oj → es[j]? = some ej → conflict ops.toArray o e oj ej = true → listed.getD j false = false := by
      intro j oj ej hj hoj hej hc
      cases hb : listed.getD j false with
      | false => rfl
      | true =>
        have := hcl j hb i ((hck j oj ej hoj hej).2 i o e hj hoi hei hc)
        rw [hSi] at this
        cases this
    have htx := text_at ops es 0 σ htext i o e hoi hei
    rw [Nat.zero_add] at htx
    -- slots that are read
    have hslot : ∀ t, t ∈ o.looksAt ops.toArray → getS (foldS (fun m => decide (m < i)) 0 (zipD ops es) σ).slots t = getS (foldS (fun m => listed.getD m false) 0 (zipD ops es) σ).slots t := by
      intro t ht
      refine foldS_slot t _ 0 σ σ (fun j d e' hj hd => ?_) rfl
      rw [Nat.zero_add]
      obtain ⟨oj, hoj, hdj, hej⟩ := hget' j d e' hj
      rw [hd] at hdj
      rcases Nat.lt_trichotomy j i with hlt | heq | hgt
      · have hc : conflict ops.toArray oj e' o e = true := by
          simp only [conflict, hdj, List.contains_eq_mem, ht, decide_true, Bool.true_or]
        rw [hbefore j oj e' hlt hoj hej hc]
        simp [hlt]
      · subst heq
        rw [hSi]
        simp
      · have hc : conflict ops.toArray o e oj e' = true := by
          simp only [conflict, hdj, List.contains_eq_mem, ht, decide_true, Bool.or_true, Bool.true_or]
        rw [hafter j oj e' hgt hoj hej hc]
        simp; omega
    have hobj : ∀ n, n ∈ e.rd → getO (foldS (fun m => decide (m < i)) 0 (zipD ops es) σ).objs n = getO (foldS (fun m => listed.getD m false) 0 (zipD ops es) σ).objs n := by
      intro n hn
      refine foldS_obj n _ 0 σ σ (fun j d e' hj hd => ?_) rfl
      rw [Nat.zero_add]
      obtain ⟨oj, hoj, hdj, hej⟩ := hget' j d e' hj
      rcases Nat.lt_trichotomy j i with hlt | heq | hgt
      · have hc : conflict ops.toArray oj e' o e = true := by
          simp only [conflict, Bool.or_eq_true, List.any_eq_true]
          exact .inl (.inr ⟨n, hd, .inl (by simpa using hn)⟩)
        rw [hbefore j oj e' hlt hoj hej hc]
        simp [hlt]
      · subst heq
        rw [hSi]
        simp
      · have hc : conflict ops.toArray o e oj e' = true := by
          simp only [conflict, Bool.or_eq_true, List.any_eq_true]
          exact .inr ⟨n, hd, by simpa using hn⟩
        rw [hafter j oj e' hgt hoj hej hc]
        simp; omega
    have hval : ∀ x ∈ o.op.operands, (foldS (fun m => decide (m < i)) 0 (zipD ops es) σ).val X.gl x = (foldS (fun m => listed.getD m false) 0 (zipD ops es) σ).val X.gl x := by
      intro x hx
      cases x with
      | tmp t =>
        refine hslot t ?_
        simp only [Oper.looksAt, List.mem_append, List.mem_filterMap]
        exact .inl ⟨.tmp t, by simpa using hx, rfl⟩
      | const v => rfl
      | func f => rfl
      | global g => rfl
    -- new names
    have hnw : ∀ (j : Nat) (oj : Oper) (ej : Eff), ops[j]? = some oj → es[j]? = some ej → ∀ n ∈ ej.nw, n ∉ (foldS (fun m => decide (m < j)) 0 (zipD ops es) σ).used := by
      intro j oj ej hoj hej n hn
      have := text_at ops es 0 σ htext j oj ej hoj hej
      rw [Nat.zero_add] at this
      have key : ∀ s, OpW X oj s ej → ∀ n ∈ ej.nw, n ∉ s.used := by
        intro s hw
        cases hw with
        | step r hs hc hnn => exact hnn
        | call f args objs x objs' hf hac hsub hnn => exact hnn
        | callR f args ro objs x objs' hf hac hro hsub hnn => exact hnn
      rcases this.2 with ⟨_, hw⟩ | ⟨_, _, _, _, _, ⟨_, hw⟩ | ⟨_, rfl⟩⟩ | ⟨_, _, _, _, rfl⟩
      · exact key _ hw n hn
      · exact key _ hw n hn
      · simp [skipE] at hn
      · simp [skipE] at hn
    have hnew : ∀ n ∈ e.nw, n ∉ (foldS (fun m => listed.getD m false) 0 (zipD ops es) σ).used := by
      intro n hn hu
      rw [foldS_used] at hu
      have h0 := hnw i o e hoi hei n hn
      rw [foldS_used] at h0
      simp only [not_or, not_exists, not_and] at h0
      rcases hu with hu | ⟨j, d, ej, hj, hSj, hnj⟩
      · exact h0.1 hu
      · rw [Nat.zero_add] at hSj
        obtain ⟨oj, hoj, hdj, hej⟩ := hget' j d ej hj
        rcases Nat.lt_trichotomy j i with hlt | heq | hgt
        · exact h0.2 j d ej hj (by simpa using hlt) hnj
        · subst heq; rw [hSi] at hSj; cases hSj
        · have h1 := hnw j oj ej hoj hej n hnj
          rw [foldS_used] at h1
          simp only [not_or, not_exists, not_and] at h1
          exact h1.2 i o.dst e (hget i o e hoi hei) (by simpa using hgt) hn
    have hd : ∀ d, o.dst = some d → d < C.nt := by
      intro d hd'
      have := htx.1
      rw [hd'] at this
      rw [hnt]
      exact this
    -- the state behind it
    have hnext : ∀ E' a' w', Ga C E' ((foldS (fun m => listed.getD m false) 0 (zipD ops es) σ).eff o.dst e) a' w' → wpAny X.P .any ops.toArray Q fuel (listed.setIfInBounds i true) a' w' := by
      intro E' a' w' hG'
      have hS' : (fun m => (listed.setIfInBounds i true).getD m false) = fun m => m == 0 + i || listed.getD m false := by
        funext m
        rw [Nat.zero_add, Array.getD_eq_getD_getElem?, Array.getD_eq_getD_getElem?]
        by_cases e1 : m = i
        · subst e1
          rw [Array.getElem?_setIfInBounds_self_of_lt (by omega)]
          simp
        · rw [Array.getElem?_setIfInBounds_ne (fun h => e1 h.symm)]
          simp [e1]
      refine ih (listed.setIfInBounds i true) E' a' w' (by simpa using hs) ?_ ?_ ?_
      · have := count_set listed.toList i (by
          rw [Array.getElem?_toList, Array.getElem?_eq_getElem (by omega)]
          rw [Array.getD_eq_getD_getElem?, Array.getElem?_eq_getElem (by omega)] at hSi
          simpa using hSi)
        rw [Array.toList_setIfInBounds]
        omega
      · intro j hj k hk
        have e1 : ∀ m, (listed.setIfInBounds i true).getD m false = (m == 0 + i || listed.getD m false) := fun m => congrFun hS' m
        rw [e1] at hj ⊢
        simp only [Nat.zero_add, Bool.or_eq_true, beq_iff_eq] at hj ⊢
        right
        rcases hj with rfl | hj
        · exact hbits k hk
        · exact hcl j hj k hk
      · rw [hS']
        refine hG'.of_ext ?_ ?_ ?_
        · intro t
          rw [foldS_slot_add t _ 0 i o.dst e σ (hget i o e hoi hei) (by simpa using hSi)]
          · simp [St.eff, getS_putS]
          · intro hdt j d' e' hij hj hSj hd'
            rw [Nat.zero_add] at hSj
            obtain ⟨oj, hoj, hdj, hej⟩ := hget' j d' e' hj
            rw [hd'] at hdj
            have hc : conflict ops.toArray o e oj e' = true := by simp [conflict, hdt, hdj]
            have := hafter j oj e' hij hoj hej hc
            rw [hSj] at this
            cases this
        · intro n
          rw [foldS_obj_add n _ 0 i o.dst e σ (hget i o e hoi hei) (by simpa using hSi)]
          · simp only [St.eff, getO_updAll]
            cases lookW e.wr n <;> rfl
          · intro hdt j d' e' hij hj hSj hd'
            rw [Nat.zero_add] at hSj
            obtain ⟨oj, hoj, hdj, hej⟩ := hget' j d' e' hj
            have hc : conflict ops.toArray o e oj e' = true := by
              simp only [conflict, Bool.or_eq_true, List.any_eq_true]
              exact .inl (.inr ⟨n, hdt, .inr (by simpa using hd')⟩)
            have := hafter j oj e' hij hoj hej hc
            rw [hSj] at this
            cases this
        · intro n hn
          simp only [St.eff, List.mem_append] at hn
          rw [foldS_used]
          rw [foldS_used] at hn
          rcases hn with hn | hn | ⟨j, d, ej, hj, hSj, hnj⟩
          · exact .inr ⟨i, o.dst, e, hget i o e hoi hei, by simp, hn⟩
          · exact .inl hn
          · exact .inr ⟨j, d, ej, hj, by rw [hSj]; simp, hnj⟩
    unfold wpOp
    simp only [List.getElem?_toArray, hoi]
    have hrun : OpW X o (foldS (fun m => decide (m < i)) 0 (zipD ops es) σ) e → o.wp X.P a w (wpAny X.P .any ops.toArray Q fuel (listed.setIfInBounds i true)) Q := fun hw =>
      (hw.congr ⟨hval, hobj, hnew⟩).sound hT hg hG hd hnext
    rcases htx.2 with ⟨hgn, hw⟩ | ⟨j, want, b, hgs, hgv, hor⟩ | ⟨j, want, hgs, hgv, rfl⟩
    · rw [if_pos (by simp [Region.wanted, hgn])]
      exact .inl (hrun hw)
    · have hgv' : gv ops (foldS (fun m => listed.getD m false) 0 (zipD ops es) σ) j = .pv (.bool b) := by
        rw [← hgv]
        unfold gv
        split
        · rename_i oj hoj
          split
          · rename_i d hdj
            refine (hslot d ?_).symm
            simp only [Oper.looksAt, List.mem_append]
            right
            simp [hgs, hoj, hdj]
          · rfl
        · rfl
      have hy := yield_of hG hgv'
      rcases hor with ⟨hbw, hw⟩ | ⟨hbw, rfl⟩
      · rw [if_pos (by simp [Region.wanted, hgs, hy, hbw])]
        exact .inl (hrun hw)
      · rw [if_neg (by simp [Region.wanted, hgs, hy, hbw])]
        exact hnext E _ w (skip_ga hG hd)
    · have hgv' : gv ops (foldS (fun m => listed.getD m false) 0 (zipD ops es) σ) j = .pv (.tuple []) := by
        rw [← hgv]
        unfold gv
        split
        · rename_i oj hoj
          split
          · rename_i d hdj
            refine (hslot d ?_).symm
            simp only [Oper.looksAt, List.mem_append]
            right
            simp [hgs, hoj, hdj]
          · rfl
        · rfl
      have hy := yield_none hG hgv'
      rw [if_neg (by simp [Region.wanted, hgs, hy])]
      exact hnext E _ w (skip_ga hG hd)
end
end Go.Lg
/- Code: sequences, tests, blocks, loops; and functions. -/
namespace Go.Lg

inductive AEx where
  | normal
  | exit (id : Nat)
  | ret
  | panic (p : PV)
def ERel (E : Env) : AEx → Exit → Prop
  | .normal, e => e = .normal
  | .exit i, e => e = .exit i
  | .ret, e => e = .ret
  | .panic p, e => ∃ v, e = .panic [{ v, recovered := false }] ∧ RepP E.H p v

structure COK (X : Env1) (C : Ctx) : Prop where
  glob : GOK X.gl C.E0.H
  nt : C.nt = X.nt
  given : ∀ n o, getO C.given n = some o → n ∈ X.given
  ms : ∀ n ∈ C.ms, n ∈ X.given
  defs : ∀ n ∈ namesD C.defs, n ∈ X.given

def APost (C : Ctx) (Q : AEx → St → Prop) (e : Exit) (a : Act) (w : World) : Prop := ∃ E σ ae, Ga C E σ a w ∧ ERel E ae e ∧ Q ae σ
def AWP (X : Env1) (c : Code) (σ : St) (Q : AEx → St → Prop) : Prop :=
  ∀ C E a w, COK X C → Ga C E σ a w → c.wp X.P (APost C Q) a w

def thenQ (next : St → Prop) (Q : AEx → St → Prop) : AEx → St → Prop
  | .normal, σ => next σ
  | e, σ => Q e σ
def blockQ (id : Nat) (Q : AEx → St → Prop) : AEx → St → Prop
  | .exit i, σ => if i = id then Q .normal σ else Q (.exit i) σ
  | e, σ => Q e σ

@[congr] theorem thenQ_congr {next : St → Prop} {Q : AEx → St → Prop} {e e' : AEx} {σ σ' : St} (h : e = e') (h' : σ = σ') : thenQ next Q e σ = thenQ next Q e' σ' := by rw [h, h']
@[congr] theorem blockQ_congr {id : Nat} {Q : AEx → St → Prop} {e e' : AEx} {σ σ' : St} (h : e = e') (h' : σ = σ') : blockQ id Q e σ = blockQ id Q e' σ' := by rw [h, h']
@[congr] theorem AWP_congr {X : Env1} {c : Code} {σ σ' : St} {Q : AEx → St → Prop} (h : σ = σ') : AWP X c σ Q = AWP X c σ' Q := by rw [h]
theorem thenQ_panic (next : St → Prop) (Q : AEx → St → Prop) (p : PV) (σ : St) : thenQ next Q (.panic p) σ = Q (.panic p) σ := rfl
theorem blockQ_same (id : Nat) (Q : AEx → St → Prop) (σ : St) : blockQ id Q (.exit id) σ = Q .normal σ := by simp [blockQ]
theorem blockQ_other {id i : Nat} (h : (i == id) = false) (Q : AEx → St → Prop) (σ : St) : blockQ id Q (.exit i) σ = Q (.exit i) σ := by
  have : ¬ i = id := by simpa using h
  simp [blockQ, this]
theorem blockQ_panic (id : Nat) (Q : AEx → St → Prop) (p : PV) (σ : St) : blockQ id Q (.panic p) σ = Q (.panic p) σ := rfl
def caseB (v : V) (yes no : Prop) : Prop := match v with
  | .pv (.bool b) => (b = true → yes) ∧ (b = false → no)
  | _ => False
theorem caseB_true (yes no : Prop) : caseB (.pv (.bool true)) yes no = yes := by simp [caseB]
theorem caseB_false (yes no : Prop) : caseB (.pv (.bool false)) yes no = no := by simp [caseB]
theorem caseB_dec {p : Prop} [Decidable p] {yes no : Prop} (h1 : p → yes) (h2 : ¬ p → no) : caseB (.pv (.bool (decide p))) yes no := ⟨fun h => h1 (by simpa using h), fun h => h2 (by simpa using h)⟩
@[congr] theorem caseB_congr {v v' : V} {yes no : Prop} (h : v = v') : caseB v yes no = caseB v' yes no := by rw [h]

/-- What code does to a state. -/
def exec (X : Env1) : Code → St → (AEx → St → Prop) → Prop
  | .skip, σ, Q => Q .normal σ
  | .seq a b, σ, Q => exec X a σ (thenQ (fun σ' => exec X b σ' Q) Q)
  | .cond c x y, σ, Q => caseB (σ.val X.gl c) (exec X x σ Q) (exec X y σ Q)
  | .block id b, σ, Q => exec X b σ (blockQ id Q)
  | .exit id, σ, Q => Q (.exit id) σ
  | .ret, σ, Q => Q .ret σ
  | .region _ ops false, σ, Q => runOps X false ops.toList (fun σ' _ => Q .normal σ') (fun p σ' => Q (.panic p) σ') ops.toList σ []
  | .region _ ops true, σ, Q => runOps X true ops.toList (fun σ' tr => checkDraw ops.toList tr = true ∧ Q .normal σ') (fun _ _ => False) ops.toList σ []
  | .loop b, σ, Q => AWP X (.loop b) σ Q
  | _, _, _ => False

@[congr] theorem exec_congr {X : Env1} {c : Code} {σ σ' : St} {Q : AEx → St → Prop} (h : σ = σ') : exec X c σ Q = exec X c σ' Q := by rw [h]

theorem AWP.mono {X : Env1} {c : Code} {σ : St} {Q Q' : AEx → St → Prop} (h : AWP X c σ Q) (hq : ∀ e σ, Q e σ → Q' e σ) : AWP X c σ Q' :=
  fun C E a w hC hG => wp_mono (h C E a w hC hG) fun _ _ _ ⟨E', σ', ae, h1, h2, h3⟩ => ⟨E', σ', ae, h1, h2, hq _ _ h3⟩

theorem AWP.seq {X : Env1} {x y : Code} {σ : St} {Q : AEx → St → Prop} (h : AWP X x σ (thenQ (fun σ' => AWP X y σ' Q) Q)) : AWP X (.seq x y) σ Q := by
  intro C E a w hC hG
  refine wp_seq (wp_mono (h C E a w hC hG) ?_)
  rintro e a' w' ⟨E', σ', ae, hG', hr, hq⟩
  cases ae with
  | normal => cases hr; exact hq C E' a' w' hC hG'
  | exit i => cases hr; exact ⟨E', σ', .exit i, hG', rfl, hq⟩
  | ret => cases hr; exact ⟨E', σ', .ret, hG', rfl, hq⟩
  | panic p => obtain ⟨v, rfl, hv⟩ := hr; exact ⟨E', σ', .panic p, hG', ⟨v, rfl, hv⟩, hq⟩
theorem AWP.block {X : Env1} {id : Nat} {x : Code} {σ : St} {Q : AEx → St → Prop} (h : AWP X x σ (blockQ id Q)) : AWP X (.block id x) σ Q := by
  intro C E a w hC hG
  refine wp_block (wp_mono (h C E a w hC hG) ?_)
  rintro e a' w' ⟨E', σ', ae, hG', hr, hq⟩
  cases ae with
  | normal => cases hr; exact ⟨E', σ', .normal, hG', rfl, hq⟩
  | exit i =>
    cases hr
    simp only [blockQ] at hq
    simp only [Exit.inBlock]
    split
    · rename_i e; rw [if_pos e] at hq; exact ⟨E', σ', .normal, hG', rfl, hq⟩
    · rename_i e; rw [if_neg e] at hq; exact ⟨E', σ', .exit i, hG', rfl, hq⟩
  | ret => cases hr; exact ⟨E', σ', .ret, hG', rfl, hq⟩
  | panic p => obtain ⟨v, rfl, hv⟩ := hr; exact ⟨E', σ', .panic p, hG', ⟨v, rfl, hv⟩, hq⟩

theorem exec_sound {X : Env1} (hT : TOK X.P X.T) (hm : X.P.follows .mixedOrders = true) : ∀ (c : Code) (σ : St) (Q : AEx → St → Prop), exec X c σ Q → AWP X c σ Q
  | .skip, σ, Q, h => fun C E a w hC hG => wp_skip ⟨E, σ, .normal, hG, rfl, h⟩
  | .seq x y, σ, Q, h => by
    simp only [exec] at h
    refine AWP.seq (AWP.mono (exec_sound hT hm x σ _ h) ?_)
    intro e σ' hq
    cases e with
    | normal => exact exec_sound hT hm y σ' Q hq
    | exit i => exact hq
    | ret => exact hq
    | panic p => exact hq
  | .cond c x y, σ, Q, h => by
    intro C E a w hC hG
    simp only [exec] at h
    have hv := val_rep hG hC.glob c
    unfold caseB at h
    split at h
    · rename_i b e
      rw [e] at hv
      exact wp_cond_split (rep_bool hv) (fun hb => exec_sound hT hm x σ Q (h.1 hb) C E a w hC hG) (fun hb => exec_sound hT hm y σ Q (h.2 hb) C E a w hC hG)
    · cases h
  | .block id x, σ, Q, h => by
    simp only [exec] at h
    exact AWP.block (exec_sound hT hm x σ _ h)
  | .exit id, σ, Q, h => fun C E a w hC hG => wp_exit ⟨E, σ, .exit id, hG, rfl, h⟩
  | .ret, σ, Q, h => fun C E a w hC hG => wp_ret ⟨E, σ, .ret, hG, rfl, h⟩
  | .region id ops false, σ, Q, h => by
    intro C E a w hC hG
    simp only [exec] at h
    refine wp_region_list ?_
    have := runOps_seq (X := X) (C := C) (Q := APost C Q) hT hC.glob hC.nt (ops := ops.toList) (fun E σ tr a w hG hK => ⟨E, σ, .normal, hG, rfl, hK⟩) (fun E σ p v a w hG hq hv => ⟨E, σ, .panic p, hG, ⟨v, rfl, hv⟩, hq⟩) ops.toList σ [] E a w h hG
    simpa using this
  | .region id ops true, σ, Q, h => by
    intro C E a w hC hG
    simp only [exec] at h
    obtain ⟨es, hl, ht, hc, hq⟩ := runOps_text _ _ _ h
    simp only [List.nil_append] at hc
    refine wp_region_any hm ?_
    have hG' : Ga C E σ a { w with drawn := w.drawn + 1 } := hG.drew
    have := draw_any (X := X) (C := C) (Q := APost C Q) hT hC.glob hC.nt hl ht hc (fun E a w hG => ⟨E, _, .normal, hG, rfl, hq⟩) ops.size (Array.replicate ops.size false) E a _ (by simp) (by
      simp [List.count_replicate]) (by
      intro j hj i _
      rw [Array.getD_eq_getD_getElem?] at hj
      by_cases hlt : j < ops.size
      · rw [Array.getElem?_replicate, if_pos hlt] at hj; simp at hj
      · rw [Array.getElem?_replicate, if_neg hlt] at hj; simp at hj) (hG'.of_ext (by
        intro t
        rw [foldS_slot (S' := fun _ => false) t _ 0 σ σ (fun i d e _ _ => ?_) rfl]
        · have hf : ∀ (r : List (Option Nat × Eff)) (k : Nat) (s : St), foldS (fun _ => false) k r s = s := by
            intro r; induction r with
            | nil => intro k s; rfl
            | cons p r ih => intro k s; simp [foldS, ih]
          rw [hf]
        · rw [Array.getD_eq_getD_getElem?, Array.getElem?_replicate]
          split <;> rfl) (by
        intro n
        rw [foldS_obj (S' := fun _ => false) n _ 0 σ σ (fun i d e _ _ => ?_) rfl]
        · have hf : ∀ (r : List (Option Nat × Eff)) (k : Nat) (s : St), foldS (fun _ => false) k r s = s := by
            intro r; induction r with
            | nil => intro k s; rfl
            | cons p r ih => intro k s; simp [foldS, ih]
          rw [hf]
        · rw [Array.getD_eq_getD_getElem?, Array.getElem?_replicate]
          split <;> rfl) (by
        intro n hn
        rw [foldS_used]
        exact .inl hn))
    simpa using this
  | .loop b, σ, Q, h => h
  | .rangeFunc _ _ _ _, _, _, h => h.elim
  | .scope _, _, _, h => h.elim
  | .label _, _, _, h => h.elim
  | .goto _, _, _, h => h.elim
  | .refuse _, _, _, h => h.elim

/-- A state that knows less. -/
def subL : List Nat → List Nat → Prop
  | [], _ => True
  | n :: r, u => n ∈ u ∧ subL r u
def slotsLe : List (Nat × V) → List (Nat × V) → Prop
  | [], _ => True
  | (t, x) :: r, l => getS l t = x ∧ slotsLe r l
def namesSl : List (Nat × V) → List Nat
  | [] => []
  | (_, x) :: r => x.names ++ namesSl r
def namesOb : List (Nat × Ob) → List Nat
  | [] => []
  | (n, o) :: r => n :: o.names ++ namesOb r
structure Weak (X : Env1) (σ τ : St) : Prop where
  slots : slotsLe τ.slots σ.slots
  objs : subO τ.objs σ.objs
  names : subL (namesSl τ.slots ++ namesOb τ.objs ++ X.given) τ.used

theorem subL_spec : ∀ {l u : List Nat}, subL l u → ∀ n ∈ l, n ∈ u
  | [], _, _, n, h => by simp at h
  | k :: r, u, hf, n, h => by
    simp only [subL] at hf
    rcases List.mem_cons.1 h with rfl | h
    · exact hf.1
    · exact subL_spec hf.2 n h
theorem slotsLe_spec : ∀ {l m : List (Nat × V)}, slotsLe l m → ∀ t, getS l t = .undef ∨ getS l t = getS m t
  | [], _, _, t => .inl rfl
  | (k, x) :: r, m, h, t => by
    simp only [slotsLe] at h
    simp only [getS]
    split
    · rename_i e; subst e; exact .inr h.1.symm
    · exact slotsLe_spec h.2 t
theorem namesSl_get {l : List (Nat × V)} {t n : Nat} (h : n ∈ (getS l t).names) : n ∈ namesSl l := by
  induction l with
  | nil => simp [getS, V.names] at h
  | cons p r ih =>
    obtain ⟨k, x⟩ := p
    simp only [getS] at h
    simp only [namesSl, List.mem_append]
    split at h
    · exact .inl h
    · exact .inr (ih h)
theorem namesOb_get {l : List (Nat × Ob)} {m : Nat} {o : Ob} (h : getO l m = some o) : m ∈ namesOb l ∧ ∀ n ∈ o.names, n ∈ namesOb l := by
  induction l with
  | nil => simp [getO] at h
  | cons p r ih =>
    obtain ⟨k, x⟩ := p
    simp only [getO] at h
    split at h
    · rename_i e; cases h; subst e
      exact ⟨by simp [namesOb], fun n hn => by simp [namesOb, hn]⟩
    · obtain ⟨h1, h2⟩ := ih h
      exact ⟨by simp [namesOb, h1], fun n hn => by simp [namesOb, h2 n hn]⟩

theorem Weak.ga {X : Env1} {σ τ : St} (h : Weak X σ τ) {C : Ctx} (hC : COK X C) {E : Env} {a : Act} {w : World} (hG : Ga C E σ a w) : Ga C E τ a w := by
  have hs := slotsLe_spec h.slots
  have ho := subO_spec h.objs
  have hn := subL_spec h.names
  refine ⟨?_, hG.size, ⟨hG.defers.1, fun n hm => hn n (by simp [hC.defs n hm])⟩, hG.heap, fun n o hno => hG.objs n o (ho n o hno), fun n m o o' hno hmo => hG.apart n m o o' (ho n o hno) (ho m o' hmo), ?_, ?_, ?_, hG.grown, hG.rest, hG.same, hG.hle, fun n o b hno => hG.own n o b (ho n o hno), hG.ext, fun n hm => ⟨hn n (by simp [hC.ms n hm]), ?_, (hG.keep n hm).2.2⟩⟩
  rotate_left 4
  · cases e : getO τ.objs n with
    | none => rfl
    | some o =>
      have := ho n o e
      rw [(hG.keep n hm).2.1] at this
      cases this
  · intro t
    rcases hs t with e | e
    · rw [e]; simp [RepV]
    · rw [e]; exact hG.slots t
  · intro t n hnn
    exact hn n (by simp [namesSl_get hnn])
  · intro n o hno
    obtain ⟨h1, h2⟩ := namesOb_get hno
    exact ⟨hn n (by simp [h1]), fun m hm => hn m (by simp [h2 m hm])⟩
  · intro n o hno
    exact hn n (by simp [hC.given n o hno])
theorem AWP.weaken {X : Env1} {c : Code} {σ τ : St} {Q : AEx → St → Prop} (hw : Weak X σ τ) (h : AWP X c τ Q) : AWP X c σ Q :=
  fun C E a w hC hG => h C E a w hC (hw.ga hC hG)

theorem exists_least {p : Nat → Prop} (h : ∃ m, p m) : ∃ m, p m ∧ ∀ k, p k → m ≤ k := by
  obtain ⟨m, hm⟩ := h
  induction m using Nat.strongRecOn with
  | _ m ih =>
    by_cases hk : ∃ k, k < m ∧ p k
    · obtain ⟨k, hlt, hp⟩ := hk
      exact ih k hlt hp
    · refine ⟨m, hm, fun k hp => ?_⟩
      apply Nat.le_of_not_lt
      intro hlt
      exact hk ⟨k, hlt, hp⟩

open Classical in
/-- A loop: what holds at its head, for an index that goes down. -/
theorem AWP.loop {X : Env1} {b : Code} {σ : St} {Q : AEx → St → Prop} {ι : Type} (I : ι → St) (μ : ι → Nat) (i₀ : ι) (h0 : Weak X σ (I i₀))
    (hr : ∀ i, AWP X b (I i) (thenQ (fun σ' => ∃ j, μ j < μ i ∧ Weak X σ' (I j)) Q)) : AWP X (.loop b) σ Q := by
  intro C E a w hC hG
  let ok (a : Act) (w : World) (m : Nat) : Prop := ∃ i E, Ga C E (I i) a w ∧ μ i = m
  let M (a : Act) (w : World) : Nat := if h : ∃ m, ok a w m then Classical.choose (exists_least h) else 0
  have hMs : ∀ a w (h : ∃ m, ok a w m), ok a w (M a w) ∧ ∀ k, ok a w k → M a w ≤ k := by
    intro a w h
    have : M a w = Classical.choose (exists_least h) := by simp only [M]; rw [dif_pos h]
    rw [this]
    exact Classical.choose_spec (exists_least h)
  refine wp_loop (fun a w => ∃ m, ok a w m) M ⟨μ i₀, i₀, E, h0.ga hC hG, rfl⟩ ?_
  intro a w hI
  obtain ⟨⟨i, E, hG, hi⟩, _⟩ := hMs a w hI
  refine wp_mono (hr i C E a w hC hG) ?_
  rintro e a' w' ⟨E', σ', ae, hG', hrel, hq⟩
  cases ae with
  | normal =>
    cases hrel
    obtain ⟨j, hj, hw⟩ := hq
    have hok : ∃ m, ok a' w' m := ⟨μ j, j, E', hw.ga hC hG', rfl⟩
    refine ⟨hok, ?_⟩
    rw [← hi]
    exact Nat.lt_of_le_of_lt ((hMs a' w' hok).2 _ ⟨j, E', hw.ga hC hG', rfl⟩) hj
  | exit i => cases hrel; exact ⟨E', σ', .exit i, hG', rfl, hq⟩
  | ret => cases hrel; exact ⟨E', σ', .ret, hG', rfl, hq⟩
  | panic p => obtain ⟨v, rfl, hv⟩ := hrel; exact ⟨E', σ', .panic p, hG', ⟨v, rfl, hv⟩, hq⟩
end Go.Lg
/- Functions: from their bodies to their contracts; arrays that are done. -/
namespace Go.Lg

theorem TIOK.mk' {P : Program} {t : Nat} {ti : TI} {d : TypeDesc} (h1 : (P.info? t).map (fun i => (i.size, i.bytes, i.zero)) = some (ti.size, ti.bytes, some ti.zero)) (h2 : P.underlying t = some d) (hk : TKOK P d ti.k)
    (h3 : ti.zero.cells.size = ti.size) (h4 : RepL (fun _ => []) ti.zc ti.zero.cells.toList) (h5 : ti.zc.length = ti.size) (h6 : ti.k.isIface = true ∨ P.concrete t = true) : TIOK P t ti := by
  refine ⟨?_, ⟨d, h2, hk⟩, h3, h4, h5, h6⟩
  cases hi : P.info? t with
  | none => rw [hi] at h1; cases h1
  | some i =>
    rw [hi] at h1
    simp only [Option.map_some, Option.some.injEq, Prod.mk.injEq] at h1
    exact ⟨i, rfl, h1.1, h1.2.1, h1.2.2⟩

def resOne (X : Env1) (σ : St) : ResultVar → Option V
  | .tmp t => some (getS σ.slots t)
  | .cell a t => match X.T t, getS σ.slots a with
    | some ti, .loc n off => match getO σ.objs n with
      | some (.box cs) => rdV ti.isAgg ti.size (cs.drop off)
      | _ => none
    | _, _ => none
def resL (X : Env1) (σ : St) : List ResultVar → Option (List V)
  | [] => some []
  | r :: rs => match resOne X σ r, resL X σ rs with
    | some x, some xs => some (x :: xs)
    | _, _ => none
def mkTup (xs : List V) : V := match xs with
  | [x] => x
  | xs => match unL xs with
    | some ps => .pv (.tuple ps)
    | none => .tuple xs
def resV (X : Env1) (σ : St) (rs : List ResultVar) : Option V := (resL X σ rs).map mkTup

theorem mkTup_rep {E : Env} {xs : List V} {vs : Array Value} (hl : vs.size = xs.length) (r : RepVL E xs vs.toList) : RepV E (mkTup xs) (if h : vs.size = 1 then vs[0] else .tuple vs) := by
  unfold mkTup
  split
  · rename_i x
    have h1 : vs.size = 1 := by simpa using hl
    rw [dif_pos h1]
    have : vs.toList = [vs[0]] := by
      apply List.ext_getElem
      · simpa using h1
      · intro i h1 h2
        have : i = 0 := by simp at h2; omega
        subst this
        simp
    rw [this] at r
    simpa [RepVL] using r
  · rename_i hne
    have h1 : ¬ vs.size = 1 := by
      intro h1
      rw [h1] at hl
      cases xs with
      | nil => simp at hl
      | cons x xs =>
        cases xs with
        | nil => exact hne x rfl
        | cons y ys => simp at hl
    rw [dif_neg h1]
    split
    · rename_i ps e
      simp only [RepV, RepP]
      exact ⟨vs.toList, by simp, by rw [unL_len e]; simpa using hl, RepVL.toPv e r⟩
    · simp only [RepV]
      exact ⟨vs.toList, by simp, by simpa using hl, r⟩

section
variable {X : Env1} {C : Ctx} {E : Env} {σ : St} {a : Act} {w : World}

theorem res_one (hT : TOK X.P X.T) (h : Ga C E σ a w) {r : ResultVar} {x : V} (hr : resOne X σ r = some x) :
    ∃ v, ((match r with
      | .tmp t => pure (a.tmps.getD t undef)
      | .cell b t => do loadVar t (← asAddr (a.tmps.getD b undef))) : Sem Value).run X.P w = .ok v w ∧ RepV E x v := by
  cases r with
  | tmp t =>
    simp only [resOne, Option.some.injEq] at hr
    subst hr
    exact ⟨_, rfl, h.slots t⟩
  | cell b t =>
    simp only [resOne] at hr
    split at hr
    · rename_i ti n off et eb
      split at hr
      · rename_i cs eo
        have hti := hT t ti et
        have hx := h.slots b
        rw [eb] at hx
        simp only [RepV] at hx
        obtain ⟨bb, hgn, hv⟩ := hx
        obtain ⟨b', c, T', hgn', hcell, hsz, hrr, _⟩ := h.objs n _ eo
        rw [hgn] at hgn'
        cases hgn'
        obtain ⟨h1, h2, h3⟩ := rdV_rep hr (hrr.drop off)
        have hload : ∀ v, (Instr.loadAt t (.pointer (some ⟨bb, off, none⟩))).run X.P w = .ok v w → (do loadVar t (← asAddr (a.tmps.getD b undef)) : Sem Value).run X.P w = .ok v w := by
          intro v hl
          rw [hv]
          simp only [Instr.loadAt, Instr.sureAddr, Sem.run_bind, Sem.run_pure, Result.andThen_ok] at hl
          simp only [asAddr, Sem.run_bind, Sem.run_pure, Result.andThen_ok]
          exact hl
        cases hagg : ti.isAgg with
        | true =>
          obtain ⟨hle, hy⟩ := h1 hagg
          by_cases h0 : off + ti.size ≤ c.size
          · exact ⟨_, hload _ (run_loadAt_agg hti hagg hcell h0), hy⟩
          · have h00 : ti.size = 0 := by simp at hle; omega
            have hll : (loadCells ⟨bb, off, none⟩ 0).run X.P w = .ok #[] w := by simp [loadCells, loadCellsFrom]
            rw [h00] at hy
            refine ⟨_, hload _ ?_, hy⟩
            simp [Instr.loadAt, Instr.sureAddr, loadVar, hti.run_agg, hagg, hti.run_size, h00, hll]
        | false =>
          obtain ⟨v, hv0, hy⟩ := h2 hagg
          have hget : c[off]? = some v := by simpa using hv0
          exact ⟨v, hload _ (run_loadAt_one hti hagg hcell hget), hy⟩
      · cases hr
    · cases hr

theorem res_list (hT : TOK X.P X.T) (h : Ga C E σ a w) : ∀ {rs : List ResultVar} {xs : List V}, resL X σ rs = some xs →
    ∃ vs : List Value, (rs.mapM fun r => match r with
      | .tmp t => pure (a.tmps.getD t undef)
      | .cell b t => do loadVar t (← asAddr (a.tmps.getD b undef)) : Sem (List Value)).run X.P w = .ok vs w ∧ vs.length = xs.length ∧ RepVL E xs vs
  | [], xs, hr => by
    simp only [resL, Option.some.injEq] at hr
    subst hr
    exact ⟨[], rfl, rfl, by simp [RepVL]⟩
  | r :: rs, xs, hr => by
    simp only [resL] at hr
    split at hr
    · rename_i x xs' e1 e2
      cases hr
      obtain ⟨v, hv, hrv⟩ := res_one hT h e1
      obtain ⟨vs, hvs, hl, hrl⟩ := res_list hT h e2
      refine ⟨v :: vs, ?_, by simp [hl], by simp only [RepVL]; exact ⟨hrv, hrl⟩⟩
      rw [List.mapM_cons]
      simp only [Sem.run_bind]
      rw [hv]
      simp only [Result.andThen_ok, Sem.run_bind]
      rw [hvs]
      rfl
    · cases hr

theorem res_run (hT : TOK X.P X.T) (h : Ga C E σ a w) {fn : Func} {x : V} (hr : resV X σ fn.results.toList = some x) : ∃ v, (results fn a.tmps).run X.P w = .ok v w ∧ RepV E x v := by
  unfold resV at hr
  cases hx : resL X σ fn.results.toList with
  | none => rw [hx] at hr; cases hr
  | some xs =>
    rw [hx] at hr
    simp only [Option.map_some, Option.some.injEq] at hr
    subst hr
    obtain ⟨vs, hvs, hl, hrl⟩ := res_list hT h hx
    refine ⟨_, ?_, mkTup_rep (vs := vs.toArray) (by simpa using hl) (by simpa using hrl)⟩
    unfold results
    rw [Array.mapM_eq_mapM_toList]
    simp only [Sem.run_bind, map_eq_pure_bind]
    erw [hvs]
    rfl
end

def zipArgs : Nat → List V → List (Nat × V)
  | _, [] => []
  | k, x :: xs => (k, x) :: zipArgs (k + 1) xs
theorem zipArgs_get : ∀ (xs : List V) (k t : Nat), getS (zipArgs k xs) t = if k ≤ t then xs.getD (t - k) .undef else .undef
  | [], k, t => by simp [zipArgs, getS]
  | x :: xs, k, t => by
    simp only [zipArgs, getS]
    by_cases e : k = t
    · subst e; simp
    · rw [zipArgs_get xs (k + 1) t]
      simp only [e, if_false]
      by_cases hk : k ≤ t
      · have h1 : k + 1 ≤ t := by omega
        have h2 : t - k = (t - (k + 1)) + 1 := by omega
        simp only [hk, h1, if_true]
        rw [h2]
        rfl
      · have h1 : ¬ k + 1 ≤ t := by omega
        simp [hk, h1]

def retIs (X : Env1) (σ : St) (rs : List ResultVar) : Out → Prop
  | .ret x => resV X σ rs = some x
  | .panic _ => False
/-- what must hold where a function ends -/
def endQ (X : Env1) (rs : List ResultVar) (out : Out) (objs' : List (Nat × Ob)) : AEx → St → Prop
  | .normal, σ => retIs X σ rs out ∧ subO objs' σ.objs
  | .ret, σ => retIs X σ rs out ∧ subO objs' σ.objs
  | .panic p, σ => (match out with | .ret _ => False | .panic q => p = q) ∧ subO objs' σ.objs
  | .exit _, _ => False

/-- The contract of a function, out of what its body does. -/
theorem AC.of_body {X : Env1} (hT : TOK X.P X.T) {f : Nat} {fn : Func} {c : Code} (hf : X.P.funcs[f]? = some fn) (hb : fn.body = some c) (hname : (fn.name == "runtime.NumGoroutine") = false) (hnt : fn.ntmps = X.nt)
    {args : List V} {objs : List (Nat × Ob)} {out : Out} {objs' : List (Nat × Ob)} {ms : List Nat} (hgiven : X.given = keysO objs ++ ms) (hal : args.length ≤ X.nt)
    (hms1 : subL ms (mentL args objs)) (hms2 : ∀ n ∈ ms, n ∉ keysO objs) (hms3 : ∀ n ∈ ms, n ∉ keysO objs')
    (hna : subL (namesL args ++ namesOb objs) (keysO objs ++ ms)) (hno : subL (out.names ++ namesOb objs') ((keysO objs ++ ms) ++ keysO objs'))
    (h : AWP X c ⟨zipArgs 0 args, objs, keysO objs ++ ms⟩ (endQ X fn.results.toList out objs')) : AC X.P X.gl f args objs out objs' := by
  have hna := subL_spec hna
  have hno := subL_spec hno
  have hms1 := subL_spec hms1
  have hout : ∀ n, n ∈ (keysO objs ++ ms) ++ keysO objs' → n ∈ keysO objs ∨ n ∈ keysO objs' ∨ n ∈ mentL args objs := by
    intro n hn
    rcases List.mem_append.1 hn with hn | hn
    · rcases List.mem_append.1 hn with hn | hn
      · exact .inl hn
      · exact .inr (.inr (hms1 n hn))
    · exact .inr (.inl hn)
  have hnone : ∀ {l : List (Nat × Ob)} {n : Nat}, n ∉ keysO l → getO l n = none := by
    intro l n hn
    cases e : getO l n with
    | none => rfl
    | some o => exact absurd (getO_some_mem e) hn
  refine ⟨⟨fn, hf, hname, by rw [hb]; rfl⟩, fun n hn => hout n (hno n (by simp [hn])), fun m o hm n hn => hout n (hno n (by simp [(namesOb_get hm).2 n hn])), ?_⟩
  intro E w vs hB hl hr
  refine calls_of_wp hf hb ?_
  let C : Ctx := ⟨E, w, objs, ms, X.nt, []⟩
  have hC : COK X C := ⟨hB.glob, rfl, fun n o hn => by rw [hgiven]; exact List.mem_append.2 (.inl (getO_some_mem hn)), fun n hn => by rw [hgiven]; exact List.mem_append.2 (.inr hn), by simp [C, namesD]⟩
  have hG : Ga C E ⟨zipArgs 0 args, objs, keysO objs ++ ms⟩ { tmps := vs.toArray ++ Array.replicate (fn.ntmps - vs.toArray.size) undef, defers := [] } w := by
    refine ⟨?_, ?_, ⟨rfl, by simp [C, namesD]⟩, hB.heap, hB.obs, hB.apart, ?_, ?_, fun n o hn => List.mem_append.2 (.inl (getO_some_mem hn)), Nat.le_refl _, ⟨rfl, rfl, rfl⟩, fun _ _ _ => ⟨rfl, rfl⟩, Hle.refl _, fun n o b hn hb _ => ⟨n, o, hn, hb⟩, fun n o _ => EExt.refl _ _,
      fun n hn => ⟨List.mem_append.2 (.inr hn), hnone (hms2 n hn), rfl, rfl, rfl⟩⟩
    · intro t
      rw [zipArgs_get]
      simp only [Nat.zero_le, if_true, Nat.sub_zero]
      by_cases ht : t < args.length
      · have hra := RepVL.iff.1 hr t args[t] (List.getElem?_eq_getElem ht)
        obtain ⟨v, hv, hrv⟩ := hra
        have h1 : args.getD t .undef = args[t] := by simp [List.getD, List.getElem?_eq_getElem ht]
        rw [h1]
        have h2 : (vs.toArray ++ Array.replicate (fn.ntmps - vs.toArray.size) undef).getD t undef = v := by
          rw [Array.getD_eq_getD_getElem?, Array.getElem?_append_left (by simp; omega)]
          simp [hv]
        rw [h2]
        exact hrv
      · have h1 : args.getD t .undef = .undef := by simp [List.getD, List.getElem?_eq_none (by omega : args.length ≤ t)]
        rw [h1]
        simp [RepV]
    · simp [C]; omega
    · intro t n hn
      refine hna n ?_
      rw [List.mem_append]
      left
      have : n ∈ namesSl (zipArgs 0 args) := namesSl_get hn
      have key : ∀ (xs : List V) (k : Nat), n ∈ namesSl (zipArgs k xs) → n ∈ namesL xs := by
        intro xs
        induction xs with
        | nil => intro k h; simp [zipArgs, namesSl] at h
        | cons x xs ih =>
          intro k h
          simp only [zipArgs, namesSl, List.mem_append] at h
          simp only [namesL, List.mem_append]
          rcases h with h | h
          · exact .inl h
          · exact .inr (ih (k + 1) h)
      exact key args 0 this
    · intro n o hn
      exact ⟨List.mem_append.2 (.inl (getO_some_mem hn)), fun m hm => hna m (by simp [(namesOb_get hn).2 m hm])⟩
  refine wp_mono (h C E _ w hC hG) ?_
  rintro e a' w' ⟨E', σ', ae, hG', hrel, hq⟩
  -- the hidden side behind the call
  let E2 : Env := ⟨E'.H, fun n => if n ∈ keysO objs ++ keysO objs' then E'.g n else E.g n, fun n => if n ∈ keysO objs ++ keysO objs' then E'.ver n else E.ver n, fun n => if n ∈ keysO objs ++ keysO objs' then E'.sz n else E.sz n⟩
  have hE2 : ∀ n ∈ keysO objs ++ keysO objs', E2.g n = E'.g n ∧ E2.ver n = E'.ver n ∧ E2.sz n = E'.sz n := by
    intro n hn
    have hn' : n ∈ keysO objs ∨ n ∈ keysO objs' := List.mem_append.1 hn
    simp [E2, hn']
  have hEE0 : ∀ n ∈ keysO objs ++ keysO objs', EExt E' E2 n := fun n hn => EExt.of_eq (hE2 n hn).1 (hE2 n hn).2.1 (hE2 n hn).2.2
  have hEE : ∀ n ∈ (keysO objs ++ ms) ++ keysO objs', EExt E' E2 n := by
    intro n hn
    by_cases hm : n ∈ keysO objs ++ keysO objs'
    · exact hEE0 n hm
    · have hn' : n ∈ ms := by
        rcases List.mem_append.1 hn with hn | hn
        · rcases List.mem_append.1 hn with hn | hn
          · exact absurd (List.mem_append.2 (.inl hn)) hm
          · exact hn
        · exact absurd (List.mem_append.2 (.inr hn)) hm
      have hm' : ¬ (n ∈ keysO objs ∨ n ∈ keysO objs') := fun h => hm (List.mem_append.2 h)
      obtain ⟨_, _, k3, k4, k5⟩ := hG'.keep n hn'
      exact EExt.of_eq (by simp [E2, hm']; exact k3.symm) (by simp [E2, hm']; exact k4.symm) (by simp [E2, hm']; exact k5.symm)
  have hdone : subO objs' σ'.objs → Done E w objs E2 w' objs' := by
    intro hsub
    have hsub := subO_spec hsub
    have hk' : ∀ n o, getO objs' n = some o → n ∈ keysO objs ++ keysO objs' := fun n o hn => List.mem_append.2 (.inr (getO_some_mem hn))
    refine ⟨fun b hb => hG'.heap b hb, ?_, ?_, hG'.hle, hG'.grown, hG'.rest, ?_, ?_, ?_, ?_⟩
    · intro n o hn
      have hm := hk' n o hn
      exact (hG'.objs n o (hsub n o hn)).mono (Hle.refl _) (hE2 n hm).1 (hE2 n hm).2.1 (hE2 n hm).2.2 (fun m hm' => hEE m (hno m (by simp [(namesOb_get hn).2 m hm']))) (fun b _ => ⟨rfl, rfl⟩)
    · intro n m o o' hn hm hne b hb
      rw [(hE2 n (hk' n o hn)).1] at hb
      rw [(hE2 m (hk' m o' hm)).1]
      exact hG'.apart n m o o' (hsub n o hn) (hsub m o' hm) hne b hb
    · intro b hb hnb
      exact hG'.same b hb (by rintro ⟨n, o, hn, hbn⟩; exact hnb n o hn hbn)
    · intro n o b hn hb
      rw [(hE2 n (hk' n o hn)).1] at hb
      by_cases hlt : b < w.heap.size
      · obtain ⟨m, o', hm, hbm⟩ := hG'.own n o b (hsub n o hn) hb hlt
        exact .inr ⟨m, o', hm, hbm⟩
      · exact .inl (by omega)
    · intro n o hn
      have hm : n ∈ keysO objs ++ keysO objs' := List.mem_append.2 (.inl (getO_some_mem hn))
      exact (hG'.ext n o hn).trans (hEE0 n hm)
    · intro n h1 h2
      have hn : ¬ (n ∈ keysO objs ∨ n ∈ keysO objs') := by
        rintro (hn | hn)
        · obtain ⟨o, ho⟩ := getO_of_mem hn; rw [ho] at h1; cases h1
        · obtain ⟨o, ho⟩ := getO_of_mem hn; rw [ho] at h2; cases h2
      simp [E2, hn]
  have hret : retIs X σ' fn.results.toList out → subO objs' σ'.objs →
      a'.defers = [] ∧ ∃ v, (results fn a'.tmps).run X.P w' = .ok v w' ∧ ∃ E', Done E w objs E' w' objs' ∧ OutRel E' out (.returned v) := by
    intro ho hsub
    cases out with
    | panic p => exact ho.elim
    | ret x =>
      obtain ⟨v, hv, hrv⟩ := res_run hT hG' ho
      exact ⟨hG'.defers.1, v, hv, E2, hdone hsub, v, rfl, RepV.mono (E := E') (E' := E2) (Hle.refl _) x v (fun n hn => hEE n (hno n (by simp [Out.names, hn]))) hrv⟩
  cases ae with
  | normal => cases hrel; exact hret hq.1 hq.2
  | ret => cases hrel; exact hret hq.1 hq.2
  | exit i => exact hq.elim
  | panic p =>
    obtain ⟨v, rfl, hv⟩ := hrel
    obtain ⟨ho, hsub⟩ := hq
    cases out with
    | ret x => exact ho.elim
    | panic q =>
      simp only at ho
      subst ho
      exact ⟨hG'.defers.1, E2, hdone hsub, v, rfl, hv⟩

/-- an array that is done becomes plain data -/
def frzV (n ver : Nat) (es : List (List PV)) : V → V
  | .arr m v len => if m = n ∧ v = ver then .pv (.slice (es.take len)) else .arr m v len
  | x => x
def frzL (n ver : Nat) (es : List (List PV)) : List V → List V
  | [] => []
  | x :: xs => frzV n ver es x :: frzL n ver es xs
def frzA (n ver : Nat) (es : List (List PV)) : V → V
  | .agg cs => mkAgg (frzL n ver es cs)
  | x => frzV n ver es x
def frzS (n ver : Nat) (es : List (List PV)) : List (Nat × V) → List (Nat × V)
  | [] => []
  | (t, x) :: r => (t, frzA n ver es x) :: frzS n ver es r
def frzOb (n ver : Nat) (es : List (List PV)) : Ob → Ob
  | .box cs => .box (frzL n ver es cs)
  | o => o
def frzO (n ver : Nat) (es : List (List PV)) : List (Nat × Ob) → List (Nat × Ob)
  | [] => []
  | (k, o) :: r => if k = n then frzO n ver es r else (k, frzOb n ver es o) :: frzO n ver es r
def St.frz (σ : St) (n ver : Nat) (es : List (List PV)) : St := ⟨frzS n ver es σ.slots, frzO n ver es σ.objs, σ.used⟩

theorem frzL_len (n ver : Nat) (es : List (List PV)) (cs : List V) : (frzL n ver es cs).length = cs.length := by
  induction cs with
  | nil => rfl
  | cons c cs ih => simp [frzL, ih]
theorem frzS_get (n ver : Nat) (es : List (List PV)) (l : List (Nat × V)) (t : Nat) : getS (frzS n ver es l) t = frzA n ver es (getS l t) := by
  induction l with
  | nil => rfl
  | cons p r ih =>
    obtain ⟨k, x⟩ := p
    simp only [frzS, getS, ih]
    split <;> rfl
theorem frzO_get (n ver : Nat) (es : List (List PV)) (l : List (Nat × Ob)) (m : Nat) : getO (frzO n ver es l) m = if m = n then none else (getO l m).map (frzOb n ver es) := by
  induction l with
  | nil => simp [frzO, getO]
  | cons p r ih =>
    obtain ⟨k, x⟩ := p
    simp only [frzO, getO]
    by_cases e : k = n
    · subst e
      simp only [if_true, ih]
      by_cases e1 : m = k
      · simp [e1]
      · have : ¬ k = m := fun h => e1 h.symm
        simp [e1, this]
    · simp only [e, if_false, getO, ih]
      by_cases e1 : k = m
      · subst e1; simp [e]
      · simp [e1]

section
variable {C : Ctx} {E : Env} {σ : St} {a : Act} {w : World}
theorem frzV_names (n ver : Nat) (es : List (List PV)) (x : V) : ∀ m ∈ (frzV n ver es x).names, m ∈ x.names := by
  intro m hm
  unfold frzV at hm
  split at hm
  · split at hm
    · simp [V.names] at hm
    · exact hm
  · exact hm
theorem frzL_names (n ver : Nat) (es : List (List PV)) (cs : List V) : ∀ m ∈ namesL (frzL n ver es cs), m ∈ namesL cs := by
  induction cs with
  | nil => intro m hm; exact hm
  | cons c cs ih =>
    intro m hm
    simp only [frzL, namesL, List.mem_append] at hm ⊢
    rcases hm with hm | hm
    · exact .inl (frzV_names n ver es c m hm)
    · exact .inr (ih m hm)
theorem frzA_names (n ver : Nat) (es : List (List PV)) (x : V) : ∀ m ∈ (frzA n ver es x).names, m ∈ x.names := by
  intro m hm
  unfold frzA at hm
  split at hm
  · simp only [V.names]
    exact frzL_names n ver es _ m (mkAgg_names _ m hm)
  · exact frzV_names n ver es x m hm

theorem Ga.frz (h : Ga C E σ a w) {n ver sz ty : Nat} {es : List (List PV)} (ho : getO σ.objs n = some (.arr ver sz ty (pvE es))) : ∃ E', Ga C E' (σ.frz n ver es) a w := by
  have hob := h.objs n _ ho
  obtain ⟨hver, hsz, hlen, _⟩ := id hob
  obtain ⟨ad, cap, hgn, hlc, hlm, hh⟩ := arr_header hob
  have hpl : (pvE es).length = es.length := by simp [pvE]
  rw [hpl] at hgn hlc hlm
  -- the cells that are known from now on
  have hH : ∃ H' : Hp, Hle E.H H' ∧ HeapOK { E with H := H' } w ∧ (∀ b, (∀ b', blk (E.g n) = some b' → b ≠ b') → H' b = E.H b) ∧ (es = [] ∨ ∃ b, ad = some ⟨b, 0, none⟩ ∧ RepE H' es (H' b)) := by
    rcases hh with ⟨h1, h2, h3⟩ | ⟨b, cur, hb, hcur, hcs, hr, hfree⟩
    · exact ⟨E.H, Hle.refl _, h.heap, fun _ _ => rfl, .inl (by simpa [pvE] using h2)⟩
    · let H' : Hp := fun b' => if b' = b then cur.toList else E.H b'
      have hHle : Hle E.H H' := by
        intro b'
        by_cases e : b' = b
        · subst e; rw [hfree]; exact List.nil_prefix
        · simp [H', e]
      refine ⟨H', hHle, ?_, ?_, .inr ⟨b, hb, ?_⟩⟩
      · intro b' hb'
        by_cases e : b' = b
        · subst e
          exact ⟨cur, ty, (0, 0), hcur, by simp [H', Msk.refl], .inl rfl⟩
        · have hb'' : E.H b' ≠ [] := by simpa [H', e] using hb'
          obtain ⟨c, T, fr, hc, hp⟩ := h.heap b' hb''
          exact ⟨c, T, fr, hc, by simpa [H', e] using hp.1, by simpa [H', e] using hp.2⟩
      · intro b' hne
        have : b' ≠ b := hne b (by rw [hgn, hb]; rfl)
        simp [H', this]
      · have hre := RepVE.toPv (unE_pvE es) hr
        have : H' b = cur.toList := by simp [H']
        rw [this]
        exact RepE.mono hHle es _ _ List.prefix_rfl hre
  obtain ⟨H', hHle, hheap, hsame, hdata⟩ := hH
  have hE : ∀ m, EExt E { E with H := H' } m := fun m => EExt.of_eq rfl rfl rfl
  have hc := h.change (E' := { E with H := H' }) n none (delO σ.objs n) σ.used none .undef undef (fun m => getO_delO _ _ _) hHle (fun _ _ => ⟨rfl, rfl, rfl⟩) (fun _ => hE n) (fun _ => ⟨_, ho⟩) (Nat.le_refl _) ⟨rfl, rfl, rfl⟩
    (fun b _ hne => ⟨rfl, hsame b (fun b' hb' e => hne _ ho (e ▸ hb'))⟩) hheap (fun o e => by cases e) (fun o b e => by cases e) (fun _ h => h) (by simp [RepV]) (by simp [V.names]) (by simp)
  have hv1 : ∀ (x : V) (v : Value), RepV { E with H := H' } x v → RepV { E with H := H' } (frzV n ver es x) v := by
    intro x v hx
    unfold frzV
    split
    · rename_i m vv len
      split
      · rename_i e
        obtain ⟨rfl, rfl⟩ := e
        simp only [RepV] at hx
        obtain ⟨_, _, hx⟩ := hx
        obtain ⟨a', L, cap', hg', hv, hle⟩ := hx hver.symm
        rw [hgn] at hg'
        cases hg'
        have htl : (es.take len).length = len := by simp; omega
        simp only [RepV, RepP]
        refine ⟨ad, cap, by rw [hv, htl], by omega, by omega, ?_⟩
        rcases hdata with rfl | ⟨b, hb, hr⟩
        · simp
        · exact .inr ⟨b, 0, hb, by simpa using hr.takeE len⟩
      · exact hx
    · exact hx
  have hvL : ∀ (cs : List V) (vs : List Value), RepVL { E with H := H' } cs vs → RepVL { E with H := H' } (frzL n ver es cs) vs := by
    intro cs
    induction cs with
    | nil => intro vs _; simp [frzL, RepVL]
    | cons c cs ih =>
      intro vs hr
      cases vs with
      | nil => simp [RepVL] at hr
      | cons v vs =>
        simp only [RepVL] at hr
        simp only [frzL, RepVL]
        exact ⟨hv1 c v hr.1, ih vs hr.2⟩
  refine ⟨{ E with H := H' }, ?_, hc.size, hc.defers, hc.heap, ?_, ?_, ?_, ?_, hc.usedG, hc.grown, hc.rest, hc.same, hc.hle, ?_, hc.ext, fun k hk => ⟨(hc.keep k hk).1, ?_, (hc.keep k hk).2.2⟩⟩
  · intro t
    simp only [St.frz, frzS_get]
    have hx := hc.slots t
    simp only [putS] at hx
    unfold frzA
    split
    · rename_i cs e
      rw [e] at hx
      simp only [RepV] at hx
      obtain ⟨vs, hv, hl, hr⟩ := hx
      have hv : a.tmps.getD t undef = .agg vs.toArray := hv
      rw [hv]
      exact mkAgg_rep (by rw [hl, frzL_len]) (hvL cs vs hr)
    · exact hv1 _ _ hx
  · intro m o hm
    simp only [St.frz, frzO_get] at hm
    split at hm
    · cases hm
    · rename_i hne
      cases hq : getO σ.objs m with
      | none => rw [hq] at hm; cases hm
      | some q =>
        rw [hq] at hm
        simp only [Option.map_some, Option.some.injEq] at hm
        subst hm
        have hq' : getO (delO σ.objs n) m = some q := by rw [getO_delO, if_neg hne, hq]
        have hok := hc.objs m q hq'
        cases q with
        | box cs =>
          obtain ⟨b, c, T, h1, h2, h3, h4, h5⟩ := hok
          exact ⟨b, c, T, h1, h2, by rw [h3, frzL_len], hvL cs _ h4, h5⟩
        | arr v s t es' => exact hok
        | cache D F => exact hok
  · intro m m' o o' hm hm' hne b hb
    simp only [St.frz, frzO_get] at hm hm'
    split at hm
    · cases hm
    · split at hm'
      · cases hm'
      · cases hq : getO σ.objs m with
        | none => rw [hq] at hm; cases hm
        | some q =>
          cases hq' : getO σ.objs m' with
          | none => rw [hq'] at hm'; cases hm'
          | some q' => exact h.apart m m' q q' hq hq' hne b hb
  · intro t m hm
    simp only [St.frz, frzS_get] at hm
    exact h.usedS t m (frzA_names n ver es _ m hm)
  · intro m o hm
    simp only [St.frz, frzO_get] at hm
    split at hm
    · cases hm
    · cases hq : getO σ.objs m with
      | none => rw [hq] at hm; cases hm
      | some q =>
        rw [hq] at hm
        simp only [Option.map_some, Option.some.injEq] at hm
        subst hm
        refine ⟨(h.usedO m q hq).1, fun k hk => (h.usedO m q hq).2 k ?_⟩
        cases q with
        | box cs => exact frzL_names n ver es cs k hk
        | arr v s t es' => exact hk
        | cache D F => exact hk
  · intro m o b hm hb hlt
    simp only [St.frz, frzO_get] at hm
    split at hm
    · cases hm
    · cases hq : getO σ.objs m with
      | none => rw [hq] at hm; cases hm
      | some q => exact h.own m q b hq hb hlt
  · simp only [St.frz, frzO_get]
    have := (h.keep k hk).2.1
    split
    · rfl
    · rw [this]; rfl
end
theorem AWP.freeze {X : Env1} {c : Code} {σ : St} {Q : AEx → St → Prop} (n : Nat) {ver sz ty : Nat} {es : List (List PV)} (ho : getO σ.objs n = some (.arr ver sz ty (pvE es))) (h : AWP X c (σ.frz n ver es) Q) : AWP X c σ Q := by
  intro C E a w hC hG
  obtain ⟨E', hG'⟩ := hG.frz ho
  exact h C E' a w hC hG'
end Go.Lg
/- Running a state through code, step by step. -/
namespace Go.Lg

/-- a condition, and a fact that may be used behind it -/
structure C1 where
  c : Prop
  f : Prop
def buildC : List C1 → Prop → Prop
  | [], p => p
  | x :: cs, p => buildC cs (x.c ∧ (x.f → p))
structure Q1 where
  cs : List C1
  σ : St
  rest : List Oper
  tr : List Eff

def isCall : Op → Bool
  | .call { callee := .value _, .. } => true
  | .panic _ => true
  | .lookup _ _ _ _ => true
  | _ => false

abbrev Next1 := St → List Eff → List C1 → Option Q1

def evalR (f : Next1) (X : Env1) (draw : Bool) (o : Oper) (σ : St) (tr : List Eff) (cs : List C1) (r : Option R) : Option Q1 := match r with
  | some r => f (σ.eff o.dst (r.eff (rdN (σ.val X.gl) o.op))) (bif draw then tr ++ [r.eff (rdN (σ.val X.gl) o.op)] else tr) (⟨dstOK X o.dst ∧ r.cond ∧ freshL (r.eff []).nw σ.used, bif draw then True else r.fact⟩ :: cs)
  | none => none
theorem evalR_some (f : Next1) (X : Env1) (draw : Bool) (o : Oper) (σ : St) (tr : List Eff) (cs : List C1) (r : R) :
    evalR f X draw o σ tr cs (some r) = f (σ.eff o.dst (r.eff (rdN (σ.val X.gl) o.op))) (bif draw then tr ++ [r.eff (rdN (σ.val X.gl) o.op)] else tr) (⟨dstOK X o.dst ∧ r.cond ∧ freshL (r.eff []).nw σ.used, bif draw then True else r.fact⟩ :: cs) := rfl
def evalG (f : Next1) (X : Env1) (draw : Bool) (o : Oper) (σ : St) (tr : List Eff) (cs : List C1) (want : Bool) (v : V) : Option Q1 := match v with
  | .pv (.bool true) => bif want then evalR f X draw o σ tr cs (stepOp X.T (X.note o.dst) (σ.val X.gl) (getO σ.objs) o.dst o.op) else f (σ.eff o.dst skipE) (bif draw then tr ++ [skipE] else tr) (⟨dstOK X o.dst, True⟩ :: cs)
  | .pv (.bool false) => bif want then f (σ.eff o.dst skipE) (bif draw then tr ++ [skipE] else tr) (⟨dstOK X o.dst, True⟩ :: cs) else evalR f X draw o σ tr cs (stepOp X.T (X.note o.dst) (σ.val X.gl) (getO σ.objs) o.dst o.op)
  | .pv (.tuple []) => f (σ.eff o.dst skipE) (bif draw then tr ++ [skipE] else tr) (⟨dstOK X o.dst, True⟩ :: cs)
  | _ => none
theorem evalG_sk (f : Next1) (X : Env1) (draw : Bool) (o : Oper) (σ : St) (tr : List Eff) (cs : List C1) (want : Bool) : evalG f X draw o σ tr cs want (.pv (.tuple [])) = f (σ.eff o.dst skipE) (bif draw then tr ++ [skipE] else tr) (⟨dstOK X o.dst, True⟩ :: cs) := rfl
theorem evalG_tt (f : Next1) (X : Env1) (draw : Bool) (o : Oper) (σ : St) (tr : List Eff) (cs : List C1) : evalG f X draw o σ tr cs true (.pv (.bool true)) = evalR f X draw o σ tr cs (stepOp X.T (X.note o.dst) (σ.val X.gl) (getO σ.objs) o.dst o.op) := rfl
theorem evalG_ff (f : Next1) (X : Env1) (draw : Bool) (o : Oper) (σ : St) (tr : List Eff) (cs : List C1) : evalG f X draw o σ tr cs false (.pv (.bool false)) = evalR f X draw o σ tr cs (stepOp X.T (X.note o.dst) (σ.val X.gl) (getO σ.objs) o.dst o.op) := rfl
theorem evalG_ft (f : Next1) (X : Env1) (draw : Bool) (o : Oper) (σ : St) (tr : List Eff) (cs : List C1) : evalG f X draw o σ tr cs false (.pv (.bool true)) = f (σ.eff o.dst skipE) (bif draw then tr ++ [skipE] else tr) (⟨dstOK X o.dst, True⟩ :: cs) := rfl
theorem evalG_tf (f : Next1) (X : Env1) (draw : Bool) (o : Oper) (σ : St) (tr : List Eff) (cs : List C1) : evalG f X draw o σ tr cs true (.pv (.bool false)) = f (σ.eff o.dst skipE) (bif draw then tr ++ [skipE] else tr) (⟨dstOK X o.dst, True⟩ :: cs) := rfl
def evalO (f : Next1) (X : Env1) (draw : Bool) (ops : List Oper) (o : Oper) (rest : List Oper) (σ : St) (tr : List Eff) (cs : List C1) (call : Bool) (g : Option (Nat × Bool)) : Option Q1 := match call, g with
  | true, _ => some ⟨cs, σ, o :: rest, tr⟩
  | false, none => evalR f X draw o σ tr cs (stepOp X.T (X.note o.dst) (σ.val X.gl) (getO σ.objs) o.dst o.op)
  | false, some (j, want) => evalG f X draw o σ tr cs want (gv ops σ j)
theorem evalO_call (f : Next1) (X : Env1) (draw : Bool) (ops : List Oper) (o : Oper) (rest : List Oper) (σ : St) (tr : List Eff) (cs : List C1) (g : Option (Nat × Bool)) : evalO f X draw ops o rest σ tr cs true g = some ⟨cs, σ, o :: rest, tr⟩ := rfl
theorem evalO_none (f : Next1) (X : Env1) (draw : Bool) (ops : List Oper) (o : Oper) (rest : List Oper) (σ : St) (tr : List Eff) (cs : List C1) : evalO f X draw ops o rest σ tr cs false none = evalR f X draw o σ tr cs (stepOp X.T (X.note o.dst) (σ.val X.gl) (getO σ.objs) o.dst o.op) := rfl
theorem evalO_some (f : Next1) (X : Env1) (draw : Bool) (ops : List Oper) (o : Oper) (rest : List Oper) (σ : St) (tr : List Eff) (cs : List C1) (j : Nat) (want : Bool) : evalO f X draw ops o rest σ tr cs false (some (j, want)) = evalG f X draw o σ tr cs want (gv ops σ j) := rfl

/-- The operations up to the next call, as data. -/
def evalSeq (X : Env1) (draw : Bool) (ops : List Oper) : List Oper → St → List Eff → List C1 → Option Q1
  | [], σ, tr, cs => some ⟨cs, σ, [], tr⟩
  | o :: rest, σ, tr, cs => evalO (evalSeq X draw ops rest) X draw ops o rest σ tr cs (isCall o.op) o.guard

theorem calleeOf_none {val : Operand → V} {op : Op} (h : isCall op = false) : calleeOf val op = none := by
  unfold calleeOf
  split
  · simp [isCall] at h
  · rfl

theorem calleeOf_none' {val : Operand → V} {op : Op} (h : (match op with | .call _ => false | _ => true) = true) : calleeOf val op = none := by
  unfold calleeOf
  split
  · simp at h
  · rfl
theorem buildC_mono : ∀ (cs : List C1) (p q : Prop), (p → q) → buildC cs p → buildC cs q
  | [], _, _, h, hp => h hp
  | x :: cs, p, q, h, hp => buildC_mono cs _ _ (fun ⟨h1, h2⟩ => ⟨h1, fun hf => h (h2 hf)⟩) hp

/-- the conditions of the last operations, behind those of the first ones -/
theorem runOps_eval0 {X : Env1} {draw : Bool} {ops : List Oper} {K : St → List Eff → Prop} {Qp : PV → St → Prop} : ∀ (l : List Oper) (σ : St) (tr : List Eff) (cs : List C1) (q : Q1), evalSeq X draw ops l σ tr cs = some q → runOps X draw ops K Qp q.rest q.σ q.tr →
    buildC q.cs True → buildC cs (runOps X draw ops K Qp l σ tr)
  | [], σ, tr, cs, q, h, hr, hc => by
    simp only [evalSeq, Option.some.injEq] at h
    subst h
    exact buildC_mono _ _ _ (fun _ => hr) hc
  | o :: rest, σ, tr, cs, q, h, hr, hc => by
    simp only [evalSeq] at h
    cases hcall : isCall o.op with
    | true =>
      rw [hcall, evalO_call] at h
      simp only [Option.some.injEq] at h
      subst h
      exact buildC_mono _ _ _ (fun _ => hr) hc
    | false =>
      rw [hcall] at h
      have hyes : evalR (evalSeq X draw ops rest) X draw o σ tr cs (stepOp X.T (X.note o.dst) (σ.val X.gl) (getO σ.objs) o.dst o.op) = some q →
          buildC cs (dstOK X o.dst ∧ opStep X draw Qp o σ (fun e => runOps X draw ops K Qp rest (σ.eff o.dst e) (bif draw then tr ++ [e] else tr))) := by
        intro hy
        unfold evalR at hy
        split at hy
        · rename_i r hs
          have ih := runOps_eval0 rest _ _ _ q hy hr hc
          simp only [buildC] at ih
          refine buildC_mono _ _ _ ?_ ih
          rintro ⟨⟨h1, h2, h3⟩, h4⟩
          refine ⟨h1, ?_⟩
          unfold opStep
          rw [calleeOf_none hcall, caseC_none]
          split
          · rename_i x hx; rw [hx] at hcall; cases hcall
          · rename_i hx; rw [hx] at hcall; cases hcall
          · rw [hs, bindR_some]
            exact ⟨h2, h3, fun hf => h4 (by cases draw <;> simp_all)⟩
        · cases hy
      have hno : evalSeq X draw ops rest (σ.eff o.dst skipE) (bif draw then tr ++ [skipE] else tr) (⟨dstOK X o.dst, True⟩ :: cs) = some q →
          buildC cs (dstOK X o.dst ∧ runOps X draw ops K Qp rest (σ.eff o.dst skipE) (bif draw then tr ++ [skipE] else tr)) := by
        intro hn
        have ih := runOps_eval0 rest _ _ _ q hn hr hc
        simp only [buildC] at ih
        exact buildC_mono _ _ _ (fun ⟨h1, h2⟩ => ⟨h1, h2 trivial⟩) ih
      simp only [runOps]
      cases hgu : o.guard with
      | none =>
        rw [hgu, evalO_none] at h
        rw [guardC_none]
        exact hyes h
      | some p =>
        obtain ⟨j, want⟩ := p
        rw [hgu, evalO_some] at h
        rw [guardC_some]
        unfold evalG at h
        split at h
        · rename_i hv
          rw [hv]
          cases want
          · rw [caseG_tf]; exact hno h
          · rw [caseG_yes]; exact hyes h
        · rename_i hv
          rw [hv]
          cases want
          · rw [caseG_yes]; exact hyes h
          · rw [caseG_ft]; exact hno h
        · rename_i hv
          rw [hv, caseG_sk]
          exact hno h
        · cases h
theorem runOps_eval {X : Env1} {draw : Bool} {ops : List Oper} {K : St → List Eff → Prop} {Qp : PV → St → Prop} {l : List Oper} {σ : St} {tr : List Eff} {q : Q1} (h : evalSeq X draw ops l σ tr [] = some q) (hc : buildC q.cs True) (hr : runOps X draw ops K Qp q.rest q.σ q.tr) :
    runOps X draw ops K Qp l σ tr := runOps_eval0 l σ tr [] q h hr hc

/-- the guard of an operation -/
def guardV (ops : List Oper) (σ : St) (g : Option (Nat × Bool)) : Option Bool := match g with
  | none => some true
  | some (j, want) => match gv ops σ j with
    | .pv (.bool b) => some (b == want)
    | .pv (.tuple []) => some false
    | _ => none
theorem guardC_run {ops : List Oper} {σ : St} {g : Option (Nat × Bool)} {yes no : Prop} (h : guardV ops σ g = some true) (hy : yes) : guardC ops σ g yes no := by
  unfold guardV at h
  unfold guardC
  split at h
  · exact hy
  · split at h
    · rename_i b hb
      try simp only
      rw [hb, caseG_bool]
      simp only [Option.some.injEq, beq_iff_eq] at h
      rw [if_pos h]
      exact hy
    · cases h
    · cases h
theorem guardC_skip {ops : List Oper} {σ : St} {g : Option (Nat × Bool)} {yes no : Prop} (h : guardV ops σ g = some false) (hn : no) : guardC ops σ g yes no := by
  unfold guardV at h
  unfold guardC
  split at h
  · cases h
  · split at h
    · rename_i b hb
      try simp only
      rw [hb, caseG_bool]
      simp only [Option.some.injEq, beq_eq_false_iff_ne] at h
      rw [if_neg h]
      exact hn
    · rename_i hb
      try simp only
      rw [hb, caseG_sk]
      exact hn
    · cases h

section
variable {X : Env1} {draw : Bool} {ops : List Oper} {K : St → List Eff → Prop} {Qp : PV → St → Prop} {o : Oper} {rest : List Oper} {σ : St} {tr : List Eff}

/-- a call that returns -/
theorem runOps_call {f : Nat} {args : List V} {objs : List (Nat × Ob)} {x : V} {objs' : List (Nat × Ob)} (hac : AC X.P X.gl f args objs (.ret x) objs') (hd : dstOK X o.dst) (hg : guardV ops σ o.guard = some true) (hf : calleeOf (σ.val X.gl) o.op = some (f, args))
    (h1 : subO objs σ.objs) (h2 : freshL ((keysO objs').filter (fun n => (getO objs n).isNone)) σ.used) {σ' : St} {tr' : List Eff} (hσ : σ.eff o.dst (callEff x objs objs') = σ') (htr : (bif draw then tr ++ [callEff x objs objs'] else tr) = tr')
    (h : runOps X draw ops K Qp rest σ' tr') : runOps X draw ops K Qp (o :: rest) σ tr := by
  subst hσ htr
  simp only [runOps]
  refine ⟨hd, guardC_run hg ?_⟩
  unfold opStep
  rw [hf, caseC_some]
  exact callStep_ret hac h1 h2 h
theorem runOps_callR {f : Nat} {args : List V} {ro objs : List (Nat × Ob)} {x : V} {objs' : List (Nat × Ob)} (hac : AC X.P X.gl f args (ro ++ objs) (.ret x) (ro ++ objs')) (hd : dstOK X o.dst) (hg : guardV ops σ o.guard = some true) (hf : calleeOf (σ.val X.gl) o.op = some (f, args))
    (hro : ∀ n ∈ keysO ro, n ∉ keysO objs ∧ n ∉ keysO objs') (h1 : subO (ro ++ objs) σ.objs) (h2 : freshL ((keysO objs').filter (fun n => (getO objs n).isNone)) σ.used) {σ' : St} {tr' : List Eff} (hσ : σ.eff o.dst (callEffR x ro objs objs') = σ') (htr : (bif draw then tr ++ [callEffR x ro objs objs'] else tr) = tr')
    (h : runOps X draw ops K Qp rest σ' tr') : runOps X draw ops K Qp (o :: rest) σ tr := by
  subst hσ htr
  simp only [runOps]
  refine ⟨hd, guardC_run hg ?_⟩
  unfold opStep
  rw [hf, caseC_some]
  exact callStep_retR hac hro h1 h2 h
theorem runOps_call_skip (hd : dstOK X o.dst) (hg : guardV ops σ o.guard = some false) {σ' : St} {tr' : List Eff} (hσ : σ.eff o.dst skipE = σ') (htr : (bif draw then tr ++ [skipE] else tr) = tr') (h : runOps X draw ops K Qp rest σ' tr') : runOps X draw ops K Qp (o :: rest) σ tr := by
  subst hσ htr
  simp only [runOps]
  exact ⟨hd, guardC_skip hg h⟩
theorem runOps_call_panic {f : Nat} {args : List V} {objs : List (Nat × Ob)} {p : PV} {objs' : List (Nat × Ob)} (hac : AC X.P X.gl f args objs (.panic p) objs') (hd : dstOK X o.dst) (hg : guardV ops σ o.guard = some true) (hf : calleeOf (σ.val X.gl) o.op = some (f, args))
    (h1 : subO objs σ.objs) (h2 : freshL ((keysO objs').filter (fun n => (getO objs n).isNone)) σ.used) {σ' : St} (hσ : σ.eff none (callEff .undef objs objs') = σ') (h : Qp p σ') : runOps X false ops K Qp (o :: rest) σ tr := by
  subst hσ
  simp only [runOps]
  refine ⟨hd, guardC_run hg ?_⟩
  unfold opStep
  rw [hf, caseC_some]
  exact callStep_panic hac h1 h2 h
theorem runOps_panic {x : Operand} {t : Nat} {p : PV} (ho : o.op = .panic x) (hd : dstOK X o.dst) (hg : guardV ops σ o.guard = some true) (hv : σ.val X.gl x = .pv (.iface t p)) (h : Qp (.iface t p) σ) : runOps X false ops K Qp (o :: rest) σ tr := by
  simp only [runOps]
  refine ⟨hd, guardC_run hg ?_⟩
  unfold opStep
  rw [ho]
  simp only [calleeOf, caseC_none]
  rw [hv, panicC_iface]
  exact ⟨trivial, h⟩
/-- a look into a table -/
theorem runOps_look {t : Nat} {mo ko : Operand} {kt vt s1 s2 : Nat} {s3 : Value} {s4 : List PV} {kv : TK} {sv bv n : Nat} {z : Array Value} {zc ks : List PV} {D : PV → Prop} {F : PV → List PV} (ho : o.op = .lookup t mo ko true) (hd : dstOK X o.dst) (hg : guardV ops σ o.guard = some true)
    (ht : X.T t = some ⟨.map kt vt, s1, s2, s3, s4⟩) (hv : X.T vt = some ⟨kv, sv, bv, .agg z, zc⟩) (hm : σ.val X.gl mo = .map n) (hk : σ.val X.gl ko = .pv (.ptr ks)) (hob : getO σ.objs n = some (.cache D F)) (hD : D (.ptr ks)) (hni : ks.any PV.nonint = true)
    (h : ∀ b : Bool, runOps X false ops K Qp rest (σ.eff o.dst ⟨.pv (.tuple [.agg (bif b then F (.ptr ks) else zc), .bool b]), [], [], []⟩) tr) : runOps X false ops K Qp (o :: rest) σ tr := by
  simp only [runOps]
  refine ⟨hd, guardC_run hg ?_⟩
  unfold opStep
  rw [calleeOf_none' (by rw [ho])]
  simp only [caseC, ho, lookC, ht, hv, hm, hk, hob]
  exact ⟨trivial, trivial, hD, hni, fun b => by simpa using h b⟩
theorem runOps_nil (h : K σ tr) : runOps X draw ops K Qp [] σ tr := h

theorem runOps_ev {cs : List C1} {σ' : St} {rest' : List Oper} {tr' : List Eff} (hcall : isCall o.op = false) (h : evalSeq X draw ops (o :: rest) σ tr [] = some ⟨cs, σ', rest', tr'⟩) (hc : buildC cs True) (hr : runOps X draw ops K Qp rest' σ' tr') : runOps X draw ops K Qp (o :: rest) σ tr :=
  runOps_eval h hc hr
theorem ex_seq {a b : Code} {Q : AEx → St → Prop} (h : AWP X a σ (thenQ (fun σ' => AWP X b σ' Q) Q)) : AWP X (.seq a b) σ Q := AWP.seq h
theorem ex_block {id : Nat} {a : Code} {Q : AEx → St → Prop} (h : AWP X a σ (blockQ id Q)) : AWP X (.block id a) σ Q := AWP.block h
theorem ex_skip {Q : AEx → St → Prop} (h : Q .normal σ) : AWP X .skip σ Q := exec_sound X.ok X.mix _ _ _ h
theorem ex_exit {id : Nat} {Q : AEx → St → Prop} (h : Q (.exit id) σ) : AWP X (.exit id) σ Q := exec_sound X.ok X.mix _ _ _ h
theorem ex_ret {Q : AEx → St → Prop} (h : Q .ret σ) : AWP X .ret σ Q := exec_sound X.ok X.mix _ _ _ h
theorem ex_reg {id : Nat} {l : List Oper} {Q : AEx → St → Prop} (h : runOps X false l (fun σ' _ => Q .normal σ') (fun p σ' => Q (.panic p) σ') l σ []) : AWP X (.region id l.toArray false) σ Q :=
  exec_sound X.ok X.mix _ _ _ (by simpa [exec] using h)
theorem ex_draw {id : Nat} {l : List Oper} {Q : AEx → St → Prop} (h : runOps X true l (fun σ' tr => checkDraw l tr = true ∧ Q .normal σ') (fun _ _ => False) l σ []) : AWP X (.region id l.toArray true) σ Q :=
  exec_sound X.ok X.mix _ _ _ (by simpa [exec] using h)
theorem ex_cond {c : Operand} {x y : Code} {Q : AEx → St → Prop} {v : V} (hv : σ.val X.gl c = v) (h : caseB v (AWP X x σ Q) (AWP X y σ Q)) : AWP X (.cond c x y) σ Q := by
  intro C E a w hC hG
  have hr := val_rep hG hC.glob c
  rw [hv] at hr
  unfold caseB at h
  split at h
  · rename_i b
    exact wp_cond_split (rep_bool hr) (fun hb => h.1 hb C E a w hC hG) (fun hb => h.2 hb C E a w hC hG)
  · cases h
theorem q_normal {next : St → Prop} {Q : AEx → St → Prop} (h : next σ) : thenQ next Q .normal σ := h
theorem q_exit {next : St → Prop} {Q : AEx → St → Prop} {i : Nat} (h : Q (.exit i) σ) : thenQ next Q (.exit i) σ := h
theorem q_ret {next : St → Prop} {Q : AEx → St → Prop} (h : Q .ret σ) : thenQ next Q .ret σ := h
theorem q_panic {next : St → Prop} {Q : AEx → St → Prop} {p : PV} (h : Q (.panic p) σ) : thenQ next Q (.panic p) σ := h
theorem b_normal {id : Nat} {Q : AEx → St → Prop} (h : Q .normal σ) : blockQ id Q .normal σ := h
theorem b_same {id : Nat} {Q : AEx → St → Prop} (h : Q .normal σ) : blockQ id Q (.exit id) σ := by rw [blockQ_same]; exact h
theorem b_other {id i : Nat} {Q : AEx → St → Prop} (hne : (i == id) = false) (h : Q (.exit i) σ) : blockQ id Q (.exit i) σ := by rw [blockQ_other hne]; exact h
theorem b_ret {id : Nat} {Q : AEx → St → Prop} (h : Q .ret σ) : blockQ id Q .ret σ := h
theorem b_panic {id : Nat} {Q : AEx → St → Prop} {p : PV} (h : Q (.panic p) σ) : blockQ id Q (.panic p) σ := h

theorem ex_freeze {c : Code} {Q : AEx → St → Prop} (n : Nat) {ver sz ty : Nat} {es : List (List PV)} (ho : getO σ.objs n = some (.arr ver sz ty (pvE es))) {σ' : St} (hσ : σ.frz n ver es = σ') (h : AWP X c σ' Q) : AWP X c σ Q :=
  AWP.freeze n ho (by rw [hσ]; exact h)
/-- a loop that counts -/
theorem AWP.loopN {b : Code} {Q : AEx → St → Prop} (n : Nat) (I : Nat → St) (h0 : Weak X σ (I 0)) (hr : ∀ k, k ≤ n → AWP X b (I k) (thenQ (fun σ' => k < n ∧ Weak X σ' (I (k + 1))) Q)) : AWP X (.loop b) σ Q := by
  refine AWP.loop (fun k : Fin (n + 1) => I k) (fun k => n - k) 0 h0 ?_
  intro k
  refine (hr k (by omega)).mono ?_
  intro e σ' h
  cases e with
  | normal =>
    obtain ⟨hk, hw⟩ := h
    exact ⟨⟨k + 1, by omega⟩, by simp; omega, hw⟩
  | exit i => exact h
  | ret => exact h
  | panic p => exact h
end

def PV.one : PV → Bool
  | .agg _ => false
  | .tuple _ => false
  | _ => true
theorem one_pv (p : PV) : (V.pv p).one = p.one := by cases p <;> rfl
theorem vc_int (n : Int) : vcells (.pv (.int n)) = some [.pv (.int n)] := rfl
theorem vo_int (n : Int) : (V.pv (.int n)).one = true := rfl
theorem po_int (n : Int) : PV.one (.int n) = true := rfl
theorem vc_bool (b : Bool) : vcells (.pv (.bool b)) = some [.pv (.bool b)] := rfl
theorem vo_bool (b : Bool) : (V.pv (.bool b)).one = true := rfl
theorem po_bool (b : Bool) : PV.one (.bool b) = true := rfl
theorem vc_nil  : vcells (.pv (.nil)) = some [.pv (.nil)] := rfl
theorem vo_nil  : (V.pv (.nil)).one = true := rfl
theorem po_nil  : PV.one (.nil) = true := rfl
theorem vc_nils  : vcells (.pv (.nils)) = some [.pv (.nils)] := rfl
theorem vo_nils  : (V.pv (.nils)).one = true := rfl
theorem po_nils  : PV.one (.nils) = true := rfl
theorem vc_nilfn  : vcells (.pv (.nilfn)) = some [.pv (.nilfn)] := rfl
theorem vo_nilfn  : (V.pv (.nilfn)).one = true := rfl
theorem po_nilfn  : PV.one (.nilfn) = true := rfl
theorem vc_nilm  : vcells (.pv (.nilm)) = some [.pv (.nilm)] := rfl
theorem vo_nilm  : (V.pv (.nilm)).one = true := rfl
theorem po_nilm  : PV.one (.nilm) = true := rfl
theorem vc_nilif  : vcells (.pv (.nilif)) = some [.pv (.nilif)] := rfl
theorem vo_nilif  : (V.pv (.nilif)).one = true := rfl
theorem po_nilif  : PV.one (.nilif) = true := rfl
theorem vc_ptr (cs : List PV) : vcells (.pv (.ptr cs)) = some [.pv (.ptr cs)] := rfl
theorem vo_ptr (cs : List PV) : (V.pv (.ptr cs)).one = true := rfl
theorem po_ptr (cs : List PV) : PV.one (.ptr cs) = true := rfl
theorem vc_slice (es : List (List PV)) : vcells (.pv (.slice es)) = some [.pv (.slice es)] := rfl
theorem vo_slice (es : List (List PV)) : (V.pv (.slice es)).one = true := rfl
theorem po_slice (es : List (List PV)) : PV.one (.slice es) = true := rfl
theorem vc_iface (t : Nat) (p : PV) : vcells (.pv (.iface t p)) = some [.pv (.iface t p)] := rfl
theorem vo_iface (t : Nat) (p : PV) : (V.pv (.iface t p)).one = true := rfl
theorem po_iface (t : Nat) (p : PV) : PV.one (.iface t p) = true := rfl
theorem vc_loc (n o : Nat) : vcells (.loc n o) = some [.loc n o] := rfl
theorem vo_loc (n o : Nat) : V.one (.loc n o) = true := rfl
theorem vc_eloc (n v i o : Nat) : vcells (.eloc n v i o) = some [.eloc n v i o] := rfl
theorem vo_eloc (n v i o : Nat) : V.one (.eloc n v i o) = true := rfl
theorem vc_arr (n v l : Nat) : vcells (.arr n v l) = some [.arr n v l] := rfl
theorem vo_arr (n v l : Nat) : V.one (.arr n v l) = true := rfl
theorem vc_map (n : Nat) : vcells (.map n) = some [.map n] := rfl
theorem vo_map (n : Nat) : V.one (.map n) = true := rfl
theorem vc_vsl (es : List (List V)) : vcells (.vsl es) = some [.vsl es] := rfl
theorem vo_vsl (es : List (List V)) : V.one (.vsl es) = true := rfl
theorem vc_fn (f : Nat) (cs : List V) : vcells (.fn f cs) = some [.fn f cs] := rfl
theorem vo_fn (f : Nat) (cs : List V) : V.one (.fn f cs) = true := rfl
theorem vc_agg (cs : List PV) : vcells (.pv (.agg cs)) = some (cs.map .pv) := rfl
theorem vc_aggv (cs : List V) : vcells (.agg cs) = some cs := rfl
theorem pc_int (n : Int) : pcells (.int n) = some [.int n] := rfl
theorem pc_bool (b : Bool) : pcells (.bool b) = some [.bool b] := rfl
theorem pc_nil  : pcells (.nil) = some [.nil] := rfl
theorem pc_nils  : pcells (.nils) = some [.nils] := rfl
theorem pc_nilfn  : pcells (.nilfn) = some [.nilfn] := rfl
theorem pc_nilm  : pcells (.nilm) = some [.nilm] := rfl
theorem pc_nilif  : pcells (.nilif) = some [.nilif] := rfl
theorem pc_ptr (cs : List PV) : pcells (.ptr cs) = some [.ptr cs] := rfl
theorem pc_slice (es : List (List PV)) : pcells (.slice es) = some [.slice es] := rfl
theorem pc_iface (t : Nat) (p : PV) : pcells (.iface t p) = some [.iface t p] := rfl
theorem pc_agg (cs : List PV) : pcells (.agg cs) = some cs := rfl
theorem pvE_take (es : List (List PV)) (k : Nat) : (pvE es).take k = pvE (es.take k) := by simp [pvE]
theorem pvE_app (a b : List (List PV)) : pvE a ++ pvE b = pvE (a ++ b) := by simp [pvE]
theorem pvE_len (a : List (List PV)) : (pvE a).length = a.length := by simp [pvE]
theorem pvE_all (es : List (List PV)) (s : Nat) : (∀ y ∈ pvE es, y.length = s) ↔ ∀ y ∈ es, y.length = s := by
  simp [pvE, pvL]
theorem pvE_one (es : List (List PV)) : (∀ y ∈ pvE es, y.all V.one = true) ↔ ∀ y ∈ es, y.all PV.one = true := by
  simp [pvE, pvL, one_pv]
theorem pvE_nil : ([] : List (List V)) = pvE [] := rfl
theorem pvE_get (es : List (List PV)) (i : Nat) : (pvE es)[i]? = (es[i]?).map pvL := by simp [pvE]
end Go.Lg
/- Loops of few rounds. -/
namespace Go.Lg
def Rounds (X : Env1) (b : Code) (Q : AEx → St → Prop) : Nat → St → Prop
  | 0, _ => False
  | n + 1, σ => AWP X b σ (thenQ (Rounds X b Q n) Q)
theorem ex_round {X : Env1} {b : Code} {Q : AEx → St → Prop} {n : Nat} {σ : St} (h : AWP X b σ (thenQ (Rounds X b Q n) Q)) : Rounds X b Q (n + 1) σ := h
theorem rounds_wp {X : Env1} {b : Code} {Q : AEx → St → Prop} {C : Ctx} (hC : COK X C) : ∀ (n : Nat) (σ : St) (E : Env) (a : Act) (w : World), Ga C E σ a w → Rounds X b Q n σ → Code.rounds X.P b (APost C Q) n a w
  | 0, _, _, _, _, _, h => h.elim
  | n + 1, σ, E, a, w, hG, h => by
    rw [rounds_succ]
    refine wp_mono (h C E a w hC hG) ?_
    rintro e a' w' ⟨E', σ', ae, hG', hrel, hq⟩
    cases ae with
    | normal => cases hrel; exact rounds_wp hC n σ' E' a' w' hG' hq
    | exit i => cases hrel; exact ⟨E', σ', .exit i, hG', rfl, hq⟩
    | ret => cases hrel; exact ⟨E', σ', .ret, hG', rfl, hq⟩
    | panic p => obtain ⟨v, rfl, hv⟩ := hrel; exact ⟨E', σ', .panic p, hG', ⟨v, rfl, hv⟩, hq⟩
/-- a loop of at most n rounds -/
theorem ex_loop (n : Nat) {X : Env1} {b : Code} {Q : AEx → St → Prop} {σ : St} (h : Rounds X b Q n σ) : AWP X (.loop b) σ Q :=
  fun _ E a w hC hG => wp_loop_rounds n (rounds_wp hC n σ E a w hG h)

/-- only some slots and some objects are still needed -/
def pickO (objs : List (Nat × Ob)) : List Nat → List (Nat × Ob)
  | [] => []
  | n :: r => match getO objs n with
    | some o => (n, o) :: pickO objs r
    | none => pickO objs r
def pickS (slots : List (Nat × V)) : List Nat → List (Nat × V)
  | [] => []
  | n :: r => (n, getS slots n) :: pickS slots r
def St.keep (σ : St) (ss ns : List Nat) : St := ⟨pickS σ.slots ss, pickO σ.objs ns, ns⟩
theorem pickS_le (l : List (Nat × V)) : ∀ ss, slotsLe (pickS l ss) l
  | [] => trivial
  | s :: r => ⟨rfl, pickS_le l r⟩
theorem pickO_le (l : List (Nat × Ob)) : ∀ ns, subO (pickO l ns) l
  | [] => trivial
  | n :: r => by
    unfold pickO
    cases h : getO l n with
    | none => exact pickO_le l r
    | some o => exact ⟨h, pickO_le l r⟩
theorem Weak.keep {X : Env1} {σ : St} (ss ns : List Nat) (h : subL (namesSl (σ.keep ss ns).slots ++ namesOb (σ.keep ss ns).objs ++ X.given) ns) : Weak X σ (σ.keep ss ns) :=
  ⟨pickS_le _ _, pickO_le _ _, h⟩
theorem ex_keep {X : Env1} {c : Code} {Q : AEx → St → Prop} {σ σ' : St} (ss ns : List Nat) (hσ : σ.keep ss ns = σ') (hn : subL (namesSl σ'.slots ++ namesOb σ'.objs ++ X.given) ns) (h : AWP X c σ' Q) : AWP X c σ Q := by
  subst hσ
  exact AWP.weaken (Weak.keep ss ns hn) h
end Go.Lg
