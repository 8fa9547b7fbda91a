/- Part of the proof: the logic of contracts, proved sound for the model; no conditions. -/
import Derived.Test.YtodjpfpmhjdhbaaGreatDoorCallsA1
import Derived.Laws.Tables
set_option linter.unusedVariables false
set_option linter.unusedSimpArgs false
set_option linter.unusedSectionVars false
/- Lengths and cuts of slices. -/
namespace Go.Lg
section
variable {P : Program} {C : Ctx} {E : Env} {σ : St} {a : Act} {w : World} {gl : Nat → Option (List PV)} {o : Oper} {T : Nat → Option TI} {note : Note}

/-- a view of an array that is up to date -/
theorem arr_view {n ver len sz ty : Nat} {es : List (List V)} (hob : ObOK E w n (.arr ver sz ty es)) {v : Value} (hx : RepV E (.arr n ver len) v) :
    ∃ ad cap, E.g n = .slice ad es.length cap ∧ v = .slice ad len cap ∧ len ≤ es.length ∧ es.length ≤ cap ∧ es.length ≤ maxLen := by
  obtain ⟨hver, _⟩ := id hob
  obtain ⟨ad, cap, hgn, hlc, hlm, _⟩ := arr_header hob
  simp only [RepV] at hx
  obtain ⟨_, _, hx⟩ := hx
  obtain ⟨ad', L, cap', hgn', hv, hle⟩ := hx hver.symm
  rw [hgn] at hgn'
  cases hgn'
  exact ⟨ad, cap, hgn, hv, hle, hlc, hlm⟩

theorem sound_len (h : Ga C E σ a w) (hg : GOK gl C.E0.H) (hd : ∀ d, o.dst = some d → d < C.nt) (hT : TOK P T) {args : Array Operand} {argTypes : Array Nat} (ho : o.op = .call { callee := .builtin .len, args, argTypes }) {r : R} (hc : r.cond)
    (hs : stepOp T note (σ.val gl) (getO σ.objs) o.dst (.call { callee := .builtin .len, args, argTypes }) = some r) : Sound P C E σ a w o r := by
  simp only [stepOp] at hs
  split at hs
  · rename_i t x et ex
    have hat : argTypes = #[t] := by rw [← Array.toArray_toList (xs := argTypes), et]
    have hax : args = #[x] := by rw [← Array.toArray_toList (xs := args), ex]
    subst hat hax
    have hx := val_rep h hg x
    split at hs
    · rename_i e s1 s2 s3 s4 et
      obtain ⟨d, hde, hk⟩ := (hT t _ et).desc
      simp only [TKOK] at hk
      subst hk
      have hrun : ∀ ad n c, a.eval x = .slice ad n c → OpRes P o a w (.int .i64 n) w := by
        intro ad n c hv
        refine .inl ?_
        simp [execOp, ho, resolve, invoke, builtin, Builtin.len_, hv, run_underlying hde, goInt]
      unfold stepLen at hs
      split at hs
      · rename_i es ex
        rw [ex] at hx
        simp only [RepV, RepP] at hx
        obtain ⟨ad, cap, hv, _, hm, _⟩ := hx
        cases hs
        exact sound_int h hd (hrun _ _ _ hv) hm
      · rename_i ex
        rw [ex] at hx
        simp only [RepV, RepP] at hx
        cases hs
        exact sound_int h hd (hrun _ _ _ hx) trivial
      · rename_i n ver len ex
        rw [ex] at hx
        split at hs
        · rename_i ver' sz ty es eo
          cases hs
          have hc : ver = ver' := hc
          subst hc
          obtain ⟨ad, cap, hgn, hv, hle, _, hm⟩ := arr_view (h.objs n _ eo) hx
          exact sound_int h hd (hrun _ _ _ hv) hm
        · cases hs
      · cases hs
    · cases hs
  · cases hs

theorem run_slice_lo {t e : Nat} {te : TI} (hte : TIOK P e te) (hde : P.underlying t = some (.slice e)) {ad : Option Addr} {len cap l : Nat} (hl : l ≤ len) :
    (Instr.sliceAt t (.slice ad len cap) (some (.int .i64 l)) none none).run P w = .ok (.slice (if cap = l then ad else ad.map (·.add (l * te.size))) (len - l) (cap - l)) w := by
  simp [Instr.sliceAt, run_underlying hde, Instr.slice, Instr.sliceBounds, Instr.sliceBound, asIntOf, hl, hte.run_size]
theorem run_slice_hi {t e : Nat} {te : TI} (hte : TIOK P e te) (hde : P.underlying t = some (.slice e)) {ad : Option Addr} {len cap k : Nat} (hk : k ≤ cap) :
    (Instr.sliceAt t (.slice ad len cap) none (some (.int .i64 k)) none).run P w = .ok (.slice ad k cap) w := by
  have hm : ad.map (fun x => x.add 0) = ad := by cases ad <;> simp [Addr.add]
  simp [Instr.sliceAt, run_underlying hde, Instr.slice, Instr.sliceBounds, Instr.sliceBound, asIntOf, hk, hte.run_size, hm]

theorem run_slice_full {t e : Nat} {te : TI} (hte : TIOK P e te) (hde : P.underlying t = some (.slice e)) {ad : Option Addr} {len cap : Nat} (hk : len ≤ cap) :
    (Instr.sliceAt t (.slice ad len cap) none (some (.int .i64 len)) (some (.int .i64 len))).run P w = .ok (.slice ad len len) w := by
  have hm : ad.map (fun x => x.add 0) = ad := by cases ad <;> simp [Addr.add]
  simp [Instr.sliceAt, run_underlying hde, Instr.slice, Instr.sliceBounds, Instr.sliceBound, asIntOf, hk, hte.run_size, hm]
theorem sound_slice (h : Ga C E σ a w) (hg : GOK gl C.E0.H) (hd : ∀ d, o.dst = some d → d < C.nt) (hT : TOK P T) {t : Nat} {x : Operand} {lo hi mx : Option Operand} (ho : o.op = .slice t x lo hi mx) {r : R} (hc : r.cond)
    (hs : stepOp T note (σ.val gl) (getO σ.objs) o.dst (.slice t x lo hi mx) = some r) : Sound P C E σ a w o r := by
  have hx := val_rep h hg x
  have nx := val_names (gl := gl) h x
  simp only [stepOp] at hs
  split at hs
  · rename_i e s1 s2 s3 s4 et
    obtain ⟨d, hde, hk⟩ := (hT t _ et).desc
    simp only [TKOK] at hk
    subst hk
    split at hs
    · rename_i te ee
      have hte := hT e te ee
      unfold stepSlice at hs
      split at hs
      · rename_i es l ex el eh em
        rw [ex] at hx
        simp only [RepV, RepP] at hx
        obtain ⟨ad, cap, hv, hlc, hm, hr⟩ := hx
        cases hs
        obtain ⟨h0, h1, h2⟩ := hc
        cases lo with
        | none => cases el
        | some lo =>
          simp only [Option.map_some, Option.some.injEq] at el
          have hlo := val_rep h hg lo
          rw [el] at hlo
          have hlo := rep_int hlo
          cases hi with
          | some _ => cases eh
          | none =>
            cases mx with
            | some _ => cases em
            | none =>
              obtain ⟨l, rfl⟩ := Int.eq_ofNat_of_zero_le h0
              have hll : l ≤ es.length := by omega
              refine Sound.pure h (v := .slice (if cap = l then ad else ad.map (·.add (l * te.size))) (es.length - l) (cap - l)) (.inl ?_) ?_ (by simp [R.ofIf, V.names]) hd trivial
              · simp only [execOp, ho, Option.map_some, Option.map_none, hv, hlo]
                simp [run_slice_lo hte hde hll]
              · simp only [RepV, RepP, Int.toNat_natCast, List.length_drop]
                refine ⟨_, _, rfl, by omega, by omega, ?_⟩
                rcases hr with rfl | ⟨b, off, rfl, hr⟩
                · simp
                · by_cases he : l = es.length
                  · left; simp [he]
                  · right
                    have hne : ¬ cap = l := by omega
                    refine ⟨b, off + l * te.size, ?_, ?_⟩
                    · simp [hne, add_none]
                    · rw [← List.drop_drop]
                      exact hr.dropE h2 l
      · rename_i es k ex el eh em
        rw [ex] at hx
        simp only [RepV, RepP] at hx
        obtain ⟨ad, cap, hv, hlc, hm, hr⟩ := hx
        cases hs
        obtain ⟨h0, h1⟩ := hc
        cases hi with
        | none => cases eh
        | some hi =>
          simp only [Option.map_some, Option.some.injEq] at eh
          have hhi := val_rep h hg hi
          rw [eh] at hhi
          have hhi := rep_int hhi
          cases lo with
          | some _ => cases el
          | none =>
            cases mx with
            | some _ => cases em
            | none =>
              obtain ⟨k, rfl⟩ := Int.eq_ofNat_of_zero_le h0
              have hkk : k ≤ es.length := by omega
              refine Sound.pure h (v := .slice ad k cap) (.inl ?_) ?_ (by simp [R.ofIf, V.names]) hd trivial
              · simp only [execOp, ho, Option.map_some, Option.map_none, hv, hhi]
                simp [run_slice_hi hte hde (show k ≤ cap by omega)]
              · simp only [RepV, RepP, Int.toNat_natCast]
                have hkl : (es.take k).length = k := by simp; omega
                refine ⟨_, _, by rw [hkl], by omega, by omega, ?_⟩
                rcases hr with rfl | ⟨b, off, rfl, hr⟩
                · simp
                · exact .inr ⟨b, off, rfl, hr.takeE k⟩
      · rename_i n ver len k ex el eh em
        rw [ex] at hx nx
        split at hs
        · rename_i ver' sz ty es eo
          cases hs
          obtain ⟨rfl, h0, h1⟩ := hc
          have hob := h.objs n _ eo
          obtain ⟨hver, _⟩ := id hob
          obtain ⟨ad, cap, hgn, hv, hle, hlc, hm⟩ := arr_view hob hx
          cases hi with
          | none => cases eh
          | some hi =>
            simp only [Option.map_some, Option.some.injEq] at eh
            have hhi := val_rep h hg hi
            rw [eh] at hhi
            have hhi := rep_int hhi
            cases lo with
            | some _ => cases el
            | none =>
              cases mx with
              | some _ => cases em
              | none =>
                obtain ⟨k, rfl⟩ := Int.eq_ofNat_of_zero_le h0
                have hkk : k ≤ len := by omega
                refine Sound.pure h (v := .slice ad k cap) (.inl ?_) ?_ ?_ hd trivial
                · simp only [execOp, ho, Option.map_some, Option.map_none, hv, hhi]
                  simp [run_slice_hi hte hde (show k ≤ cap by omega)]
                · simp only [RepV, Int.toNat_natCast]
                  exact ⟨by omega, ⟨_, _, _, rfl⟩, fun _ => ⟨ad, _, cap, hgn, rfl, by omega⟩⟩
                · intro m hm
                  simp only [R.ofIf, V.names] at hm nx
                  exact nx m hm
        · cases hs
      · rename_i es k k2 ex el eh em
        rw [ex] at hx
        simp only [RepV, RepP] at hx
        obtain ⟨ad, cap, hv, hlc, hm, hr⟩ := hx
        cases hs
        obtain ⟨h0, h1⟩ := hc
        subst h0 h1
        cases hi with
        | none => cases eh
        | some hi =>
          simp only [Option.map_some, Option.some.injEq] at eh
          have hhi := val_rep h hg hi
          rw [eh] at hhi
          have hhi := rep_int hhi
          cases lo with
          | some _ => cases el
          | none =>
            cases mx with
            | none => cases em
            | some mx =>
              simp only [Option.map_some, Option.some.injEq] at em
              have hmx := val_rep h hg mx
              rw [em] at hmx
              have hmx := rep_int hmx
              refine Sound.pure h (v := .slice ad es.length es.length) (.inl ?_) ?_ (by simp [R.ofIf, V.names]) hd trivial
              · simp only [execOp, ho, Option.map_some, Option.map_none, hv, hhi, hmx]
                simp [run_slice_full hte hde hlc]
              · simp only [RepV]
                exact ⟨ad, rfl, hm, hr⟩
      · cases hs
    · cases hs
  · cases hs
end
end Go.Lg
/- Operations that make memory. -/
namespace Go.Lg
section
variable {P : Program} {C : Ctx} {E : Env} {σ : St} {a : Act} {w : World} {gl : Nat → Option (List PV)} {o : Oper} {T : Nat → Option TI} {note : Note}

theorem Hle.zero (H : Hp) : Hle (fun _ => []) H := fun _ => List.nil_prefix

theorem heapOK_alloc (hh : HeapOK E w) (ob : Obj) (E' : Env) (hE : E'.H = E.H) : HeapOK E' (w.alloc ob) := by
  intro b hb
  rw [hE] at hb ⊢
  obtain ⟨c, T, fr, hc, hp⟩ := hh b hb
  exact ⟨c, T, fr, by rw [heap_alloc_old w ob b (Array.getElem?_eq_some_iff.1 hc).1]; exact hc, hp⟩

/-- a new variable under a new name -/
theorem Sound.newBox (h : Ga C E σ a w) (hd : ∀ d, o.dst = some d → d < C.nt) {n t : Nat} {cs : List V} {c : Array Value} {cd : Prop} (hn : n ∉ σ.used)
    (hl : c.size = cs.length) (hr : RepVL E cs c.toList) (hnm : ∀ m ∈ namesL cs, m ∈ σ.used)
    (hrun : OpRes P o a w (.pointer (some ⟨w.heap.size, 0, none⟩)) (w.alloc (.cells c t))) :
    Sound P C E σ a w o ⟨cd, True, .loc n 0, some (n, .box cs), true⟩ := by
  let E' : Env := { E with g := fun m => if m = n then .pointer (some ⟨w.heap.size, 0, none⟩) else E.g m }
  have hg' : E'.g n = .pointer (some ⟨w.heap.size, 0, none⟩) := by simp [E']
  have hE : ∀ m, m ≠ n → E'.g m = E.g m ∧ E'.ver m = E.ver m ∧ E'.sz m = E.sz m := fun m hm => ⟨by simp [E', hm], rfl, rfl⟩
  refine ⟨_, _, E', hrun, ?_, trivial⟩
  refine h.change (E' := E') n (some (.box cs)) (setO σ.objs n (.box cs)) (n :: σ.used) o.dst (.loc n 0) _ (fun m => getO_setO _ _ _ _) (Hle.refl _) hE (fun hk => absurd hk hn) (fun hk => absurd hk hn)
    (by simp) ⟨rfl, rfl, rfl⟩ (fun b hb _ => ⟨heap_alloc_old w _ b hb, rfl⟩) (heapOK_alloc h.heap _ E' rfl) ?_ ?_ (fun m hm => by simp [hm]) ?_ ?_ hd
  · intro o' e
    cases e
    refine ⟨⟨w.heap.size, c, t, hg', heap_alloc_new w _, hl, ?_, h.heap.lt (Nat.le_refl _)⟩, by simp, fun m hm => by simp [Ob.names] at hm; simp [hnm m hm]⟩
    refine RepVL.mono (E := E) (E' := E') (Hle.refl E.H) cs _ _ List.prefix_rfl (fun m hm => ?_) hr
    have : m ≠ n := fun e => hn (e ▸ hnm m hm)
    exact EExt.of_eq (hE m this).1 (hE m this).2.1 (hE m this).2.2
  · intro o' b e hb
    rw [hg'] at hb
    simp [blk] at hb
    omega
  · exact ⟨_, hg', rfl⟩
  · simp [V.names]

/-- a new block that is never changed -/
theorem Ga.newRow (h : Ga C E σ a w) {dst : Option Nat} (hd : ∀ d, dst = some d → d < C.nt) (t : Nat) (c : Array Value) {x : V} {v : Value} (hx : ∀ H', Hle E.H H' → H' w.heap.size = c.toList → RepV { E with H := H' } x v)
    (hxn : ∀ n ∈ x.names, n ∈ σ.used) : ∃ E', Ga C E' ⟨putS dst x σ.slots, σ.objs, σ.used⟩ (a.put dst v) (w.alloc (.cells c t)) := by
  let H' : Hp := fun b => if b = w.heap.size then c.toList else E.H b
  have h0 : E.H w.heap.size = [] := h.heap.lt (Nat.le_refl _)
  have hH : Hle E.H H' := by
    intro b
    by_cases e : b = w.heap.size
    · subst e; rw [h0]; exact List.nil_prefix
    · simp [H', e]
  have hnew : H' w.heap.size = c.toList := by simp [H']
  refine ⟨{ E with H := H' }, ?_⟩
  refine h.pure H' dst x v hH (by simp) ⟨rfl, rfl, rfl⟩ (fun b hb => ⟨heap_alloc_old w _ b hb, ?_⟩) ?_ (hx H' hH hnew) hxn hd
  · have : b ≠ w.heap.size := by omega
    simp [H', this]
  · intro b hb
    by_cases e : b = w.heap.size
    · subst e
      refine ⟨c, t, (0, 0), heap_alloc_new w _, ?_, .inl rfl⟩
      show Msk (H' w.heap.size) _
      rw [hnew]
      exact Msk.refl _
    · have hb' : E.H b ≠ [] := by simpa [H', e] using hb
      obtain ⟨c', T', fr, hc, hp⟩ := h.heap b hb'
      refine ⟨c', T', fr, ?_, by simpa [H', e] using hp.1, by simpa [H', e] using hp.2⟩
      rw [heap_alloc_old w _ b (Array.getElem?_eq_some_iff.1 hc).1]
      exact hc
theorem Ga.drew (h : Ga C E σ a w) : Ga C E σ a w.drew :=
  ⟨h.slots, h.size, h.defers, h.heap, h.objs, h.apart, h.usedS, h.usedO, h.usedG, h.grown, h.rest, h.same, h.hle, h.own, h.ext, h.keep⟩
theorem Sound.newRow (h : Ga C E σ a w) (hd : ∀ d, o.dst = some d → d < C.nt) {t : Nat} {c : Array Value} {cd : Prop} {x : V} {v : Value} (hx : ∀ H', Hle E.H H' → H' w.heap.size = c.toList → RepV { E with H := H' } x v)
    (hxn : ∀ n ∈ x.names, n ∈ σ.used) (hrun : OpRes P o a w v (w.alloc (.cells c t))) : Sound P C E σ a w o ⟨cd, True, x, none, false⟩ := by
  obtain ⟨E', h'⟩ := h.newRow hd t c hx hxn
  exact ⟨v, _, E', hrun, h', trivial⟩

theorem vcells_rep {x : V} {cs : List V} {v : Value} (h : vcells x = some cs) (hx : RepV E x v) : v.cells.size = cs.length ∧ RepVL E cs v.cells.toList ∧ ∀ m ∈ namesL cs, m ∈ x.names := by
  have one : ∀ v' : Value, (∀ c, v' ≠ .agg c) → v'.cells = #[v'] := by intro v' hv'; cases v' <;> first | rfl | exact absurd rfl (hv' _)
  unfold vcells at h
  split at h
  · cases h
    simp only [RepV, RepP] at hx
    obtain ⟨vs, rfl, hl, hr⟩ := hx
    refine ⟨by simpa [Value.cells] using hl, by have := RepVL.ofPv hr; simp only [pvL] at this; simpa [Value.cells] using this, ?_⟩
    intro m hm
    have := namesL_pvL
    simp only [pvL] at this
    rw [this] at hm
    simp at hm
  · cases h
  · cases h
    simp only [RepV] at hx
    obtain ⟨vs, rfl, hl, hr⟩ := hx
    exact ⟨by simpa [Value.cells] using hl, by simpa [Value.cells] using hr, fun m hm => by simpa [V.names] using hm⟩
  · cases h
  · cases h
  · rename_i n1 n2 n3 n4 n5
    cases h
    have hv : ∀ c, v ≠ .agg c := by
      intro c e
      subst e
      cases x with
      | undef => exact n5 rfl
      | pv p =>
        cases p with
        | agg cs => exact n1 cs rfl
        | tuple cs => exact n2 cs rfl
        | slice es => simp only [RepV, RepP] at hx; obtain ⟨_, _, h, _⟩ := hx; cases h
        | ptr es => simp only [RepV, RepP] at hx; obtain ⟨_, _, h, _⟩ := hx; cases h
        | iface t p => simp only [RepV, RepP] at hx; obtain ⟨_, h, _⟩ := hx; cases h
        | _ => simp [RepV, RepP] at hx
      | agg cs => exact n3 cs rfl
      | tuple cs => exact n4 cs rfl
      | fn f cs => simp only [RepV] at hx; obtain ⟨_, h, _⟩ := hx; cases h
      | loc n off => simp only [RepV] at hx; obtain ⟨_, _, h⟩ := hx; cases h
      | eloc n ver i off => simp only [RepV] at hx; obtain ⟨_, ⟨_, h⟩, _⟩ := hx; cases h
      | arr n ver len => simp only [RepV] at hx; obtain ⟨_, ⟨_, _, _, h⟩, _⟩ := hx; cases h
      | vsl es => simp only [RepV] at hx; obtain ⟨_, _, h, _⟩ := hx; cases h
      | fsl es => simp only [RepV] at hx; obtain ⟨_, h, _⟩ := hx; cases h
      | map n => simp only [RepV] at hx; obtain ⟨_, _, h⟩ := hx; cases h
    rw [one v hv]
    exact ⟨rfl, by simpa [RepVL] using hx, fun m hm => by simpa [namesL] using hm⟩

theorem pcells_rep {H : Hp} {p : PV} {cs : List PV} {v : Value} (h : pcells p = some cs) (hx : RepP H p v) : v.cells.size = cs.length ∧ RepL H cs v.cells.toList := by
  unfold pcells at h
  split at h
  · cases h
    simp only [RepP] at hx
    obtain ⟨vs, rfl, hl, hr⟩ := hx
    exact ⟨by simpa [Value.cells] using hl, by simpa [Value.cells] using hr⟩
  · cases h
  · rename_i n1 n2
    cases h
    have : v.cells = #[v] := by
      cases p with
      | agg cs => exact absurd rfl (n1 cs)
      | tuple cs => exact absurd rfl (n2 cs)
      | slice es => simp only [RepP] at hx; obtain ⟨_, _, rfl, _⟩ := hx; rfl
      | ptr es => simp only [RepP] at hx; obtain ⟨_, _, rfl, _⟩ := hx; rfl
      | iface t p => simp only [RepP] at hx; obtain ⟨_, rfl, _⟩ := hx; rfl
      | _ => simp only [RepP] at hx; subst hx; rfl
    rw [this]
    exact ⟨rfl, by simpa [RepL] using hx⟩

theorem sound_alloc (h : Ga C E σ a w) (hd : ∀ d, o.dst = some d → d < C.nt) (hT : TOK P T) {t : Nat} (ho : o.op = .alloc t) {r : R} {val : Operand → V} {ob : Nat → Option Ob}
    (hs : stepOp T note val ob o.dst (.alloc t) = some r) (hn : ∀ n x, r.wr = some (n, x) → r.new = true → n ∉ σ.used) : Sound P C E σ a w o r := by
  have key : ∀ (ti : TI) (n : Nat), T t = some ti → n ∉ σ.used → Sound P C E σ a w o ⟨True, True, .loc n 0, some (n, .box (pvL ti.zc)), true⟩ := by
    intro ti n et hn
    have hti := hT t ti et
    refine Sound.newBox h hd (t := t) (c := ti.zero.cells) hn (by rw [hti.zlen, pvL, List.length_map, hti.zc]) ?_ (by simp [namesL_pvL]) (.inl ?_)
    · exact RepVL.ofPv (RepL.mono (Hle.zero _) _ _ _ List.prefix_rfl hti.zcells)
    · simp [execOp, ho, Instr.alloc, hti.run_zero, newVar, newRow]
  simp only [stepOp] at hs
  split at hs
  · cases hs
    exact key _ _ (by assumption) (hn _ _ rfl rfl)
  · cases hs
    exact key _ _ (by assumption) (hn _ _ rfl rfl)
  · cases hs

theorem sound_box (h : Ga C E σ a w) (hg : GOK gl C.E0.H) (hd : ∀ d, o.dst = some d → d < C.nt) {t : Nat} {x : Operand} (ho : o.op = .box t x) {r : R} {ob : Nat → Option Ob}
    (hs : stepOp T note (σ.val gl) ob o.dst (.box t x) = some r) (hn : ∀ n x, r.wr = some (n, x) → r.new = true → n ∉ σ.used) : Sound P C E σ a w o r := by
  have hx := val_rep h hg x
  have nx := val_names (gl := gl) h x
  have hrun : OpRes P o a w (.pointer (some ⟨w.heap.size, 0, none⟩)) (w.alloc (.cells (a.eval x).cells t)) := .inl (by simp [execOp, ho, Instr.box, newVar, newRow])
  simp only [stepOp] at hs
  split at hs
  · rename_i n
    split at hs
    · rename_i cs ec
      split at hs
      · cases hs
        obtain ⟨h1, h2, h3⟩ := vcells_rep ec hx
        exact Sound.newBox h hd (hn _ _ rfl rfl) h1 h2 (fun m hm => nx m (h3 m hm)) hrun
      · cases hs
    · cases hs
  · split at hs
    · rename_i p ep
      split at hs
      · rename_i cs ec
        cases hs
        rw [ep] at hx
        simp only [RepV] at hx
        obtain ⟨h1, h2⟩ := pcells_rep ec hx
        refine Sound.newRow h hd (fun H' hH hnew => ?_) (by simp [V.names]) hrun
        simp only [RepV, RepP]
        refine ⟨_, 0, rfl, ?_⟩
        rw [hnew]
        exact RepL.mono hH cs _ _ List.prefix_rfl h2
      · cases hs
    · cases hs

theorem fold_set (off : Nat) : ∀ (ys : List Value) (k : Nat) (cells : Array Value), off + k + ys.length ≤ cells.size →
    ((ys.zipIdx k).foldl (fun cs (p : Value × Nat) => cs.setIfInBounds (off + p.2) p.1) cells).toList = cells.toList.take (off + k) ++ ys ++ cells.toList.drop (off + k + ys.length)
  | [], k, cells, _ => by simp
  | y :: ys, k, cells, h => by
    simp only [List.zipIdx_cons, List.foldl_cons]
    rw [fold_set off ys (k + 1) _ (by simp at h ⊢; omega)]
    simp only [List.length_cons] at h ⊢
    have e := list_seg_step cells.toList (off + k) y ys (by simp; omega)
    simpa [Array.toList_setIfInBounds, Nat.add_assoc, Nat.add_comm 1] using e

theorem putL_rep {cs ys : List V} {off : Nat} {vs us : List Value} (hl : vs.length = cs.length) (hu : us.length = ys.length) (ho : off + ys.length ≤ cs.length) (hr : RepVL E cs vs) (hy : RepVL E ys us) :
    RepVL E (putL cs off ys) (vs.take off ++ us ++ vs.drop (off + us.length)) := by
  unfold putL
  refine RepVL.append ?_ (RepVL.append ?_ (hr.take off) hy) ?_
  · simp; omega
  · simp; omega
  · rw [hu]; exact hr.drop _
theorem putL_len (cs ys : List V) (off : Nat) (ho : off + ys.length ≤ cs.length) : (putL cs off ys).length = cs.length := by
  simp [putL]; omega
theorem putL_names (cs ys : List V) (off : Nat) : ∀ m ∈ namesL (putL cs off ys), m ∈ namesL cs ∨ m ∈ namesL ys := by
  intro m hm
  obtain ⟨c, hc, hm⟩ := mem_namesL.1 hm
  simp only [putL, List.mem_append] at hc
  rcases hc with (hc | hc) | hc
  · exact .inl (mem_namesL.2 ⟨c, List.mem_of_mem_take hc, hm⟩)
  · exact .inr (mem_namesL.2 ⟨c, hc, hm⟩)
  · exact .inl (mem_namesL.2 ⟨c, List.mem_of_mem_drop hc, hm⟩)

theorem fill_rep {fs : List (Nat × Nat)} {place : Nat → Option (Nat × Nat)} (hp : ∀ i p, fs[i]? = some p → place i = some p) :
    ∀ (parts : List (Nat × Operand)) (cs cs' : List V) (cells : Array Value), cells.size = cs.length → RepVL E cs cells.toList → (∀ m ∈ namesL cs, m ∈ σ.used) →
      Ga C E σ a w → GOK gl C.E0.H → fillV fs cs (parts.map fun p => (p.1, σ.val gl p.2)) = some cs' →
      ∃ cells', Instr.fill place cells (parts.map fun p => (p.1, a.eval p.2)) = some cells' ∧ cells'.size = cs'.length ∧ RepVL E cs' cells'.toList ∧ ∀ m ∈ namesL cs', m ∈ σ.used
  | [], cs, cs', cells, hl, hr, hn, _, _, hf => by
    simp only [List.map_nil, fillV, Option.some.injEq] at hf
    subst hf
    exact ⟨cells, rfl, hl, hr, hn⟩
  | (i, x) :: parts, cs, cs', cells, hl, hr, hn, h, hg, hf => by
    simp only [List.map_cons, fillV] at hf
    split at hf
    · rename_i off size ys e1 e2
      split at hf
      · rename_i hc
        obtain ⟨h1, h2, h3⟩ := vcells_rep e2 (val_rep h hg x)
        have hsz : off + (a.eval x).cells.size ≤ cells.size := by rw [h1, hl]; omega
        have e := fold_set off (a.eval x).cells.toList 0 cells (by simpa using hsz)
        simp only [Nat.add_zero] at e
        have ih := fill_rep hp parts (putL cs off ys) cs' ((a.eval x).cells.zipIdx.foldl (fun cs (p : Value × Nat) => cs.setIfInBounds (off + p.2) p.1) cells)
          (by
            rw [← Array.length_toList, ← Array.foldl_toList, Array.toList_zipIdx, e, putL_len cs ys off (by omega)]
            simp; omega)
          (by
            rw [← Array.foldl_toList, Array.toList_zipIdx, e]
            exact putL_rep (by simpa using hl) (by simpa using h1) (by omega) hr h2)
          (by
            intro m hm
            rcases putL_names cs ys off m hm with hm | hm
            · exact hn m hm
            · exact val_names h x m (h3 m hm)) h hg hf
        obtain ⟨cells', hf', hrest⟩ := ih
        refine ⟨cells', ?_, hrest⟩
        have hcond : ¬ ((a.eval x).cells.size ≠ size ∨ off + (a.eval x).cells.size > cells.size) := by rw [h1]; omega
        simp only [List.map_cons, Instr.fill, hp i _ e1]
        rw [if_neg (by simpa using hcond)]
        exact hf'
      · cases hf
    · cases hf

theorem places_of {P : Program} : ∀ {ff : List Field} {fs : List (Nat × Nat)}, ff.map (fun x => (x.offset, (P.info? x.type).map (·.size))) = fs.map (fun p => (p.1, some p.2)) →
    ff.mapM (fun f => (P.info? f.type).map fun i => (f.offset, i.size)) = some fs
  | [], fs, h => by
    cases fs with
    | nil => rfl
    | cons p fs => simp at h
  | f :: ff, fs, h => by
    cases fs with
    | nil => simp at h
    | cons p fs =>
      simp only [List.map_cons, List.cons.injEq, Prod.mk.injEq] at h
      obtain ⟨⟨h1, h2⟩, h3⟩ := h
      have ih := places_of (P := P) h3
      cases hi : P.info? f.type with
      | none => rw [hi] at h2; cases h2
      | some i =>
        rw [hi] at h2
        simp only [Option.map_some, Option.some.injEq] at h2
        simp only [List.mapM_cons, hi, Option.map_some, ih]
        obtain ⟨p1, p2⟩ := p
        simp only at h1 h2
        subst h1 h2
        rfl

theorem sound_build (h : Ga C E σ a w) (hg : GOK gl C.E0.H) (hd : ∀ d, o.dst = some d → d < C.nt) (hT : TOK P T) {t : Nat} {parts : Array (Nat × Operand)} (ho : o.op = .build t parts) {r : R} {ob : Nat → Option Ob}
    (hs : stepOp T note (σ.val gl) ob o.dst (.build t parts) = some r) : Sound P C E σ a w o r := by
  simp only [stepOp] at hs
  split at hs
  · rename_i fs s1 s2 s3 zc et
    have hti := hT t _ et
    obtain ⟨d, hde, hk⟩ := hti.desc
    simp only [TKOK] at hk
    obtain ⟨ff, rfl, hmap⟩ := hk
    cases hf : fillV fs (pvL zc) (parts.toList.map fun p => (p.1, σ.val gl p.2)) with
    | none => rw [hf] at hs; cases hs
    | some cs =>
      rw [hf] at hs
      simp only [Option.map_some, Option.some.injEq] at hs
      subst hs
      obtain ⟨cells', hfill, hl, hr, hn⟩ := fill_rep (gl := gl) (fs := fs) (place := fun i => fs.toArray[i]?) (by intro i p hp; simpa using hp) parts.toList (pvL zc) cs s3.cells
        (by rw [hti.zlen]; simp [pvL]; exact hti.zc.symm) (RepVL.ofPv (RepL.mono (Hle.zero _) _ _ _ List.prefix_rfl hti.zcells)) (by simp [namesL_pvL]) h hg hf
      refine Sound.pure h (v := .agg cells') (.inl ?_) ?_ (fun m hm => hn m (mkAgg_names _ m hm)) hd trivial
      · obtain ⟨it, hit, _, _, hz⟩ := hti.info
        have hb : P.built t (parts.toList.map fun p => (p.1, a.eval p.2)) = some cells' := by
          simp only [Program.built, hit, hde, hz, places_of hmap]
          exact hfill
        have hr := run_build (P := P) w t (parts.map fun p => (p.1, a.eval p.2)) cells' (by simpa using hb)
        simp only [execOp, ho, Sem.run_bind]
        rw [hr]
        rfl
      · have := mkAgg_rep (vs := cells'.toList) (by simpa using hl) hr
        simpa using this
  · rename_i m e s1 s2 s3 zc et
    have hti := hT t _ et
    obtain ⟨d, hde, hk⟩ := hti.desc
    simp only [TKOK] at hk
    subst hk
    split at hs
    · rename_i te ee
      have hte := hT e te ee
      cases hf : fillV (placesA te.size m 0) (pvL zc) (parts.toList.map fun p => (p.1, σ.val gl p.2)) with
      | none => rw [hf] at hs; cases hs
      | some cs =>
        rw [hf] at hs
        simp only [Option.map_some, Option.some.injEq] at hs
        subst hs
        obtain ⟨cells', hfill, hl, hr, hn⟩ := fill_rep (gl := gl) (fs := placesA te.size m 0) (place := fun i => some (i * te.size, te.size)) (by
            intro i p hp
            have := placesA_get te.size m 0 i p hp
            rw [this]
            simp) parts.toList (pvL zc) cs s3.cells
          (by rw [hti.zlen]; simp [pvL]; exact hti.zc.symm) (RepVL.ofPv (RepL.mono (Hle.zero _) _ _ _ List.prefix_rfl hti.zcells)) (by simp [namesL_pvL]) h hg hf
        refine Sound.pure h (v := .agg cells') (.inl ?_) ?_ (fun m hm => hn m (mkAgg_names _ m hm)) hd trivial
        · obtain ⟨it, hit, _, _, hz⟩ := hti.info
          obtain ⟨ie, hie, hsz, _⟩ := hte.info
          have hb : P.built t (parts.toList.map fun p => (p.1, a.eval p.2)) = some cells' := by
            simp only [Program.built, hit, hde, hz, hie, hsz]
            exact hfill
          have hr := run_build (P := P) w t (parts.map fun p => (p.1, a.eval p.2)) cells' (by simpa using hb)
          simp only [execOp, ho, Sem.run_bind]
          rw [hr]
          rfl
        · have := mkAgg_rep (vs := cells'.toList) (by simpa using hl) hr
          simpa using this
    · cases hs
  · cases hs
end
end Go.Lg
/- Slices that are made, stores, and appends. -/
namespace Go.Lg
theorem one_rep {E : Env} {x : V} {v : Value} (h : x.one = true) (hx : RepV E x v) : v.oneCell' = true := by
  cases x with
  | undef => simp [V.one] at h
  | pv p =>
    cases p with
    | agg cs => simp [V.one] at h
    | tuple cs => simp [V.one] at h
    | slice es => simp only [RepV, RepP] at hx; obtain ⟨_, _, rfl, _⟩ := hx; rfl
    | ptr es => simp only [RepV, RepP] at hx; obtain ⟨_, _, rfl, _⟩ := hx; rfl
    | iface t p => simp only [RepV, RepP] at hx; obtain ⟨_, rfl, _⟩ := hx; rfl
    | _ => simp only [RepV, RepP] at hx; subst hx; rfl
  | agg cs => simp [V.one] at h
  | tuple cs => simp [V.one] at h
  | fn f cs => simp only [RepV] at hx; obtain ⟨_, rfl, _⟩ := hx; rfl
  | loc n off => simp only [RepV] at hx; obtain ⟨_, _, rfl⟩ := hx; rfl
  | eloc n ver i off => simp only [RepV] at hx; obtain ⟨_, ⟨_, rfl⟩, _⟩ := hx; rfl
  | arr n ver len => simp only [RepV] at hx; obtain ⟨_, ⟨_, _, _, rfl⟩, _⟩ := hx; rfl
  | vsl es => simp only [RepV] at hx; obtain ⟨_, _, rfl, _⟩ := hx; rfl
  | fsl es => simp only [RepV] at hx; obtain ⟨_, rfl, _⟩ := hx; rfl
  | map n => simp only [RepV] at hx; obtain ⟨_, _, rfl⟩ := hx; rfl
theorem one_all {E : Env} : ∀ {cs : List V} {vs : List Value}, cs.all V.one = true → vs.length = cs.length → RepVL E cs vs → ∀ v ∈ vs, v.oneCell' = true
  | [], [], _, _, _, v, hv => by simp at hv
  | [], _ :: _, _, hl, _, _, _ => by simp at hl
  | c :: cs, [], _, _, _, v, hv => by simp at hv
  | c :: cs, u :: vs, h, hl, r, v, hv => by
    simp only [List.all_cons, Bool.and_eq_true] at h
    simp only [RepVL] at r
    rcases List.mem_cons.1 hv with rfl | hv
    · exact one_rep h.1 r.1
    · exact one_all h.2 (by simpa using hl) r.2 v hv

section
variable {P : Program} {C : Ctx} {E : Env} {σ : St} {a : Act} {w : World} {gl : Nat → Option (List PV)} {o : Oper} {T : Nat → Option TI} {note : Note}

theorem heapOK_setRow (hh : HeapOK E w) {g : Nat} (hg : E.H g = []) (c : Array Value) : HeapOK E (w.setRow g c) := by
  intro b hb
  have : b ≠ g := fun e => hb (e ▸ hg)
  obtain ⟨c', T, fr, hc, hp⟩ := hh b hb
  exact ⟨c', T, fr, by rw [setRow_other w g b c this]; exact hc, hp⟩

/-- an object's block is written -/
theorem Ga.setRow (h : Ga C E σ a w) {n g ty : Nat} {ob ob' : Ob} {cur c : Array Value} (ho : getO σ.objs n = some ob) (hb : blk (E.g n) = some g) (hcur : w.heap[g]? = some (.cells cur ty (0, 0)))
    (hok : ObOK E (w.setRow g c) n ob') (hnm : ∀ m ∈ ob'.names, m ∈ σ.used) {dst : Option Nat} {x : V} {v : Value} (hx : RepV E x v) (hxn : ∀ m ∈ x.names, m ∈ σ.used) (hd : ∀ d, dst = some d → d < C.nt) :
    Ga C E ⟨putS dst x σ.slots, setO σ.objs n ob', σ.used⟩ (a.put dst v) (w.setRow g c) := by
  have hfree := (h.objs n ob ho).free hb
  refine h.change (E' := E) n (some ob') (setO σ.objs n ob') σ.used dst x v (fun m => getO_setO _ _ _ _) (Hle.refl _) (fun _ _ => ⟨rfl, rfl, rfl⟩) (fun _ => EExt.refl _ _) (fun _ => ⟨ob, ho⟩) (by simp) ⟨rfl, rfl, rfl⟩
    (fun b hlt hne => ⟨setRow_other w g b c (fun e => hne ob ho (e ▸ hb)), rfl⟩) (heapOK_setRow h.heap hfree c) ?_ ?_ (fun _ h => h) hx hxn hd
  · intro o' e
    cases e
    exact ⟨hok, (h.usedO n ob ho).1, hnm⟩
  · intro o' b e hb'
    exact .inr ⟨hb', ob, ho⟩

theorem seg_get {α : Type} (l ys : List α) (off j : Nat) (h : off + ys.length ≤ l.length) :
    (l.take off ++ ys ++ l.drop (off + ys.length))[j]? = if j < off then l[j]? else if j < off + ys.length then ys[j - off]? else l[j]? := by
  by_cases h1 : j < off
  · rw [if_pos h1, List.append_assoc, List.getElem?_append_left (by simp; omega), List.getElem?_take, if_pos h1]
  · rw [if_neg h1, List.append_assoc, List.getElem?_append_right (by simp; omega)]
    have hl : (l.take off).length = off := by simp; omega
    rw [hl]
    by_cases h2 : j < off + ys.length
    · rw [if_pos h2, List.getElem?_append_left (by omega)]
    · rw [if_neg h2, List.getElem?_append_right (by omega), List.getElem?_drop]
      congr 1
      omega

theorem RepVL.iff : ∀ {cs : List V} {vs : List Value}, RepVL E cs vs ↔ ∀ (j : Nat) (c : V), cs[j]? = some c → ∃ v, vs[j]? = some v ∧ RepV E c v
  | [], vs => by simp [RepVL]
  | c :: cs, [] => by
    simp only [RepVL, false_iff]
    intro h
    obtain ⟨v, hv, _⟩ := h 0 c rfl
    simp at hv
  | c :: cs, v :: vs => by
    simp only [RepVL, RepVL.iff (cs := cs) (vs := vs)]
    constructor
    · rintro ⟨h1, h2⟩ j c' hj
      cases j with
      | zero => simp at hj; subst hj; exact ⟨v, rfl, h1⟩
      | succ j => simpa using h2 j c' (by simpa using hj)
    · intro h
      refine ⟨?_, fun j c' hj => by simpa using h (j + 1) c' (by simpa using hj)⟩
      obtain ⟨v', hv', hr⟩ := h 0 c rfl
      simp at hv'
      subst hv'
      exact hr

theorem RepVE.iff {s : Nat} : ∀ {es : List (List V)} {vs : List Value}, (∀ e ∈ es, e.length = s) → (RepVE E es vs ↔ ∀ (i : Nat) (e : List V), es[i]? = some e → RepVL E e (vs.drop (i * s)))
  | [], vs, _ => by simp [RepVE]
  | e :: es, vs, hs => by
    have he : e.length = s := hs e (by simp)
    simp only [RepVE, he, RepVE.iff (es := es) (vs := vs.drop s) (fun x hx => hs x (by simp [hx])), List.drop_drop]
    constructor
    · rintro ⟨h1, h2⟩ i e' hi
      cases i with
      | zero => simp at hi; subst hi; simpa using h1
      | succ i => simpa [Nat.succ_mul, Nat.add_comm] using h2 i e' (by simpa using hi)
    · intro h
      refine ⟨by simpa using h 0 e rfl, fun i e' hi => by simpa [Nat.succ_mul, Nat.add_comm] using h (i + 1) e' (by simpa using hi)⟩

/-- one element of a row of elements is written in part -/
theorem RepVE.put {s : Nat} {es : List (List V)} {vs ys' : List Value} {i off : Nat} {ys : List V} (hr : RepVE E es vs) (hs : ∀ e ∈ es, e.length = s) (hi : i < es.length) (ho : off + ys.length ≤ s) (hl : ys'.length = ys.length)
    (hy : RepVL E ys ys') (hle : (i + 1) * s ≤ vs.length) : RepVE E (es.set i (putL (es.getD i []) off ys)) (vs.take (i * s + off) ++ ys' ++ vs.drop (i * s + off + ys'.length)) := by
  have hge : es[i]? = some (es.getD i []) := by rw [List.getD_eq_getElem?_getD, List.getElem?_eq_getElem hi]; simp
  have hel : (es.getD i []).length = s := hs _ (List.mem_of_getElem? hge)
  have hpl : (putL (es.getD i []) off ys).length = s := by rw [putL_len _ _ _ (by omega), hel]
  have hsucc : (i + 1) * s = i * s + s := Nat.succ_mul i s
  rw [RepVE.iff hs] at hr
  rw [RepVE.iff (s := s)]
  · intro k e hk
    rw [RepVL.iff]
    intro j c hj
    rw [List.getElem?_drop, seg_get vs ys' (i * s + off) _ (by omega)]
    rw [List.getElem?_set] at hk
    by_cases hik : i = k
    · subst hik
      simp only [if_true, hi] at hk
      cases hk
      have hjs : j < s := by rw [← hpl]; exact (List.getElem?_eq_some_iff.1 hj).1
      unfold putL at hj
      rw [seg_get _ _ _ _ (by omega)] at hj
      have hold : ∀ c, (es.getD i [])[j]? = some c → ∃ v, vs[i * s + j]? = some v ∧ RepV E c v := by
        intro c hc
        have := RepVL.iff.1 (hr i _ hge) j c hc
        simpa using this
      by_cases h1 : j < off
      · rw [if_pos h1] at hj
        rw [if_pos (by omega)]
        exact hold c hj
      · rw [if_neg h1] at hj
        rw [if_neg (by omega)]
        by_cases h2 : j < off + ys.length
        · rw [if_pos h2] at hj
          rw [if_pos (by omega)]
          have := RepVL.iff.1 hy (j - off) c hj
          rwa [show i * s + j - (i * s + off) = j - off by omega]
        · rw [if_neg h2] at hj
          rw [if_neg (by omega)]
          exact hold c hj
    · simp only [hik, if_false] at hk
      have hjs : j < s := by rw [← hs e (List.mem_of_getElem? hk)]; exact (List.getElem?_eq_some_iff.1 hj).1
      have hold := RepVL.iff.1 (hr k e hk) j c hj
      rw [List.getElem?_drop] at hold
      rcases Nat.lt_or_gt_of_ne hik with hlt | hgt
      · have hm : (i + 1) * s ≤ k * s := Nat.mul_le_mul_right _ hlt
        rw [if_neg (by omega), if_neg (by omega)]
        exact hold
      · have hm : (k + 1) * s ≤ i * s := Nat.mul_le_mul_right _ hgt
        have hk1 : (k + 1) * s = k * s + s := Nat.succ_mul k s
        rw [if_pos (by omega)]
        exact hold
  · intro e he
    rcases List.mem_or_eq_of_mem_set he with he | he
    · exact hs e he
    · rw [he]; exact hpl

theorem sound_store (h : Ga C E σ a w) (hg : GOK gl C.E0.H) (hT : TOK P T) {t : Nat} {x y : Operand} (ho : o.op = .store t x y) {r : R} (hc : r.cond)
    (hs : stepOp T note (σ.val gl) (getO σ.objs) o.dst (.store t x y) = some r) : Sound P C E σ a w o r := by
  have hx := val_rep h hg x
  have hy := val_rep h hg y
  have ny := val_names (gl := gl) h y
  simp only [stepOp] at hs
  split at hs
  · rename_i ti hdn et
    have hd : ∀ d, o.dst = some d → d < C.nt := by intro d e; rw [hdn] at e; cases e
    have hti := hT t ti et
    unfold stepStore at hs
    split at hs
    · cases hs
    · rename_i ys ey
      obtain ⟨hy1, hy2, hy3⟩ := vcells_rep ey hy
      have hrun : ∀ (g off ty : Nat) (cur : Array Value), a.eval x = .pointer (some ⟨g, off, none⟩) → w.heap[g]? = some (.cells cur ty (0, 0)) → off + ys.length ≤ cur.size → ys.length = ti.size → ys.all V.one = true →
          OpRes P o a w undef (w.setRow g (cur.toList.take off ++ (a.eval y).cells.toList ++ cur.toList.drop (off + ys.length)).toArray) := by
        intro g off ty cur hv hcur hle hsz hone
        refine .inr ⟨?_, rfl⟩
        have hst := run_storeCells_at P g off ty (a.eval y).cells.toList 0 cur w hcur (by simp [hy1]; omega) (one_all hone (by simpa using hy1) hy2)
        simp only [Nat.add_zero, Array.length_toList, hy1] at hst
        simp [execOp, ho, Instr.storeAt, Instr.sureAddr, hv, storeVar, hti.run_size, hy1, hsz, hst]
      split at hs
      · rename_i n off ex
        rw [ex] at hx
        split at hs
        · rename_i cs eo
          cases hs
          obtain ⟨hc1, hc2, hc3⟩ := hc
          obtain ⟨b, c, T', hgn, hcell, hsz, hr, hfree⟩ := id (h.objs n _ eo)
          simp only [RepV] at hx
          obtain ⟨b', hgn', hv⟩ := hx
          rw [hgn] at hgn'
          cases hgn'
          refine ⟨undef, _, E, hrun b off T' c hv hcell (by omega) hc1 hc3, ?_, trivial⟩
          refine h.setRow (ob' := .box (putL cs off ys)) eo (by rw [hgn]; rfl) hcell ⟨b, _, T', hgn, setRow_heap w b c _ T' _ hcell, ?_, ?_, hfree⟩ ?_ (by simp [RepV]) (by simp [V.names]) hd
          · rw [putL_len cs ys off hc2]
            simp [hy1]; omega
          · have := putL_rep (E := E) (vs := c.toList) (us := (a.eval y).cells.toList) (by simpa using hsz) (by simpa using hy1) hc2 hr hy2
            simpa [hy1] using this
          · intro m hm
            rcases putL_names cs ys off m hm with hm | hm
            · exact (h.usedO n _ eo).2 m hm
            · exact ny m (hy3 m hm)
        · cases hs
      · rename_i n ver i off ex
        rw [ex] at hx
        split at hs
        · rename_i ver' sz ty es eo
          cases hs
          obtain ⟨rfl, hi, hc1, hc2, hc3⟩ := hc
          have hob := h.objs n _ eo
          obtain ⟨hver, hsz, hlen, xs, hown, hrx, hfree⟩ := id hob
          simp only [RepV] at hx
          obtain ⟨_, _, hx⟩ := hx
          obtain ⟨b, L, cap, hgn, hv, hlt⟩ := hx hver.symm
          rcases hown.2 with ⟨e0, _⟩ | ⟨g, cap', cur, hgn', hb0, hcell, hle, hm, hcs, htake⟩
          · rw [hgn] at e0; cases e0
          rw [hgn] at hgn'
          cases hgn'
          rw [hsz] at hv
          have hxl : xs.length = es.length * sz := hown.1
          have hmul : (i + 1) * sz ≤ es.length * sz := Nat.mul_le_mul_right _ hi
          have hmul2 : es.length * sz ≤ cap * sz := Nat.mul_le_mul_right _ hle
          have hsucc : (i + 1) * sz = i * sz + sz := Nat.succ_mul i sz
          have hfit : i * sz + off + ys.length ≤ cur.size := by rw [hcs]; omega
          refine ⟨undef, _, E, hrun b (i * sz + off) ty cur hv hcell hfit hc1 hc3, ?_, trivial⟩
          have hput := RepVE.put (ys := ys) (ys' := (a.eval y).cells.toList) hrx hlen hi hc2 (by simpa using hy1) hy2 (by rw [hxl]; exact hmul)
          have hge : es[i]? = some (es.getD i []) := by rw [List.getD_eq_getElem?_getD, List.getElem?_eq_getElem hi]; simp
          have hel : (es.getD i []).length = sz := hlen _ (List.mem_of_getElem? hge)
          have hpl : (putL (es.getD i []) off ys).length = sz := by rw [putL_len _ _ _ (by omega), hel]
          refine h.setRow (ob' := .arr ver sz ty (es.set i (putL (es.getD i []) off ys))) eo (by rw [hgn]; rfl) hcell ⟨hver, hsz, ?_, _, ⟨?_, .inr ⟨b, cap, _, ?_, hb0, setRow_heap w b cur _ ty _ hcell, ?_, hm, ?_, rfl⟩⟩, ?_, hfree⟩ ?_ (by simp [RepV]) (by simp [V.names]) hd
          · intro e he
            rcases List.mem_or_eq_of_mem_set he with he | he
            · exact hlen e he
            · rw [he]; exact hpl
          · simp only [List.length_set, List.length_take, List.length_append, List.length_drop, Array.length_toList, hy1]
            omega
          · simp [hgn]
          · simpa using hle
          · simp [hy1]; omega
          · have hcx : cur.toList.take (es.length * sz) = xs := htake
            simp only [List.length_set]
            have : (cur.toList.take (i * sz + off) ++ (a.eval y).cells.toList ++ cur.toList.drop (i * sz + off + ys.length)).take (es.length * sz) =
                xs.take (i * sz + off) ++ (a.eval y).cells.toList ++ xs.drop (i * sz + off + (a.eval y).cells.toList.length) := by
              have hyl : (a.eval y).cells.toList.length = ys.length := by simpa using hy1
              apply List.ext_getElem?
              intro j
              rw [List.getElem?_take, ← hyl, seg_get _ _ _ _ (by simp; omega), seg_get _ _ _ _ (by omega)]
              rw [← hcx]
              simp only [List.getElem?_take]
              by_cases hj : j < es.length * sz
              · simp [hj]
              · rw [if_neg hj, if_neg (by omega), if_neg (by omega), if_neg hj]
            rw [this]
            exact hput
          · intro m hm
            obtain ⟨e, he, hm⟩ := mem_namesE.1 hm
            rcases List.mem_or_eq_of_mem_set he with he | he
            · exact (h.usedO n _ eo).2 m (mem_namesE.2 ⟨e, he, hm⟩)
            · subst he
              rcases putL_names _ _ _ m hm with hm | hm
              · exact (h.usedO n _ eo).2 m (mem_namesE.2 ⟨_, List.mem_of_getElem? hge, hm⟩)
              · exact ny m (hy3 m hm)
        · cases hs
      · cases hs
  · cases hs
end
end Go.Lg
/- Slices that are made, and appends. -/
namespace Go.Lg
section
variable {P : Program} {C : Ctx} {E : Env} {σ : St} {a : Act} {w : World} {gl : Nat → Option (List PV)} {o : Oper} {T : Nat → Option TI} {note : Note}

theorem RepVE.cons {cs : List V} {es : List (List V)} {vs us : List Value} (hl : vs.length = cs.length) (h1 : RepVL E cs vs) (h2 : RepVE E es us) : RepVE E (cs :: es) (vs ++ us) := by
  simp only [RepVE]
  refine ⟨RepVL.mono (Hle.refl _) cs vs _ (List.prefix_append _ _) (fun n _ => EExt.refl E n) h1, ?_⟩
  rw [← hl, List.drop_left]
  exact h2

theorem parts_fill {size : Nat} (h : Ga C E σ a w) (hg : GOK gl C.E0.H) : ∀ (parts : List (Nat × Operand)) (k : Nat) (es : List (List V)) (cells : Array Value),
    sliceParts k (parts.map fun p => (p.1, σ.val gl p.2)) = some es → (∀ e ∈ es, e.length = size) → (k + es.length) * size ≤ cells.size →
    ∃ cells' us, Instr.fill (fun i => some (i * size, size)) cells (parts.map fun p => (p.1, a.eval p.2)) = some cells' ∧ us.length = es.length * size ∧ RepVE E es us ∧
      cells'.toList = cells.toList.take (k * size) ++ us ++ cells.toList.drop ((k + es.length) * size) ∧ ∀ n ∈ namesE es, n ∈ σ.used
  | [], k, es, cells, hs, _, hle => by
    simp only [List.map_nil, sliceParts, Option.some.injEq] at hs
    subst hs
    exact ⟨cells, [], rfl, by simp, by simp [RepVE], by simp, by simp [namesE]⟩
  | (i, x) :: parts, k, es, cells, hs, hlen, hle => by
    simp only [List.map_cons, sliceParts] at hs
    split at hs
    · rename_i hik
      subst hik
      split at hs
      · rename_i cs es' e1 e2
        cases hs
        have hx := val_rep h hg x
        obtain ⟨h1, h2, h3⟩ := vcells_rep e1 hx
        have hcs : cs.length = size := hlen cs (by simp)
        have hexp : (i + (cs :: es').length) * size = i * size + size + es'.length * size := by
          simp only [List.length_cons, Nat.add_mul, Nat.one_mul]; omega
        have hexp2 : (i + 1 + es'.length) * size = i * size + size + es'.length * size := by
          simp only [Nat.add_mul, Nat.one_mul]
        have hexp3 : (i + 1) * size = i * size + size := Nat.succ_mul i size
        rw [hexp] at hle
        have hsz : i * size + (a.eval x).cells.size ≤ cells.size := by rw [h1, hcs]; omega
        have e := fold_set (i * size) (a.eval x).cells.toList 0 cells (by simpa using hsz)
        simp only [Nat.add_zero] at e
        have hfl : ((a.eval x).cells.zipIdx.foldl (fun cs (p : Value × Nat) => cs.setIfInBounds (i * size + p.2) p.1) cells).toList =
            cells.toList.take (i * size) ++ (a.eval x).cells.toList ++ cells.toList.drop (i * size + (a.eval x).cells.toList.length) := by
          rw [← Array.foldl_toList, Array.toList_zipIdx, e]
        have hsize : ((a.eval x).cells.zipIdx.foldl (fun cs (p : Value × Nat) => cs.setIfInBounds (i * size + p.2) p.1) cells).size = cells.size := by
          rw [← Array.length_toList, hfl]
          simp; omega
        obtain ⟨cells', us, hf, hu, hr, hc, hnm⟩ := parts_fill (size := size) h hg parts (i + 1) es' _ e2 (fun e he => hlen e (by simp [he])) (by rw [hsize, hexp2]; exact hle)
        refine ⟨cells', (a.eval x).cells.toList ++ us, ?_, ?_, RepVE.cons (by simpa using h1) h2 hr, ?_, ?_⟩
        · have hcond : ¬ ((a.eval x).cells.size ≠ size ∨ i * size + (a.eval x).cells.size > cells.size) := by rw [h1, hcs]; omega
          simp only [List.map_cons, Instr.fill]
          rw [if_neg (by simpa using hcond)]
          exact hf
        · simp only [List.length_append, Array.length_toList, h1, hcs, hu, List.length_cons, Nat.add_mul, Nat.one_mul]; omega
        · rw [hc, hfl]
          have hl1 : (cells.toList.take (i * size) ++ (a.eval x).cells.toList).length = (i + 1) * size := by simp [h1, hcs]; omega
          have ht : (cells.toList.take (i * size) ++ (a.eval x).cells.toList ++ cells.toList.drop (i * size + (a.eval x).cells.toList.length)).take ((i + 1) * size) = cells.toList.take (i * size) ++ (a.eval x).cells.toList := by
            rw [← hl1]; exact List.take_left
          have hd : (cells.toList.take (i * size) ++ (a.eval x).cells.toList ++ cells.toList.drop (i * size + (a.eval x).cells.toList.length)).drop ((i + 1 + es'.length) * size) = cells.toList.drop ((i + (cs :: es').length) * size) := by
            rw [hexp, hexp2, ← hexp3, ← hl1, List.drop_append, List.drop_of_length_le (by omega), List.nil_append, List.drop_drop]
            congr 1
            simp only [Array.length_toList, h1, hcs]
            omega
          rw [ht, hd]
          simp
        · intro n hn
          simp only [namesE, List.mem_append] at hn
          rcases hn with hn | hn
          · exact val_names h x n (h3 n hn)
          · exact hnm n hn
      · cases hs
    · cases hs

theorem run_buildSlice {t e len : Nat} {te : TI} (hte : TIOK P e te) (hde : P.underlying t = some (.slice e)) {parts : Array (Nat × Value)} {cells : Array Value} (hsz : len * te.size ≤ 16777216)
    (hf : Instr.fill (fun i => some (i * te.size, te.size)) ((Array.range (len * te.size)).map (fun j => (if len * te.size = 0 then #[] else te.zero.cells)[j % (if len * te.size = 0 then #[] else te.zero.cells).size]!)) parts.toList = some cells) :
    (Instr.buildSlice t len parts).run P w = .ok (.slice (some ⟨w.heap.size, 0, none⟩) len len) (w.alloc (.cells cells e)) := by
  have hn : ¬ (len * te.size > 2 ^ 24) := by omega
  unfold Instr.buildSlice
  simp only [Sem.run_bind, run_underlying hde, Result.andThen_ok, hte.run_size, if_neg hn, Sem.run_pure]
  by_cases h0 : len * te.size = 0
  · simp only [h0, if_true] at hf ⊢
    simp only [Sem.run_bind, Sem.run_pure, Result.andThen_ok, hf]
    simp [newRow]
  · simp only [h0, if_false] at hf ⊢
    simp only [Sem.run_bind, Sem.run_pure, Result.andThen_ok, hte.run_zero, hf]
    simp [newRow]

theorem sound_buildSlice (h : Ga C E σ a w) (hg : GOK gl C.E0.H) (hd : ∀ d, o.dst = some d → d < C.nt) (hT : TOK P T) {t len : Nat} {parts : Array (Nat × Operand)} (ho : o.op = .buildSlice t len parts) {r : R} (hc : r.cond) {ob : Nat → Option Ob}
    (hs : stepOp T note (σ.val gl) ob o.dst (.buildSlice t len parts) = some r) (hn : ∀ n x, r.wr = some (n, x) → r.new = true → n ∉ σ.used) : Sound P C E σ a w o r := by
  simp only [stepOp] at hs
  split at hs
  · rename_i e s1 s2 s3 s4 et
    obtain ⟨d, hde, hk⟩ := (hT t _ et).desc
    simp only [TKOK] at hk
    subst hk
    split at hs
    · rename_i te ee
      have hte := hT e te ee
      split at hs
      · rename_i es ep
        have key : (es.length = len ∧ len ≤ 16777216 ∧ len * te.size ≤ 16777216 ∧ ∀ e ∈ es, e.length = te.size) → ∃ cells, cells.size = es.length * te.size ∧ RepVE E es cells.toList ∧ (∀ n ∈ namesE es, n ∈ σ.used) ∧ OpRes P o a w (.slice (some ⟨w.heap.size, 0, none⟩) es.length es.length) (w.alloc (.cells cells e)) := by
          rintro ⟨hl, hlb, hsz, hlen⟩
          subst hl
          have hrest : ∀ zero : Array Value, ∃ cells us, Instr.fill (fun i => some (i * te.size, te.size)) ((Array.range (es.length * te.size)).map (fun j => zero[j % zero.size]!)) (parts.toList.map fun p => (p.1, a.eval p.2)) = some cells ∧ us.length = es.length * te.size ∧ RepVE E es us ∧ cells.toList = us ∧ ∀ n ∈ namesE es, n ∈ σ.used := by
            intro zero
            obtain ⟨cells', us, hf, hu, hr, hcl, hnm⟩ := parts_fill (size := te.size) h hg parts.toList 0 es ((Array.range (es.length * te.size)).map (fun j => zero[j % zero.size]!)) ep hlen (by simp)
            refine ⟨cells', us, hf, hu, hr, ?_, hnm⟩
            rw [hcl]
            simp
          obtain ⟨cells, us, hf, hu, hr, hcl, hnm⟩ := hrest (if es.length * te.size = 0 then #[] else te.zero.cells)
          refine ⟨cells, by rw [← Array.length_toList, hcl, hu], by rw [hcl]; exact hr, hnm, .inl ?_⟩
          have hrun := run_buildSlice (P := P) (w := w) hte hde (parts := parts.map fun p => (p.1, a.eval p.2)) hsz (by simpa using hf)
          simp only [execOp, ho, Sem.run_bind]
          rw [hrun]
          rfl
        unfold stepRow at hs
        split at hs
        · rename_i n sz ty
          cases hs
          have hnn := hn n _ rfl rfl
          clear hn
          obtain ⟨hc0, rfl, rfl⟩ := hc
          obtain ⟨cells, hcs, hr, hnm, hrun⟩ := key hc0
          obtain ⟨hl, hlb, hsz, hlen⟩ := hc0
          subst hl
          have hlm : es.length ≤ maxLen := Nat.le_trans hlb (by simp [maxLen])
          let E' : Env := { H := E.H, g := fun m => if m = n then .slice (some ⟨w.heap.size, 0, none⟩) es.length es.length else E.g m, ver := fun m => if m = n then 0 else E.ver m, sz := fun m => if m = n then te.size else E.sz m }
          have hg' : E'.g n = .slice (some ⟨w.heap.size, 0, none⟩) es.length es.length := by simp [E']
          have hv' : E'.ver n = 0 := by simp [E']
          have hs' : E'.sz n = te.size := by simp [E']
          have hE : ∀ m, m ≠ n → E'.g m = E.g m ∧ E'.ver m = E.ver m ∧ E'.sz m = E.sz m := fun m hm => ⟨by simp [E', hm], by simp [E', hm], by simp [E', hm]⟩
          refine ⟨_, _, E', hrun, ?_, trivial⟩
          refine h.change (E' := E') n (some (.arr 0 te.size ty es)) (setO σ.objs n (.arr 0 te.size ty es)) (n :: σ.used) o.dst (.arr n 0 es.length) _ (fun m => getO_setO _ _ _ _) (Hle.refl _) hE (fun hk => absurd hk hnn) (fun hk => absurd hk hnn)
            (by simp) ⟨rfl, rfl, rfl⟩ (fun b hb _ => ⟨heap_alloc_old w _ b hb, rfl⟩) (heapOK_alloc h.heap _ E' rfl) ?_ ?_ (fun m hm => by simp [hm]) ?_ ?_ hd
          · intro o' e
            cases e
            refine ⟨⟨hv', hs', hlen, cells.toList, ?_, ?_, ?_⟩, by simp, fun m hm => by simp [hnm m (by simpa [Ob.names] using hm)]⟩
            · rw [hg']
              refine ⟨by simpa using hcs, .inr ⟨w.heap.size, es.length, cells, rfl, Nat.zero_le _, heap_alloc_new w _, Nat.le_refl _, hlm, hcs, ?_⟩⟩
              rw [← hcs, ← Array.length_toList, List.take_length]
            · refine RepVE.mono (E := E) (E' := E') (Hle.refl E.H) es _ _ List.prefix_rfl (fun m hm => ?_) hr
              have : m ≠ n := fun e => hnn (e ▸ hnm m hm)
              exact EExt.of_eq (hE m this).1 (hE m this).2.1 (hE m this).2.2
            · rw [hg']
              intro b hb
              simp [Value.ownBlock] at hb
              subst hb
              exact h.heap.lt (Nat.le_refl _)
          · intro o' b e hb
            rw [hg'] at hb
            simp [blk] at hb
            omega
          · simp only [RepV, hv', hg']
            exact ⟨Nat.le_refl _, ⟨_, _, _, rfl⟩, fun _ => ⟨_, _, _, rfl, rfl, Nat.le_refl _⟩⟩
          · simp [V.names]
        · cases hs
          obtain ⟨cells, hcs, hr, hnm, hrun⟩ := key hc
          obtain ⟨hl, hlb, hsz, hlen⟩ := hc
          subst hl
          have hlm : es.length ≤ maxLen := Nat.le_trans hlb (by simp [maxLen])
          refine Sound.newRow h hd (fun H' hH hnew => ?_) (fun n hn => hnm n (mkSlice_names es n hn)) hrun
          refine mkSlice_rep (E := { E with H := H' }) (Nat.le_refl _) hlm ?_
          show RepVE _ es (H' w.heap.size)
          rw [hnew]
          exact RepVE.mono (E := E) (E' := { E with H := H' }) hH es _ _ List.prefix_rfl (fun n _ => EExt.of_eq rfl rfl rfl) hr
      · cases hs
    · cases hs
  · cases hs
end
end Go.Lg
/- Arrays that grow. -/
namespace Go.Lg
section
variable {P : Program} {C : Ctx} {E : Env} {σ : St} {a : Act} {w : World} {gl : Nat → Option (List PV)} {o : Oper} {T : Nat → Option TI} {note : Note}

theorem sound_newArr (h : Ga C E σ a w) (hd : ∀ d, o.dst = some d → d < C.nt) {n sz ty : Nat} {cd : Prop} (hn : n ∉ σ.used) (ho : o.op = .move (.const (.slice none 0 0)) ∨ o.op = .assign (.const (.slice none 0 0))) :
    Sound P C E σ a w o ⟨cd, True, .arr n 0 0, some (n, .arr 0 sz ty []), true⟩ := by
  let E' : Env := { H := E.H, g := fun m => if m = n then .slice none 0 0 else E.g m, ver := fun m => if m = n then 0 else E.ver m, sz := fun m => if m = n then sz else E.sz m }
  have hg' : E'.g n = .slice none 0 0 := by simp [E']
  have hv' : E'.ver n = 0 := by simp [E']
  have hs' : E'.sz n = sz := by simp [E']
  have hE : ∀ m, m ≠ n → E'.g m = E.g m ∧ E'.ver m = E.ver m ∧ E'.sz m = E.sz m := fun m hm => ⟨by simp [E', hm], by simp [E', hm], by simp [E', hm]⟩
  refine ⟨.slice none 0 0, w, E', .inl ?_, ?_, trivial⟩
  · rcases ho with ho | ho <;> simp [execOp, ho, Act.eval]
  refine h.change (E' := E') n (some (.arr 0 sz ty [])) (setO σ.objs n (.arr 0 sz ty [])) (n :: σ.used) o.dst (.arr n 0 0) _ (fun m => getO_setO _ _ _ _) (Hle.refl _) hE (fun hk => absurd hk hn) (fun hk => absurd hk hn)
    (Nat.le_refl _) ⟨rfl, rfl, rfl⟩ (fun b hb _ => ⟨rfl, rfl⟩) h.heap ?_ ?_ (fun m hm => by simp [hm]) ?_ ?_ hd
  · intro o' e
    cases e
    refine ⟨⟨hv', hs', by simp, [], ?_, by simp [RepVE], ?_⟩, by simp, fun m hm => by simp [Ob.names, namesE] at hm⟩
    · rw [hg']; exact World.ownsRow_nil _ _ _ _
    · rw [hg']; intro b hb; simp [Value.ownBlock] at hb
  · intro o' b e hb
    rw [hg'] at hb
    simp [blk] at hb
  · simp only [RepV, hv', hg']
    exact ⟨Nat.le_refl _, ⟨_, _, _, rfl⟩, fun _ => ⟨none, 0, 0, rfl, rfl, Nat.le_refl _⟩⟩
  · simp [V.names]

theorem RepVE.of {E : Env} : ∀ {es : List (List PV)} {vs : List Value}, RepE E.H es vs → RepVE E (pvE es) vs
  | [], _, _ => by simp [pvE, RepVE]
  | e :: es, vs, r => by
    simp only [RepE] at r
    simp only [pvE, List.map_cons, RepVE]
    refine ⟨RepVL.ofPv r.1, ?_⟩
    have := RepVE.of r.2
    simpa [pvE, pvL] using this
theorem RepVE.append {E : Env} {s : Nat} : ∀ {es fs : List (List V)} {vs us : List Value}, (∀ e ∈ es, e.length = s) → vs.length = es.length * s → RepVE E es vs → RepVE E fs us → RepVE E (es ++ fs) (vs ++ us)
  | [], fs, vs, us, _, hl, _, r => by
    have : vs = [] := List.eq_nil_of_length_eq_zero (by simpa using hl)
    subst this
    simpa using r
  | e :: es, fs, vs, us, hs, hl, r, r' => by
    simp only [RepVE] at r
    have he : e.length = s := hs e (by simp)
    have hle : s ≤ vs.length := by rw [hl]; simp only [List.length_cons, Nat.succ_mul]; omega
    simp only [List.cons_append, RepVE]
    refine ⟨RepVL.mono (Hle.refl _) e vs _ (List.prefix_append _ _) (fun n _ => EExt.refl E n) r.1, ?_⟩
    rw [he, List.drop_append_of_le_length hle]
    rw [he] at r
    refine RepVE.append (fun x hx => hs x (by simp [hx])) ?_ r.2 r'
    simp only [List.length_drop, hl, List.length_cons, Nat.succ_mul]; omega
theorem RepVE.takeE {E : Env} {s : Nat} : ∀ {es : List (List V)} {vs : List Value}, (∀ e ∈ es, e.length = s) → RepVE E es vs → ∀ i, RepVE E (es.take i) (vs.take (i * s))
  | es, vs, _, r, 0 => by simp [RepVE]
  | [], vs, _, r, i + 1 => by simp [RepVE]
  | e :: es, vs, hs, r, i + 1 => by
    simp only [RepVE] at r
    have he : e.length = s := hs e (by simp)
    simp only [List.take_succ_cons, RepVE]
    have hm : (i + 1) * s = s + i * s := by rw [Nat.succ_mul, Nat.add_comm]
    refine ⟨?_, ?_⟩
    · have := r.1.take s
      rw [List.take_of_length_le (by omega)] at this
      refine RepVL.mono (Hle.refl _) e _ _ ?_ (fun n _ => EExt.refl E n) this
      rw [hm, List.take_add]
      exact List.prefix_append _ _
    · rw [he] at r ⊢
      have := RepVE.takeE (fun x hx => hs x (by simp [hx])) r.2 i
      rwa [hm, List.drop_take, Nat.add_sub_cancel_left]

/-- the cells of a slice that is read, as they lie -/
theorem slice_cells (h : Ga C E σ a w) {es : List (List V)} {s : Nat} {b off : Nat} (hr : RepVE E es ((E.H b).drop off)) (hs : ∀ e ∈ es, e.length = s) (hne : es ≠ []) (hs0 : 0 < s) :
    ∃ news, news.length = es.length * s ∧ RepVE E es news ∧ ∀ j u, news[j]? = some u → w.cell? ((⟨b, off, none⟩ : Addr).add j) = some u := by
  have hlen : ∀ (es : List (List V)) (vs : List Value), (∀ e ∈ es, e.length = s) → RepVE E es vs → es.length * s ≤ vs.length := by
    intro es
    induction es with
    | nil => intro vs _ _; simp
    | cons e es ih =>
      intro vs hs r
      simp only [RepVE] at r
      have h1 := r.1.len
      have h2 := ih _ (fun x hx => hs x (by simp [hx])) r.2
      have he : e.length = s := hs e (by simp)
      simp only [List.length_drop, he, List.length_cons, Nat.succ_mul] at h1 h2 ⊢
      omega
  have hl := hlen es _ hs hr
  have hpos : 0 < es.length * s := Nat.mul_pos (List.length_pos_iff.2 hne) hs0
  have hne' : E.H b ≠ [] := by
    intro e
    rw [e] at hl
    simp only [List.drop_nil, List.length_nil] at hl
    omega
  obtain ⟨c, T', fr, hcell, hpre, _⟩ := h.heap b hne'
  have hp1 := hpre.1
  refine ⟨(c.toList.drop off).take (es.length * s), by simp at hl hp1 ⊢; omega, ?_, ?_⟩
  · have := RepVE.takeE hs hr es.length
    rw [List.take_length] at this
    exact this.msk ((hpre.drop off).take _)
  · intro j u hj
    rw [List.getElem?_take] at hj
    split at hj
    · rw [cell_at hcell]
      rw [List.getElem?_drop] at hj
      rw [← Array.getElem?_toList]
      exact hj
    · cases hj

/-- what is appended lies somewhere -/
def SrcOK (E : Env) (ys : List (List V)) (v : Value) : Prop :=
  (ys = [] ∧ ∃ ad c, v = .slice ad 0 c) ∨ ∃ b off c, v = .slice (some ⟨b, off, none⟩) ys.length c ∧ RepVE E ys ((E.H b).drop off)
theorem srcOf_ok {y : V} {ys : List (List V)} {v : Value} (h : srcOf y = some ys) (hy : RepV E y v) : SrcOK E ys v := by
  unfold srcOf at h
  split at h
  · rename_i es
    cases h
    simp only [RepV, RepP] at hy
    obtain ⟨ad, c, rfl, _, _, hr⟩ := hy
    rcases hr with rfl | ⟨b, off, rfl, hr⟩
    · exact .inl ⟨rfl, _, _, rfl⟩
    · exact .inr ⟨b, off, c, by simp [pvE], RepVE.of hr⟩
  · cases h
    simp only [RepV, RepP] at hy
    exact .inl ⟨rfl, _, _, hy⟩
  · cases h
    simp only [RepV] at hy
    obtain ⟨ad, c, rfl, _, _, hr⟩ := hy
    rcases hr with rfl | ⟨b, off, rfl, hr⟩
    · exact .inl ⟨rfl, _, _, rfl⟩
    · exact .inr ⟨b, off, c, rfl, hr⟩
  · cases h
theorem srcOf_names {y : V} {ys : List (List V)} (h : srcOf y = some ys) : ∀ n ∈ namesE ys, n ∈ y.names := by
  unfold srcOf at h
  split at h
  · cases h; intro n hn; rw [namesE_pvE] at hn; simp at hn
  · cases h; intro n hn; simp [namesE] at hn
  · cases h; intro n hn; simpa [V.names] using hn
  · cases h

theorem run_append_zero {t e : Nat} {te : TI} (hte : TIOK P e te) (hde : P.underlying t = some (.slice e)) {ad ad' : Option Addr} {len cap c ty : Nat} (hle : len ≤ cap) :
    (Builtin.append_ #[t, t] ty #[.slice ad len cap, .slice ad' 0 c]).run P w = .ok (.slice ad len cap) w := by
  cases ad <;> cases ad' <;> simp [Builtin.append_, run_underlying hde, hte.run_size, Builtin.lenOf, Builtin.firstCells, loadCells, loadCellsFrom, storeCells, hle]

/-- an append to an array: in its place, or in a new one -/
theorem append_run (h : Ga C E σ a w) {t e : Nat} {te : TI} (hte : TIOK P e te) (hde : P.underlying t = some (.slice e)) {n ver len sz ty ty' : Nat} {es : List (List V)} (hob : ObOK E w n (.arr ver sz ty es)) {u v : Value}
    (hu : RepV E (.arr n ver len) u) {ys : List (List V)} (hv : SrcOK E ys v) (hty : ty = e) (hsz : sz = te.size) (hs0 : 0 < sz) (hys : ∀ y ∈ ys, y.length = sz) (hone : ∀ y ∈ ys, y.all V.one = true)
    (hmax : len + ys.length ≤ maxLen) (hby : (len + ys.length) * te.bytes ≤ 140737488355328) :
    ∃ u' w' xs, (Builtin.append_ #[t, t] ty' #[u, v]).run P w = .ok u' w' ∧ w'.ownsRow 0 ty sz u' (len + ys.length) xs ∧ RepVE E (es.take len ++ ys) xs ∧
      w.heap.size ≤ w'.heap.size ∧ (w'.os = w.os ∧ w'.tape = w.tape ∧ w'.output = w.output) ∧ (∀ b, b < w.heap.size → blk u ≠ some b → w'.heap[b]? = w.heap[b]?) ∧ (∀ b, blk u' = some b → w.heap.size ≤ b ∨ blk u = some b) := by
  obtain ⟨hver, hsz', hlen, xs, hown, hrx, hfree⟩ := id hob
  obtain ⟨ad, cap, hgn, hu', hle, hlc, hm⟩ := arr_view hob hu
  subst hu'
  have hlen' : ∀ e ∈ es.take len, e.length = sz := fun e he => hlen e (List.mem_of_mem_take he)
  have hxs : RepVE E (es.take len) (xs.take (len * sz)) := hrx.takeE hlen len
  have hxl : (xs.take (len * sz)).length = len * sz := by
    have := hown.1
    have hm2 : len * sz ≤ es.length * sz := Nat.mul_le_mul_right _ hle
    simp; omega
  have htl : (es.take len).length = len := by simp; omega
  obtain ⟨hii, hinfo, hisz, hiby, hiz⟩ := hte.info
  by_cases hy0 : ys = []
  · subst hy0
    have hvv : ∃ ad' c, v = .slice ad' 0 c := by
      rcases hv with ⟨_, h⟩ | ⟨b, off, c, rfl, _⟩
      · exact h
      · exact ⟨_, c, rfl⟩
    obtain ⟨ad', c, rfl⟩ := hvv
    refine ⟨_, w, xs.take (len * sz), run_append_zero hte hde (by omega), ?_, by simpa using hxs, Nat.le_refl _, ⟨rfl, rfl, rfl⟩, fun _ _ _ => rfl, fun b hb => .inr hb⟩
    simp only [List.length_nil, Nat.add_zero]
    refine ⟨hxl, ?_⟩
    rw [hgn] at hown
    rcases hown.2 with ⟨e0, h0⟩ | ⟨g, cap', cur, e0, hb0, hc, h1, h2, h3, h4⟩
    · simp only [Value.slice.injEq] at e0
      obtain ⟨rfl, e1, rfl⟩ := e0
      left
      have : len = 0 := by omega
      exact ⟨by rw [this], this⟩
    · cases e0
      right
      refine ⟨g, cap, cur, rfl, hb0, hc, by omega, h2, h3, ?_⟩
      rw [← h4, List.take_take, Nat.min_eq_left]
      exact Nat.mul_le_mul_right _ hle
  · have hv : ∃ b off c, v = .slice (some ⟨b, off, none⟩) ys.length c ∧ RepVE E ys ((E.H b).drop off) := by
      rcases hv with ⟨e0, _⟩ | hv
      · exact absurd e0 hy0
      · exact hv
    obtain ⟨b', off', c', rfl, hsrc⟩ := hv
    obtain ⟨news, hnl, hnr, hncell⟩ := slice_cells h hsrc hys hy0 hs0
    have hnone : ∀ u ∈ news, u.oneCell' = true := by
      have key : ∀ (ys : List (List V)) (news : List Value), (∀ y ∈ ys, y.length = sz) → (∀ y ∈ ys, y.all V.one = true) → news.length = ys.length * sz → RepVE E ys news → ∀ u ∈ news, u.oneCell' = true := by
        intro ys
        induction ys with
        | nil =>
          intro news _ _ hl _ u hu
          have : news = [] := List.eq_nil_of_length_eq_zero (by simpa using hl)
          subst this
          simp at hu
        | cons y ys ih =>
          intro news h1 h2 hl r u hu
          simp only [RepVE] at r
          have hy : y.length = sz := h1 y (by simp)
          have hl' : news.length = sz + ys.length * sz := by rw [hl]; simp only [List.length_cons, Nat.succ_mul]; omega
          rw [← List.take_append_drop sz news] at hu
          rcases List.mem_append.1 hu with hu | hu
          · have hr := r.1.take sz
            rw [List.take_of_length_le (by omega)] at hr
            exact one_all (E := E) (h2 y (by simp)) (by simp; omega) hr u hu
          · rw [hy] at r
            exact ih (news.drop sz) (fun x hx => h1 x (by simp [hx])) (fun x hx => h2 x (by simp [hx])) (by simp; omega) r.2 u hu
      exact key ys news hys hone hnl hnr
    have hall : RepVE E (es.take len ++ ys) (xs.take (len * sz) ++ news) := RepVE.append (s := sz) hlen' (by rw [hxl, htl]) hxs hnr
    have hal : (xs.take (len * sz) ++ news).length = (len + ys.length) * sz := by rw [List.length_append, hxl, hnl, Nat.add_mul]
    have hpos : 0 < ys.length := List.length_pos_iff.2 hy0
    have hsmall : len + ys.length ≤ 9223372036854775807 := by simp only [maxLen] at hmax; omega
    have hzc : te.zero.cells.size = sz := by rw [hte.zlen, hsz]
    have hgrown : ∀ old, old < len + ys.length →
        (w.drew.alloc (.cells ((xs.take (len * sz)).toArray ++ news.toArray ++ Builtin.zeroCells te.zero.cells (grownCap w (len + ys.length) old e - (len + ys.length))) e)).ownsRow 0 e sz
          (.slice (some ⟨w.heap.size, 0, none⟩) (len + ys.length) (grownCap w (len + ys.length) old e)) (len + ys.length) (xs.take (len * sz) ++ news) := by
      intro old ho
      have hge := grownCap_ge w (len + ys.length) old e
      have hcm : grownCap w (len + ys.length) old e ≤ maxLen := grownCap_le_maxLen w (len + ys.length) old e hmax
      refine ⟨hal, .inr ⟨w.heap.size, _, _, rfl, Nat.zero_le _, heap_alloc_new w.drew _, hge, hcm, ?_, ?_⟩⟩
      · simp only [Array.size_append, List.size_toArray, size_zeroCells, hzc, hxl, hnl, ← Nat.add_mul]
        congr 1
        omega
      · simp only [Array.toList_append]
        rw [← hal]
        exact List.take_left
    subst hty hsz
    rw [hgn] at hown
    rcases hown.2 with ⟨e0, h0⟩ | ⟨g, cap', cur, e0, hb0, hc, h1, h2, h3, h4⟩
    · simp only [Value.slice.injEq] at e0
      obtain ⟨rfl, e1, rfl⟩ := e0
      have hl0 : len = 0 := by omega
      subst hl0
      have hr := run_append_nil (P := P) w t ty' ty hii te.zero hde hinfo hiz ⟨b', off', none⟩ ys.length c' news (by rw [hisz]; exact hnl) hncell hpos (by omega) (by rw [hiby]; simp at hby; omega)
      have hgr := hgrown 0 (by omega)
      simp only [Nat.zero_add, Nat.zero_mul, List.take_zero, List.nil_append, Array.empty_append] at hgr hall ⊢
      refine ⟨_, _, _, by rw [hr], hgr, hall, by simp, ⟨rfl, rfl, rfl⟩, fun b hb _ => heap_alloc_old w.drew _ b hb, fun b hb => ?_⟩
      simp [blk] at hb
      omega
    · cases e0
      by_cases hroom : len + ys.length ≤ cap
      · have hml : len * te.size ≤ es.length * te.size := Nat.mul_le_mul_right _ hle
        have hmr : (len + ys.length) * te.size ≤ cap * te.size := Nat.mul_le_mul_right _ hroom
        rw [Nat.add_mul] at hmr
        have hfit : len * hii.size + news.length ≤ cur.size := by rw [hnl, h3, hisz]; exact hmr
        have hr := run_append_room (P := P) w t ty' ty hii hde hinfo g len cap cur hc ⟨b', off', none⟩ ys.length c' news (by rw [hisz]; exact hnl) hncell hnone hroom hfit
        refine ⟨_, _, _, hr, ⟨hal, .inr ⟨g, cap, _, rfl, hb0, setRow_heap w g cur _ ty _ hc, hroom, h2, ?_, ?_⟩⟩, hall, by simp, ⟨rfl, rfl, rfl⟩, fun b hb hne => setRow_other w g b _ (fun e => hne (by simp [blk, e])), fun b hb => .inr hb⟩
        · simp only [List.size_toArray, List.length_append, List.length_take, List.length_drop, Array.length_toList]
          omega
        · have : xs.take (len * te.size) = cur.toList.take (len * te.size) := by
            rw [← h4, List.take_take, Nat.min_eq_left hml]
          rw [hisz, ← this, ← hal]
          exact List.take_left
      · have holds : ∀ j u, (xs.take (len * te.size))[j]? = some u → w.cell? ((⟨g, 0, none⟩ : Addr).add j) = some u := by
          intro j u hj
          rw [cell_at hc, Nat.zero_add]
          rw [List.getElem?_take] at hj
          split at hj
          · rw [← h4, List.getElem?_take] at hj
            split at hj
            · simpa using hj
            · cases hj
          · cases hj
        have hr := run_append_grow (P := P) w t ty' ty hii te.zero hde hinfo hiz ⟨g, 0, none⟩ len cap (xs.take (len * te.size)) (by rw [hisz]; exact hxl) holds ⟨b', off', none⟩ ys.length c' news (by rw [hisz]; exact hnl) hncell (by omega) (by omega) (growslice_fits (by omega) (by rw [hiby]; exact hby))
        refine ⟨_, _, _, hr, hgrown cap (by omega), hall, by simp, ⟨rfl, rfl, rfl⟩, fun b hb _ => heap_alloc_old w.drew _ b hb, fun b hb => ?_⟩
        simp [blk] at hb
        omega
theorem exec_append {t : Nat} {x y : Operand} (ho : o.op = .call { callee := .builtin .append, args := #[x, y], argTypes := #[t, t] }) {v : Value} {w' : World}
    (h : (Builtin.append_ #[t, t] o.type #[a.eval x, a.eval y]).run P w = .ok v w') : OpRes P o a w v w' := by
  refine .inl ?_
  simp only [execOp, ho, resolve, invoke, builtin, Sem.run_bind, Sem.run_pure, Result.andThen_ok, List.map_toArray, List.map_cons, List.map_nil, h]

theorem setO_setO (l : List (Nat × Ob)) (n : Nat) (x y : Ob) : setO (setO l n x) n y = setO l n y := by
  induction l with
  | nil => simp [setO]
  | cons p r ih =>
    obtain ⟨k, z⟩ := p
    simp only [setO]
    split
    · rename_i e; simp [setO, e]
    · rename_i e; simp [setO, e, ih]
/-- an empty array that nobody uses yet -/
theorem addArr (h : Ga C E σ a w) {n sz ty : Nat} (hn : n ∉ σ.used) : ∃ E', Ga C E' ⟨σ.slots, setO σ.objs n (.arr 0 sz ty []), n :: σ.used⟩ a w ∧ RepV E' (.arr n 0 0) (.slice none 0 0) := by
  let E' : Env := { H := E.H, g := fun m => if m = n then .slice none 0 0 else E.g m, ver := fun m => if m = n then 0 else E.ver m, sz := fun m => if m = n then sz else E.sz m }
  have hg' : E'.g n = .slice none 0 0 := by simp [E']
  have hv' : E'.ver n = 0 := by simp [E']
  have hs' : E'.sz n = sz := by simp [E']
  have hE : ∀ m, m ≠ n → E'.g m = E.g m ∧ E'.ver m = E.ver m ∧ E'.sz m = E.sz m := fun m hm => ⟨by simp [E', hm], by simp [E', hm], by simp [E', hm]⟩
  refine ⟨E', ?_, ?_⟩
  · refine h.change (E' := E') n (some (.arr 0 sz ty [])) (setO σ.objs n (.arr 0 sz ty [])) (n :: σ.used) none .undef (.slice none 0 0) (fun m => getO_setO _ _ _ _) (Hle.refl _) hE (fun hk => absurd hk hn) (fun hk => absurd hk hn)
      (Nat.le_refl _) ⟨rfl, rfl, rfl⟩ (fun b hb _ => ⟨rfl, rfl⟩) h.heap ?_ ?_ (fun m hm => by simp [hm]) ?_ ?_ (fun d hd => by cases hd)
    · intro o' e
      cases e
      refine ⟨⟨hv', hs', by simp, [], ?_, by simp [RepVE], ?_⟩, by simp, fun m hm => by simp [Ob.names, namesE] at hm⟩
      · rw [hg']; exact World.ownsRow_nil _ _ _ _
      · rw [hg']; intro b hb; simp [Value.ownBlock] at hb
    · intro o' b e hb
      rw [hg'] at hb
      simp [blk] at hb
    · simp [RepV]
    · simp [V.names]
  · simp only [RepV, hv', hg']
    exact ⟨Nat.le_refl _, ⟨_, _, _, rfl⟩, fun _ => ⟨none, 0, 0, rfl, rfl, Nat.le_refl _⟩⟩

theorem append_arr (h : Ga C E σ a w) (hd : ∀ d, o.dst = some d → d < C.nt) {t e : Nat} {te : TI} (hte : TIOK P e te) (hde : P.underlying t = some (.slice e)) {x y : Operand}
    (ho : o.op = .call { callee := .builtin .append, args := #[x, y], argTypes := #[t, t] }) {n ver len sz ty : Nat} {es ys : List (List V)} {yv : V} (eo : getO σ.objs n = some (.arr ver sz ty es)) (hx : RepV E (.arr n ver len) (a.eval x))
    (nx : ∀ m ∈ (V.arr n ver len).names, m ∈ σ.used) (es' : srcOf yv = some ys) (hy : RepV E yv (a.eval y)) (ny : ∀ m ∈ yv.names, m ∈ σ.used) (hle : len ≤ es.length) (hty : ty = e) (hsz : sz = te.size) (hs0 : 0 < sz) (hys : ∀ y ∈ ys, y.length = sz)
    (hone : ∀ y ∈ ys, y.all V.one = true) (hmax : len + ys.length ≤ maxLen) (hby : (len + ys.length) * te.bytes ≤ 140737488355328) {cd : Prop} :
    Sound P C E σ a w o ⟨cd, True, .arr n (ver + 1) (len + ys.length), some (n, .arr (ver + 1) sz ty (es.take len ++ ys)), false⟩ := by
  have hob := h.objs n _ eo
  have hyv := srcOf_ok es' hy
  have hyn := srcOf_names es'
  obtain ⟨u', w', xs, hrun, hown, hrx, hsize, hrest, hblk, hnew⟩ := append_run (ty' := o.type) h hte hde hob hx hyv hty hsz hs0 hys hone hmax hby
  obtain ⟨hver, hsz', hlen, _, _, _, _⟩ := id hob
  obtain ⟨ad, cap, hgn, hu, hle', hlc, hm⟩ := arr_view hob hx
  have hbu : blk (a.eval x) = blk (E.g n) := by rw [hu, hgn]; cases ad <;> rfl
  rw [hbu] at hblk hnew
  let E' : Env := { H := E.H, g := fun m => if m = n then u' else E.g m, ver := fun m => if m = n then ver + 1 else E.ver m, sz := E.sz }
  have hg' : E'.g n = u' := by simp [E']
  have hv' : E'.ver n = ver + 1 := by simp [E']
  have hE : ∀ m, m ≠ n → E'.g m = E.g m ∧ E'.ver m = E.ver m ∧ E'.sz m = E.sz m := fun m hm => ⟨by simp [E', hm], by simp [E', hm], rfl⟩
  have hee : ∀ m, EExt E E' m := by
    intro m
    by_cases em : m = n
    · subst em
      exact ⟨rfl, .inr ⟨by rw [hv']; omega, _, _, _, hgn⟩⟩
    · exact EExt.of_eq (hE m em).1 (hE m em).2.1 (hE m em).2.2
  have hfreeB : ∀ b, blk u' = some b → E.H b = [] := by
    intro b hb
    rcases hnew b hb with hge | hb'
    · exact h.heap.lt hge
    · exact hob.free hb'
  have hobl : ∀ b, u'.ownBlock = some b → blk u' = some b := by
    intro b hb
    revert hb
    cases u' <;> simp [Value.ownBlock, blk]
    rename_i a' _ _
    cases a' <;> simp
  have htl : (es.take len).length = len := by simp; omega
  refine ⟨u', w', E', exec_append ho hrun, ?_, trivial⟩
  refine h.change (E' := E') n (some (.arr (ver + 1) sz ty (es.take len ++ ys))) _ σ.used o.dst _ u' (fun m => getO_setO _ _ _ _) (Hle.refl _) hE (fun _ => hee n) (fun _ => ⟨_, eo⟩) hsize hrest
    (fun b hb hne => ⟨hblk b hb (hne _ eo), rfl⟩) ?_ ?_ ?_ (fun _ h => h) ?_ ?_ hd
  · intro b hb
    obtain ⟨c, T', fr, hcell, hp⟩ := h.heap b hb
    refine ⟨c, T', fr, ?_, hp⟩
    rw [hblk b (Array.getElem?_eq_some_iff.1 hcell).1 (fun e => hb (hob.free e))]
    exact hcell
  · intro o' e0
    cases e0
    refine ⟨⟨hv', hsz', ?_, xs, ?_, ?_, ?_⟩, (h.usedO n _ eo).1, ?_⟩
    · intro e1 he1
      rcases List.mem_append.1 he1 with he1 | he1
      · exact hlen e1 (List.mem_of_mem_take he1)
      · exact hys e1 he1
    · rw [hg']
      have : (es.take len ++ ys).length = len + ys.length := by rw [List.length_append, htl]
      rw [this]
      exact hown
    · exact RepVE.mono (E := E) (E' := E') (Hle.refl E.H) _ _ _ List.prefix_rfl (fun m _ => hee m) hrx
    · intro b hb
      rw [hg'] at hb
      exact hfreeB b (hobl b hb)
    · intro m hm
      simp only [Ob.names] at hm
      obtain ⟨e1, he1, hm⟩ := mem_namesE.1 hm
      rcases List.mem_append.1 he1 with he1 | he1
      · exact (h.usedO n _ eo).2 m (mem_namesE.2 ⟨e1, List.mem_of_mem_take he1, hm⟩)
      · exact ny m (hyn m (mem_namesE.2 ⟨e1, he1, hm⟩))
  · intro o' b e0 hb
    rw [hg'] at hb
    rcases hnew b hb with hge | hb'
    · exact .inl hge
    · exact .inr ⟨hb', _, eo⟩
  · simp only [RepV, hv', hg']
    have hsl : ∃ a l c, u' = .slice a l c ∧ l = len + ys.length := by
      rcases hown.2 with ⟨e1, e2⟩ | ⟨g, cap', cur, e1, _⟩
      · exact ⟨none, 0, 0, e1, e2.symm⟩
      · exact ⟨_, _, _, e1, rfl⟩
    obtain ⟨a', l', c', e1, e2⟩ := hsl
    refine ⟨Nat.le_refl _, ⟨a', l', c', e1⟩, fun _ => ⟨a', l', c', e1, ?_, ?_⟩⟩
    · rw [e1, e2]
    · rw [e2]; omega
  · intro m hm
    simp only [V.names] at hm nx
    exact nx m hm

/-- an append to a slice that is full: a new one -/
theorem append_full (h : Ga C E σ a w) (hd : ∀ d, o.dst = some d → d < C.nt) {t e : Nat} {te : TI} (hte : TIOK P e te) (hde : P.underlying t = some (.slice e)) {x y : Operand} (ho : o.op = .call { callee := .builtin .append, args := #[x, y], argTypes := #[t, t] })
    {es ys : List (List PV)} (hx : RepV E (.fsl es) (a.eval x)) (hy : RepV E (.pv (.slice ys)) (a.eval y)) (hlen : ∀ e ∈ es, e.length = te.size) (hlen2 : ∀ y ∈ ys, y.length = te.size) (hs0 : 0 < te.size) (hne : ys ≠ []) (hmax : es.length + ys.length ≤ maxLen)
    (hby : (es.length + ys.length) * te.bytes ≤ 140737488355328) {cd : Prop} : Sound P C E σ a w o ⟨cd, True, .pv (.slice (es ++ ys)), none, false⟩ := by
  obtain ⟨hii, hinfo, hisz, hiby, hiz⟩ := hte.info
  have pl : ∀ (l : List (List PV)), (∀ e ∈ l, e.length = te.size) → ∀ e ∈ pvE l, e.length = te.size := by
    intro l hl e he
    obtain ⟨e', he', rfl⟩ := List.mem_map.1 he
    simpa [pvL] using hl e' he'
  have hpl : ∀ l : List (List PV), (pvE l).length = l.length := by intro l; simp [pvE]
  -- what is appended
  rcases srcOf_ok (y := .pv (.slice ys)) (ys := pvE ys) rfl hy with ⟨e0, _⟩ | ⟨b', off', c', hvv, hsr⟩
  · exact absurd e0 (by simpa [pvE] using hne)
  obtain ⟨news, hnl, hnr, hncell⟩ := slice_cells h hsr (pl ys hlen2) (by simpa [pvE] using hne) hs0
  rw [hpl] at hnl hvv
  have hnr := RepVE.toPv (unE_pvE ys) hnr
  have hpos : 0 < ys.length := List.length_pos_iff.2 hne
  have hsmall : es.length + ys.length ≤ 9223372036854775807 := by simp only [maxLen] at hmax; omega
  -- what is there
  have hold : ∃ ad xs, a.eval x = .slice ad es.length es.length ∧ xs.length = es.length * te.size ∧ RepE E.H es xs ∧ (es = [] ∨ ∃ b off, ad = some ⟨b, off, none⟩ ∧ ∀ j u, xs[j]? = some u → w.cell? ((⟨b, off, none⟩ : Addr).add j) = some u) := by
    simp only [RepV] at hx
    obtain ⟨ad, hv, _, hr⟩ := hx
    rcases hr with rfl | ⟨b, off, rfl, hr⟩
    · exact ⟨ad, [], hv, by simp, by simp only [RepE], .inl rfl⟩
    · by_cases he : es = []
      · subst he
        exact ⟨_, [], hv, by simp, by simp only [RepE], .inl rfl⟩
      · obtain ⟨xs, h1, h2, h3⟩ := slice_cells h (es := pvE es) (RepVE.of hr) (pl es hlen) (by simpa [pvE] using he) hs0
        rw [hpl] at h1
        exact ⟨_, xs, hv, h1, RepVE.toPv (unE_pvE es) h2, .inr ⟨b, off, rfl, h3⟩⟩
  obtain ⟨ad, xs, hxv, hxl, hxr, hxc⟩ := hold
  have hall : RepE E.H (es ++ ys) (xs ++ news) := by
    have : ∀ (l : List (List PV)) (us : List Value), (∀ e ∈ l, e.length = te.size) → us.length = l.length * te.size → RepE E.H l us → RepE E.H (l ++ ys) (us ++ news) := by
      intro l
      induction l with
      | nil =>
        intro us _ hu _
        have : us = [] := List.eq_nil_of_length_eq_zero (by simpa using hu)
        subst this
        simpa using hnr
      | cons e l ih =>
        intro us hl hu r
        simp only [RepE, List.cons_append] at r ⊢
        have he := hl e (by simp)
        have hu' : us.length = te.size + l.length * te.size := by rw [hu]; simp only [List.length_cons, Nat.succ_mul]; omega
        refine ⟨RepL.mono (Hle.refl _) e _ _ (List.prefix_append _ _) r.1, ?_⟩
        rw [List.drop_append_of_le_length (by omega)]
        exact ih _ (fun x hx => hl x (by simp [hx])) (by rw [List.length_drop]; omega) r.2
    exact this es xs hlen hxl hxr
  -- the new row
  have fin : ∀ (old : Nat), old < es.length + ys.length → (Builtin.append_ #[t, t] o.type #[a.eval x, a.eval y]).run P w = .ok (.slice (some ⟨w.heap.size, 0, none⟩) (es.length + ys.length) (grownCap w (es.length + ys.length) old e)) (w.drew.alloc (.cells (xs.toArray ++ news.toArray ++ Builtin.zeroCells te.zero.cells (grownCap w (es.length + ys.length) old e - (es.length + ys.length))) e)) → Sound P C E σ a w o ⟨cd, True, .pv (.slice (es ++ ys)), none, false⟩ := by
    intro old ho' hr
    obtain ⟨E', hE'⟩ := h.drew.newRow (dst := o.dst) hd e (xs.toArray ++ news.toArray ++ Builtin.zeroCells te.zero.cells (grownCap w (es.length + ys.length) old e - (es.length + ys.length))) (x := .pv (.slice (es ++ ys))) (v := .slice (some ⟨w.heap.size, 0, none⟩) (es.length + ys.length) (grownCap w (es.length + ys.length) old e)) (by
      intro H' hH hnew
      simp only [RepV, RepP]
      refine ⟨_, _, by rw [List.length_append], by rw [List.length_append]; exact grownCap_ge w (es.length + ys.length) old e, by rw [List.length_append]; exact hmax, .inr ⟨w.heap.size, 0, rfl, ?_⟩⟩
      have hnew' : H' w.heap.size = (xs.toArray ++ news.toArray ++ Builtin.zeroCells te.zero.cells (grownCap w (es.length + ys.length) old e - (es.length + ys.length))).toList := hnew
      rw [hnew']
      refine RepE.mono hH (es ++ ys) (xs ++ news) _ ?_ hall
      simp) (by simp [V.names])
    exact ⟨_, _, E', exec_append ho hr, hE', trivial⟩
  by_cases he : es = []
  · subst he
    have hx0 : xs = [] := List.eq_nil_of_length_eq_zero (by simpa using hxl)
    subst hx0
    simp only [List.length_nil, Nat.zero_add] at hxv fin hsmall hby
    cases ad with
    | none =>
      have hr := run_append_nil (P := P) w t o.type e hii te.zero hde hinfo hiz ⟨b', off', none⟩ ys.length c' news (by rw [hisz]; exact hnl) hncell hpos (by omega) (by rw [hiby]; omega)
      refine fin 0 hpos ?_
      rw [hxv, hvv, hr]
      simp
    | some ad =>
      have hr := run_append_grow (P := P) w t o.type e hii te.zero hde hinfo hiz ad 0 0 [] (by simp) (by intro j u hj; simp at hj) ⟨b', off', none⟩ ys.length c' news (by rw [hisz]; exact hnl) hncell (by omega) (by omega) (growslice_fits (by omega) (by rw [hiby]; simpa using hby))
      refine fin 0 hpos ?_
      rw [hxv, hvv, hr]
      simp
  · rcases hxc with h0 | ⟨b, off, rfl, hcell⟩
    · exact absurd h0 he
    · have hr := run_append_grow (P := P) w t o.type e hii te.zero hde hinfo hiz ⟨b, off, none⟩ es.length es.length xs (by rw [hisz]; exact hxl) hcell ⟨b', off', none⟩ ys.length c' news (by rw [hisz]; exact hnl) hncell (by omega) (by omega) (growslice_fits (by omega) (by rw [hiby]; exact hby))
      refine fin es.length (by omega) ?_
      rw [hxv, hvv, hr]
theorem sound_append (h : Ga C E σ a w) (hg : GOK gl C.E0.H) (hd : ∀ d, o.dst = some d → d < C.nt) (hT : TOK P T) {args : Array Operand} {argTypes : Array Nat} (ho : o.op = .call { callee := .builtin .append, args, argTypes }) {r : R} (hc : r.cond)
    (hs : stepOp T note (σ.val gl) (getO σ.objs) o.dst (.call { callee := .builtin .append, args, argTypes }) = some r) (hn : ∀ n x, r.wr = some (n, x) → r.new = true → n ∉ σ.used) : Sound P C E σ a w o r := by
  simp only [stepOp] at hs
  split at hs
  · rename_i t t' x y et ex
    have hat : argTypes = #[t, t'] := by rw [← Array.toArray_toList (xs := argTypes), et]
    have hax : args = #[x, y] := by rw [← Array.toArray_toList (xs := args), ex]
    subst hat hax
    split at hs
    · rename_i htt
      subst htt
      have hx := val_rep h hg x
      have hy := val_rep h hg y
      have nx := val_names (gl := gl) h x
      split at hs
      · rename_i e s1 s2 s3 s4 et
        obtain ⟨d, hde, hk⟩ := (hT t _ et).desc
        simp only [TKOK] at hk
        subst hk
        split at hs
        · rename_i te ee
          have hte := hT e te ee
          unfold stepAppend at hs
          split at hs
          · rename_i n ver len exv
            rw [exv] at hx nx
            split at hs
            · rename_i ver' sz ty es ys eo es'
              cases hs
              obtain ⟨rfl, hle, hty, hsz, hs0, hys, hone, hmax, hby⟩ := hc
              exact append_arr h hd hte hde ho eo hx nx es' hy (val_names (gl := gl) h y) hle hty hsz hs0 hys hone hmax hby
            · cases hs
          · rename_i es exv
            rw [exv] at hx
            split at hs
            · rename_i ys ey
              rw [ey] at hy
              cases hs
              obtain ⟨hlen, hlen2, hs0, hne, hmax, hby⟩ := hc
              exact append_full h hd hte hde ho hx hy hlen hlen2 hs0 hne hmax hby
            · cases hs
          · split at hs
            · split at hs
              · rename_i _ es ey
                cases hs
                obtain ⟨hlen, hs0, hby⟩ := hc
                rw [ey] at hy
                obtain ⟨hii, hinfo, hisz, hiby, hiz⟩ := hte.info
                by_cases hes : es = []
                · subst hes
                  have hvv : ∃ ad' c, a.eval y = .slice ad' 0 c := by
                    simp only [RepV, RepP] at hy
                    obtain ⟨ad', c, hv, _⟩ := hy
                    exact ⟨ad', c, hv⟩
                  obtain ⟨ad', c, hv⟩ := hvv
                  have hr := run_append_zero (P := P) (w := w) (ty := o.type) (ad := none) (ad' := ad') (c := c) (len := 0) (cap := 0) hte hde (Nat.le_refl _)
                  refine Sound.pure h (v := .slice none 0 0) (exec_append ho ?_) ?_ (by simp [V.names]) hd trivial
                  · rw [hv]; exact hr
                  · simp [RepV, RepP, maxLen]
                · have hsrc := srcOf_ok (y := .pv (.slice es)) (ys := pvE es) rfl hy
                  have hpe : pvE es ≠ [] := by simpa [pvE] using hes
                  have hplen : ∀ e ∈ pvE es, e.length = te.size := by
                    intro e he
                    obtain ⟨e', he', rfl⟩ := List.mem_map.1 he
                    simpa [pvL] using hlen e' he'
                  rcases hsrc with ⟨e0, _⟩ | ⟨b', off', c', hvv, hsr⟩
                  · exact absurd e0 hpe
                  obtain ⟨news, hnl, hnr, hncell⟩ := slice_cells h hsr hplen hpe hs0
                  have hpl : (pvE es).length = es.length := by simp [pvE]
                  rw [hpl] at hnl hvv
                  have hnr := RepVE.toPv (unE_pvE es) hnr
                  have hpos : 0 < es.length := List.length_pos_iff.2 hes
                  have hlm : es.length ≤ maxLen := by
                    simp only [RepV, RepP] at hy
                    obtain ⟨_, _, _, _, hm, _⟩ := hy
                    exact hm
                  have hr := run_append_nil (P := P) w t o.type e hii te.zero hde hinfo hiz ⟨b', off', none⟩ es.length c' news (by rw [hisz]; exact hnl) hncell hpos (by simp only [maxLen] at hlm; omega) (by rw [hiby]; omega)
                  obtain ⟨E', hE'⟩ := h.drew.newRow (dst := o.dst) hd e (news.toArray ++ Builtin.zeroCells te.zero.cells (grownCap w es.length 0 e - es.length)) (x := .pv (.slice es)) (v := .slice (some ⟨w.heap.size, 0, none⟩) es.length (grownCap w es.length 0 e)) (by
                    intro H' hH hnew
                    simp only [RepV, RepP]
                    refine ⟨_, _, rfl, grownCap_ge w es.length 0 e, hlm, .inr ⟨w.heap.size, 0, rfl, ?_⟩⟩
                    have hnew' : H' w.heap.size = (news.toArray ++ Builtin.zeroCells te.zero.cells (grownCap w es.length 0 e - es.length)).toList := hnew
                    rw [hnew']
                    refine RepE.mono hH es news _ ?_ hnr
                    simp) (by simp [V.names])
                  exact ⟨_, _, E', exec_append ho (by rw [hvv]; exact hr), hE', trivial⟩
              · rename_i yv _ n sz ty
                split at hs
                · rename_i ys es'
                  cases hs
                  obtain ⟨hty, hsz, hs0, hys, hone, hmax, hby⟩ := hc
                  obtain ⟨E₁, h₁, hx₁⟩ := addArr h (n := n) (sz := sz) (ty := ty) (hn _ _ rfl rfl)
                  have hyv : RepV E₁ ((σ.val gl) y) (a.eval y) := by
                    have := val_rep (σ := ⟨σ.slots, setO σ.objs n (.arr 0 sz ty []), n :: σ.used⟩) h₁ hg y
                    exact this
                  obtain ⟨v, w', E', h1, h2, h3⟩ := append_arr (cd := True) h₁ hd hte hde ho (n := n) (ver := 0) (len := 0) (sz := sz) (ty := ty) (es := []) (ys := ys) (by simp [getO_setO]) hx₁ (by simp [V.names]) es' hyv
                    (fun m hm => by simp [val_names (gl := gl) h y m hm]) (Nat.le_refl _) hty hsz hs0 hys hone (by omega) (by simpa using hby)
                  refine ⟨v, w', E', h1, ?_, trivial⟩
                  simp only [St.app, setO_setO, List.take_nil, List.nil_append, Nat.zero_add] at h2
                  exact h2
                · cases hs
              · cases hs
            · cases hs
        · cases hs
      · cases hs
    · cases hs
  · cases hs
theorem sound_max (h : Ga C E σ a w) (hg : GOK gl C.E0.H) (hd : ∀ d, o.dst = some d → d < C.nt) {args : Array Operand} {argTypes : Array Nat} (ho : o.op = .call { callee := .builtin .max, args, argTypes }) {r : R}
    (hs : stepOp T note (σ.val gl) (getO σ.objs) o.dst (.call { callee := .builtin .max, args, argTypes }) = some r) : Sound P C E σ a w o r := by
  simp only [stepOp] at hs
  split at hs
  · rename_i x y ex
    have hax : args = #[x, y] := by rw [← Array.toArray_toList (xs := args), ex]
    subst hax
    have hx := val_rep h hg x
    have hy := val_rep h hg y
    split at hs
    · rename_i m n em en
      cases hs
      rw [em] at hx
      rw [en] at hy
      have hx := rep_int hx
      have hy := rep_int hy
      refine Sound.pure h (v := .int .i64 (if n > m then n else m)) (.inl ?_) ?_ (by simp [R.of, V.names]) hd trivial
      · simp [execOp, ho, resolve, invoke, builtin, Builtin.max_, Builtin.max2, hx, hy]
      · simp [RepV, RepP]
    · cases hs
  · cases hs
end
end Go.Lg
/- Tables: a map whose keys are pointers to plain data, and whose values depend on the data alone. -/
namespace Go.Lg
section
variable {P : Program} {C : Ctx} {E : Env} {σ : St} {a : Act} {w : World} {gl : Nat → Option (List PV)} {o : Oper} {T : Nat → Option TI} {note : Note}

theorem sound_makeFunc (h : Ga C E σ a w) (hg : GOK gl C.E0.H) (hd : ∀ d, o.dst = some d → d < C.nt) {f : Nat} {first caps : Array Operand} (ho : o.op = .makeFunc (.func f) first caps) {r : R} {ob : Nat → Option Ob}
    (hs : stepOp T note (σ.val gl) ob o.dst (.makeFunc (.func f) first caps) = some r) : Sound P C E σ a w o r := by
  simp only [stepOp] at hs
  split at hs
  · rename_i h0
    cases hs
    have hf : first = #[] := Array.eq_empty_of_size_eq_zero h0
    subst hf
    have hrep : ∀ l : List Operand, RepVL E (l.map (σ.val gl)) (l.map a.eval) := by
      intro l
      induction l with
      | nil => simp [RepVL]
      | cons x l ih => simp only [List.map_cons, RepVL]; exact ⟨val_rep h hg x, ih⟩
    have hmf : ∀ (fn : Fn) (first cap : Array Value), (Instr.makeFunc fn first cap).run P w = .ok (.func fn first cap) w := fun _ _ _ => rfl
    refine Sound.pure h (v := .func (.func f) #[] (caps.toList.map a.eval).toArray) (.inl ?_) ?_ ?_ hd trivial
    · have : Array.map a.eval caps = (List.map a.eval caps.toList).toArray := by rw [← Array.toList_map]
      simp [execOp, ho, hmf, this]
    · simp only [RepV]
      exact ⟨_, rfl, by simp, hrep _⟩
    · intro n hn
      simp only [V.names] at hn
      obtain ⟨c, hc, hn⟩ := mem_namesL.1 hn
      obtain ⟨x, _, rfl⟩ := List.mem_map.1 hc
      exact val_names h x n hn
  · cases hs

theorem sound_makeMap (h : Ga C E σ a w) (hd : ∀ d, o.dst = some d → d < C.nt) {t : Nat} (ho : o.op = .makeMap t none) {r : R} {ob : Nat → Option Ob} {val : Operand → V} (hc : r.cond)
    (hs : stepOp T note val ob o.dst (.makeMap t none) = some r) (hn : ∀ n x, r.wr = some (n, x) → r.new = true → n ∉ σ.used) : Sound P C E σ a w o r := by
  simp only [stepOp] at hs
  split at hs
  · rename_i n D F
    cases hs
    have hn := hn n _ rfl rfl
    let E' : Env := { E with g := fun m => if m = n then .map (some w.heap.size) else E.g m }
    have hg' : E'.g n = .map (some w.heap.size) := by simp [E']
    have hE : ∀ m, m ≠ n → E'.g m = E.g m ∧ E'.ver m = E.ver m ∧ E'.sz m = E.sz m := fun m hm => ⟨by simp [E', hm], rfl, rfl⟩
    refine ⟨.map (some w.heap.size), w.alloc (.map #[] 0), E', .inl ?_, ?_, trivial⟩
    · have : (Instr.makeMap t none).run P w = .ok (.map (some w.heap.size)) (w.alloc (.map #[] 0)) := rfl
      simp [execOp, ho, this]
    refine h.change (E' := E') n (some (.cache D F)) (setO σ.objs n (.cache D F)) (n :: σ.used) o.dst (.map n) _ (fun m => getO_setO _ _ _ _) (Hle.refl _) hE (fun hk => absurd hk hn) (fun hk => absurd hk hn)
      (by simp) ⟨rfl, rfl, rfl⟩ (fun b hb _ => ⟨heap_alloc_old w _ b hb, rfl⟩) (heapOK_alloc h.heap _ E' rfl) ?_ ?_ (fun m hm => by simp [hm]) ?_ ?_ hd
    · intro o' e
      cases e
      exact ⟨⟨hc, w.heap.size, #[], 0, hg', heap_alloc_new w _, h.heap.lt (Nat.le_refl _), by simp⟩, by simp, by simp [Ob.names]⟩
    · intro o' b e hb
      rw [hg'] at hb
      simp [blk] at hb
      omega
    · exact ⟨_, hg', rfl⟩
    · simp [V.names]
  · cases hs

/-- an address whose identity can be asked for -/
def okAddr (w : World) (a : Addr) : Prop := ∃ c T, w.heap[a.block]? = some (.cells c T (0, 0))

theorem run_same {a b : Addr} (ha : okAddr w a) (hb : okAddr w b) : (sameAddr a b).run P w = .ok (decide (a = b)) w := by
  obtain ⟨ca, ta, ha⟩ := ha
  obtain ⟨cb, tb, hb⟩ := hb
  by_cases hbl : a.block = b.block
  · have : (a == b) = decide (a = b) := by by_cases e : a = b <;> simp [e]
    simp [sameAddr, hbl, this]
  · have hne : ¬ a = b := fun e => hbl (by rw [e])
    simp [sameAddr, hbl, World.frozen?, ha, hb, noView, viewAt, World.shape?, mayBeOne, stringish, hne]

theorem run_eqp {kt e : Nat} {i : TypeInfo} (hk : P.underlying kt = some (.pointer e)) (hi : P.info? e = some i) (hs : i.size ≠ 0) {x y : Addr} (hx : okAddr w x) (hy : okAddr w y) :
    (Op.equal kt (.pointer (some x)) (.pointer (some y))).run P w = .ok (decide (x = y)) w := by
  refine run_equal fun d => ?_
  simp [Op.equalIn, run_underlying hk, sizeOf, typeInfo, hi, hs, run_same hx hy]

theorem find_asking {kt e : Nat} {i : TypeInfo} (hk : P.underlying kt = some (.pointer e)) (hi : P.info? e = some i) (hs : i.size ≠ 0) {x : Addr} (hx : okAddr w x) : ∀ (es : List MapEntry) (k : Nat), (∀ e ∈ es, ∃ b, e.key = .pointer (some b) ∧ okAddr w b) →
    ∃ r, (Instr.findAsking kt (.pointer (some x)) es k).run P w = .ok r w ∧ ∀ j v, r = some (j, v) → ∃ e, k ≤ j ∧ es[j - k]? = some e ∧ e.key = .pointer (some x) ∧ e.val = v
  | [], k, _ => ⟨none, rfl, fun j v e => by cases e⟩
  | m :: es, k, h => by
    obtain ⟨b, hb, hok⟩ := h m (by simp)
    unfold Instr.findAsking
    simp only [Sem.run_bind, hb, run_eqp hk hi hs hx hok, Result.andThen_ok]
    by_cases hxb : x = b
    · subst hxb
      refine ⟨some (k, m.val), by simp, ?_⟩
      intro j v e
      cases e
      exact ⟨m, Nat.le_refl _, by simp, hb, rfl⟩
    · obtain ⟨r, hr, hp⟩ := find_asking hk hi hs hx es (k + 1) (fun e he => h e (by simp [he]))
      refine ⟨r, by simp [hxb, hr], ?_⟩
      intro j v e
      obtain ⟨e', h1, h2, h3⟩ := hp j v e
      refine ⟨e', by omega, ?_, h3⟩
      have : j - k = (j - (k + 1)) + 1 := by omega
      rw [this]
      simpa using h2

theorem find_key {kt e : Nat} {i : TypeInfo} (hk : P.underlying kt = some (.pointer e)) (hi : P.info? e = some i) (hs : i.size ≠ 0) {x : Addr} (hx : okAddr w x) (es : List MapEntry) (h : ∀ e ∈ es, ∃ b, e.key = .pointer (some b) ∧ okAddr w b) :
    ∃ r, (Instr.findKey kt (.pointer (some x)) es).run P w = .ok r w ∧ ∀ j v, r = some (j, v) → ∃ e, es[j]? = some e ∧ e.key = .pointer (some x) ∧ e.val = v := by
  unfold Instr.findKey
  simp only [Sem.run_bind, run_underlying hk, Result.andThen_ok]
  cases es with
  | nil => exact ⟨none, rfl, fun j v e => by cases e⟩
  | cons m es =>
    obtain ⟨r, hr, hp⟩ := find_asking hk hi hs hx (m :: es) 0 h
    refine ⟨r, ?_, fun j v e => ?_⟩
    · simp only [Instr.findNow, Instr.sameNow]
      exact hr
    · obtain ⟨e', _, h2, h3⟩ := hp j v e
      exact ⟨e', by simpa using h2, h3⟩

theorem okAddr_of (hh : HeapOK E w) {x off : Nat} {v : Value} (hv : v ∈ E.H x) (hn : ∀ k n, v ≠ .int k n) : okAddr w ⟨x, off, none⟩ := by
  obtain ⟨c, T, fr, hc, _, hfr⟩ := hh x (List.ne_nil_of_mem hv)
  rcases hfr with rfl | hfr
  · exact ⟨c, T, hc⟩
  · obtain ⟨k, n, e⟩ := hfr v hv
    exact absurd e (hn k n)

theorem nonint_mem {H : Hp} : ∀ {ks : List PV} {vs : List Value}, RepL H ks vs → ks.any PV.nonint = true → ∃ v ∈ vs, ∀ k n, v ≠ .int k n
  | [], _, _, h => by simp at h
  | k :: ks, [], r, _ => by simp [RepL] at r
  | k :: ks, v :: vs, r, h => by
    simp only [RepL] at r
    simp only [List.any_cons, Bool.or_eq_true] at h
    rcases h with h | h
    · refine ⟨v, by simp, ?_⟩
      intro kk n e
      subst e
      cases k <;> simp [PV.nonint] at h <;> simp [RepP] at r
    · obtain ⟨u, hu, hn⟩ := nonint_mem r.2 h
      exact ⟨u, by simp [hu], hn⟩

theorem key_ptr {H : Hp} {ks : List PV} {v : Value} (hr : RepP H (.ptr ks) v) (hn : ks.any PV.nonint = true) : ∃ x off u, v = .pointer (some ⟨x, off, none⟩) ∧ u ∈ H x ∧ ∀ k n, u ≠ .int k n := by
  simp only [RepP] at hr
  obtain ⟨b, off, hv, hr⟩ := hr
  obtain ⟨u, hu, hn⟩ := nonint_mem hr hn
  exact ⟨b, off, u, hv, List.mem_of_mem_drop hu, hn⟩

theorem run_checkPtr {kt e : Nat} (hk : P.underlying kt = some (.pointer e)) (emp : Bool) (v : Value) : (Instr.checkKey emp 10000 kt v).run P w = .ok () w := by
  have : (10000 : Nat) = 9999 + 1 := rfl
  rw [this]
  unfold Instr.checkKey
  simp only [Sem.run_bind, run_underlying hk, Result.andThen_ok]
  rfl

theorem heap_set_other (w : World) (r b : Nat) (ob : Obj) (h : b ≠ r) : ({ w with heap := w.heap.setIfInBounds r ob } : World).heap[b]? = w.heap[b]? := by
  simp [Array.getElem?_setIfInBounds_ne (fun e => h e.symm)]

/-- an entry of a table -/
def EntOK (E : Env) (D : PV → Prop) (F : PV → List PV) (e : MapEntry) : Prop :=
  ∃ p, D p ∧ RepP E.H p e.key ∧ RepP E.H (.agg (F p)) e.val ∧ ∃ x off v, e.key = .pointer (some ⟨x, off, none⟩) ∧ v ∈ E.H x ∧ ∀ k n, v ≠ .int k n

theorem sound_mapUpdate (h : Ga C E σ a w) (hg : GOK gl C.E0.H) (hT : TOK P T) {t : Nat} {m k v : Operand} (ho : o.op = .mapUpdate t m k v) {r : R} (hc : r.cond)
    (hs : stepOp T note (σ.val gl) (getO σ.objs) o.dst (.mapUpdate t m k v) = some r) : Sound P C E σ a w o r := by
  have hm := val_rep h hg m
  have hk := val_rep h hg k
  have hv := val_rep h hg v
  simp only [stepOp] at hs
  split at hs
  · rename_i kt vt s1 s2 s3 s4 hdst et
    obtain ⟨d, hde, hkk⟩ := (hT t _ et).desc
    simp only [TKOK] at hkk
    obtain ⟨rfl, e, hu, hei⟩ := hkk
    obtain ⟨i, hi, hsz⟩ := map_elem hei
    unfold stepUpdate at hs
    split at hs
    · rename_i n ks cs em ek ev
      rw [em] at hm; rw [ek] at hk; rw [ev] at hv
      split at hs
      · rename_i D F eo
        cases hs
        obtain ⟨hD, hF, hni⟩ := hc
        simp only [RepV] at hm hk hv
        obtain ⟨b, hgn, hmv⟩ := hm
        obtain ⟨hcoh, b', es, ck, hgn', hcell, hfree, hes⟩ := h.objs n _ eo
        rw [hgn] at hgn'
        cases hgn'
        obtain ⟨x, off, u, hkv, hux, hun⟩ := key_ptr hk hni
        have hok := okAddr_of (off := off) h.heap hux hun
        obtain ⟨rr, hrun, hfound⟩ := find_key hu hi hsz hok es.toList (by
          intro e he
          obtain ⟨p, _, _, _, y, off', u', hy, hy1, hy2⟩ := hes e (by simpa using he)
          exact ⟨_, hy, okAddr_of h.heap hy1 hy2⟩)
        have hnew : EntOK E D F ⟨a.eval k, a.eval v, ck⟩ := ⟨.ptr ks, hD, hk, by rw [← hF]; exact hv, x, off, u, hkv, hux, hun⟩
        have key : ∀ es' ck', (∀ e ∈ es', EntOK E D F e) → (Instr.mapUpdate t (a.eval m) (a.eval k) (a.eval v)).run P w = .ok () { w with heap := w.heap.setIfInBounds b (.map es' ck') } →
            Sound P C E σ a w o ⟨D (.ptr ks) ∧ cs = F (.ptr ks) ∧ ks.any PV.nonint = true, True, .undef, some (n, .cache D F), false⟩ := by
          intro es' ck' hes' hr
          refine ⟨undef, { w with heap := w.heap.setIfInBounds b (.map es' ck') }, E, .inr ⟨?_, rfl⟩, ?_, trivial⟩
          · simp only [execOp, ho, Sem.run_bind, hr, Result.andThen_ok]
            rfl
          have hbl : b < w.heap.size := (Array.getElem?_eq_some_iff.1 hcell).1
          refine h.change (E' := E) n (some (.cache D F)) (setO σ.objs n (.cache D F)) σ.used o.dst .undef undef (fun m => getO_setO _ _ _ _) (Hle.refl _) (fun _ _ => ⟨rfl, rfl, rfl⟩) (fun _ => EExt.refl _ _) (fun _ => ⟨_, eo⟩) (by simp) ⟨rfl, rfl, rfl⟩
            (fun b1 hlt hne => ⟨heap_set_other w b b1 _ (fun e => hne _ eo (by rw [e, hgn]; rfl)), rfl⟩) ?_ ?_ ?_ (fun _ h => h) (by simp [RepV]) (by simp [V.names]) (by rw [hdst]; simp)
          · intro b1 hb1
            have : b1 ≠ b := fun e => hb1 (e ▸ hfree)
            obtain ⟨c, T', fr, hc, hp⟩ := h.heap b1 hb1
            exact ⟨c, T', fr, by rw [heap_set_other w b b1 _ this]; exact hc, hp⟩
          · intro o' e
            cases e
            exact ⟨⟨hcoh, b, es', ck', hgn, by simp [hbl], hfree, hes'⟩, h.usedO n _ eo⟩
          · intro o' b1 e hb1
            exact .inr ⟨hb1, _, eo⟩
        have hget : (getObj b).run P w = .ok (.map es ck) w := by simp [getObj, Sem.run, hcell]
        have hset : ∀ ob : Obj, (setObj b ob).run P w = .ok () { w with heap := w.heap.setIfInBounds b ob } := by intro ob; simp [setObj, Sem.run, hcell]
        cases hrr : rr with
        | none =>
          subst hrr
          refine key (es.push ⟨a.eval k, a.eval v, ck⟩) (ck + 1) ?_ ?_
          · intro e he
            rcases Array.mem_push.1 he with he | rfl
            · exact hes e he
            · exact hnew
          · unfold Instr.mapUpdate
            simp only [Sem.run_bind, run_underlying hde, Result.andThen_ok, hmv, hget, hkv, run_checkPtr hu, hrun, hset]
        | some q =>
          obtain ⟨j, v0⟩ := q
          subst hrr
          obtain ⟨e0, he0, hk0, _⟩ := hfound j v0 rfl
          refine key (es.modify j fun e => { e with key := a.eval k, val := a.eval v }) ck ?_ ?_
          · intro e he
            obtain ⟨q, hq, heq⟩ := Array.getElem_of_mem he
            rw [Array.getElem_modify] at heq
            split at heq
            · subst heq
              obtain ⟨p, h1, h2, h3, x', off', v', h4, h5, h6⟩ := hnew
              exact ⟨p, h1, h2, h3, x', off', v', h4, h5, h6⟩
            · subst heq
              exact hes _ (Array.getElem_mem _)
          · have hkk : ((es[j]?).map (·.key)).getD (Value.pointer (some ⟨x, off, none⟩)) = .pointer (some ⟨x, off, none⟩) := by
              have : es[j]? = some e0 := by simpa using he0
              rw [this]
              simpa using hk0
            unfold Instr.mapUpdate
            simp only [Sem.run_bind, run_underlying hde, Result.andThen_ok, hmv, hget, hkv, run_checkPtr hu, hrun, hset, hkk, Instr.keyThatStays, Instr.sameBits]
            simp [hset]
      · cases hs
    · cases hs
  · cases hs

theorem run_lookup {t kt vt : Nat} (hde : P.underlying t = some (.map kt vt)) {e : Nat} {i : TypeInfo} (hu : P.underlying kt = some (.pointer e)) (hi : P.info? e = some i) (hsz : i.size ≠ 0) {tv : TI} (hv : TIOK P vt tv)
    (h : Ga C E σ a w) {n : Nat} {D : PV → Prop} {F : PV → List PV} (eo : getO σ.objs n = some (.cache D F)) {m k : Value} (hm : RepV E (.map n) m) {ks : List PV} (hk : RepP E.H (.ptr ks) k) (hD : D (.ptr ks)) (hni : ks.any PV.nonint = true) :
    ∃ u b, (Instr.lookup t m k true).run P w = .ok (.tuple #[u, .bool b]) w ∧ (b = true → RepP E.H (.agg (F (.ptr ks))) u) ∧ (b = false → u = tv.zero) := by
  simp only [RepV] at hm
  obtain ⟨b, hgn, hmv⟩ := hm
  obtain ⟨hcoh, b', es, ck, hgn', hcell, hfree, hes⟩ := h.objs n _ eo
  rw [hgn] at hgn'
  cases hgn'
  obtain ⟨x, off, u, hkv, hux, hun⟩ := key_ptr hk hni
  have hok := okAddr_of (off := off) h.heap hux hun
  obtain ⟨rr, hrun, hfound⟩ := find_key hu hi hsz hok es.toList (by
    intro e he
    obtain ⟨p, _, _, _, y, off', u', hy, hy1, hy2⟩ := hes e (by simpa using he)
    exact ⟨_, hy, okAddr_of h.heap hy1 hy2⟩)
  have hget : (getObj b).run P w = .ok (.map es ck) w := by simp [getObj, Sem.run, hcell]
  cases hrr : rr with
  | none =>
    subst hrr
    refine ⟨tv.zero, false, ?_, by simp, fun _ => rfl⟩
    unfold Instr.lookup
    simp only [Sem.run_bind, run_underlying hde, Result.andThen_ok, hmv, hget, hkv, run_checkPtr hu, hrun, hv.run_zero]
    simp [run_checkPtr hu, hrun, hv.run_zero]
  | some q =>
    obtain ⟨j, v0⟩ := q
    subst hrr
    obtain ⟨e0, he0, hk0, hv0⟩ := hfound j v0 rfl
    refine ⟨v0, true, ?_, fun _ => ?_, by simp⟩
    · unfold Instr.lookup
      simp only [Sem.run_bind, run_underlying hde, Result.andThen_ok, hmv, hget, hkv, run_checkPtr hu, hrun]
      simp [run_checkPtr hu, hrun]
    · obtain ⟨p, hp, hpk, hpv, _⟩ := hes e0 (by have := List.mem_of_getElem? he0; simpa using this)
      have : F p = F (.ptr ks) := hcoh E.H p (.ptr ks) k hp hD (by rw [hkv, ← hk0]; exact hpk) hk
      rw [← this, ← hv0]
      exact hpv
end
end Go.Lg
/- Every operation that the logic runs is run so by the machine. -/
namespace Go.Lg
section
variable {P : Program} {C : Ctx} {E : Env} {σ : St} {a : Act} {w : World} {gl : Nat → Option (List PV)} {o : Oper} {T : Nat → Option TI} {note : Note}

theorem stepOp_sound (hT : TOK P T) (hg : GOK gl C.E0.H) (h : Ga C E σ a w) (hd : ∀ d, o.dst = some d → d < C.nt) {r : R}
    (hs : stepOp T note (σ.val gl) (getO σ.objs) o.dst o.op = some r) (hc : r.cond) (hn : ∀ n x, r.wr = some (n, x) → r.new = true → n ∉ σ.used) : Sound P C E σ a w o r := by
  generalize hop : o.op = op at hs
  have hmove : ∀ x, (op = .move x ∨ op = .assign x) → stepOp T note (σ.val gl) (getO σ.objs) o.dst op = some r → Sound P C E σ a w o r := by
    intro x hx hs
    have hs' : stepMove note (σ.val gl) x = some r := by
      rcases hx with rfl | rfl <;> simpa only [stepOp] using hs
    unfold stepMove at hs'
    split at hs'
    · cases hs'
      exact sound_newArr h hd (hn _ _ rfl rfl) (by rcases hx with rfl | rfl <;> simp [hop])
    · cases hs'
      exact sound_move h hg hd (by rcases hx with rfl | rfl <;> simp [hop])
  cases op with
  | move x => exact hmove x (.inl rfl) hs
  | assign x => exact hmove x (.inr rfl) hs
  | pick c x y => exact sound_pick h hg hd hop hs
  | alloc t => exact sound_alloc h hd hT hop hs hn
  | box t x => exact sound_box h hg hd hop hs hn
  | build t parts => exact sound_build h hg hd hT hop hs
  | buildSlice t len parts => exact sound_buildSlice h hg hd hT hop hc hs hn
  | load t x => exact sound_load h hg hd hT hop hc hs
  | store t x y => exact sound_store h hg hT hop hc hs
  | nilCheck x => exact sound_nilCheck h hg hd hop hs
  | binOp b t x y t' => exact sound_bin h hg hd hT hop hc hs
  | unOp u t x =>
    cases u
    case not => exact sound_not h hg hd hop hs
    all_goals cases hs
  | makeInterface t x => exact sound_iface h hg hd hop hT hs
  | fieldAddr t x f => exact sound_fieldAddr h hg hd hT hop hs
  | indexAddr t x i => exact sound_index h hg hd hT hop hc hs
  | extract x i => exact sound_extract h hg hd hop hs
  | slice t x lo hi mx => exact sound_slice h hg hd hT hop hc hs
  | typeAssert x t0 t b => exact sound_assert h hg hd hT hop hs
  | makeFunc fn first caps =>
    cases fn with
    | func f => exact sound_makeFunc h hg hd hop hs
    | _ => cases hs
  | makeMap t r0 =>
    cases r0 with
    | none => exact sound_makeMap h hd hop hc hs hn
    | some _ => cases hs
  | mapUpdate t m k v => exact sound_mapUpdate h hg hT hop hc hs
  | call c =>
    obtain ⟨callee, args, argTypes⟩ := c
    cases callee with
    | builtin b =>
      cases b
      case len => exact sound_len h hg hd hT hop hc hs
      case append => exact sound_append h hg hd hT hop hc hs hn
      case max => exact sound_max h hg hd hop hs
      all_goals cases hs
    | value f => cases hs
    | invoke r m => cases hs
  | _ => cases hs
end
end Go.Lg
/- Contracts of functions, and their calls. -/
namespace Go.Lg

def keysO (l : List (Nat × Ob)) : List Nat := l.map (·.1)
theorem getO_some_mem {l : List (Nat × Ob)} {n : Nat} {o : Ob} (h : getO l n = some o) : n ∈ keysO l := by
  induction l with
  | nil => simp [getO] at h
  | cons p r ih =>
    obtain ⟨k, x⟩ := p
    simp only [getO] at h
    split at h
    · rename_i e; subst e; simp [keysO]
    · have := ih h; simp only [keysO, List.map_cons, List.mem_cons] at this ⊢; exact .inr this
theorem getO_of_mem {l : List (Nat × Ob)} {n : Nat} (h : n ∈ keysO l) : ∃ o, getO l n = some o := by
  induction l with
  | nil => simp [keysO] at h
  | cons p r ih =>
    obtain ⟨k, x⟩ := p
    by_cases e : k = n
    · exact ⟨x, by simp [getO, e]⟩
    · simp only [keysO, List.map_cons, List.mem_cons] at h
      rcases h with h | h
      · exact absurd h.symm e
      · obtain ⟨o, ho⟩ := ih h
        exact ⟨o, by simp [getO, e, ho]⟩

def subO : List (Nat × Ob) → List (Nat × Ob) → Prop
  | [], _ => True
  | (n, o) :: r, l => getO l n = some o ∧ subO r l
def freshL : List Nat → List Nat → Prop
  | [], _ => True
  | n :: r, u => n ∉ u ∧ freshL r u
theorem subO_spec : ∀ {objs l : List (Nat × Ob)}, subO objs l → ∀ n o, getO objs n = some o → getO l n = some o
  | [], _, _, n, o, h => by simp [getO] at h
  | (k, x) :: r, l, hs, n, o, h => by
    simp only [subO] at hs
    simp only [getO] at h
    split at h
    · rename_i e; cases h; subst e; exact hs.1
    · exact subO_spec hs.2 n o h
theorem freshL_spec : ∀ {l u : List Nat}, freshL l u → ∀ n ∈ l, n ∉ u
  | [], _, _, n, h => by simp at h
  | k :: r, u, hf, n, h => by
    simp only [freshL] at hf
    rcases List.mem_cons.1 h with rfl | h
    · exact hf.1
    · exact freshL_spec hf.2 n h

/-- the names that are spoken of -/
def mentO : List (Nat × Ob) → List Nat
  | [] => []
  | (_, o) :: r => o.names ++ mentO r
def mentL (args : List V) (objs : List (Nat × Ob)) : List Nat := namesL args ++ mentO objs
theorem mentO_mem {objs l : List (Nat × Ob)} {n : Nat} (hs : subO objs l) (h : n ∈ mentO objs) : ∃ m o, getO l m = some o ∧ n ∈ o.names := by
  induction objs with
  | nil => simp [mentO] at h
  | cons p r ih =>
    obtain ⟨k, x⟩ := p
    simp only [subO] at hs
    simp only [mentO, List.mem_append] at h
    rcases h with h | h
    · exact ⟨k, x, hs.1, h⟩
    · exact ih hs.2 h
theorem subO_congr {objs l l' : List (Nat × Ob)} (h : ∀ n ∈ keysO objs, getO l n = getO l' n) (hs : subO objs l) : subO objs l' := by
  induction objs with
  | nil => trivial
  | cons p r ih =>
    obtain ⟨k, x⟩ := p
    simp only [subO] at hs ⊢
    refine ⟨?_, ih (fun n hn => h n (by simp only [keysO, List.map_cons, List.mem_cons]; exact .inr hn)) hs.2⟩
    rw [← h k (by simp [keysO])]
    exact hs.1

/-- How a call ends. -/
inductive Out where
  | ret (x : V)
  | panic (p : PV)
def Out.names : Out → List Nat
  | .ret x => x.names
  | .panic _ => []
def OutRel (E : Env) : Out → Ending → Prop
  | .ret x, e => ∃ v, e = .returned v ∧ RepV E x v
  | .panic p, e => ∃ v, e = .panicked [{ v, recovered := false }] ∧ RepP E.H p v

structure Base (gl : Nat → Option (List PV)) (E : Env) (w : World) (objs : List (Nat × Ob)) : Prop where
  heap : HeapOK E w
  glob : GOK gl E.H
  obs : ∀ n o, getO objs n = some o → ObOK E w n o
  apart : ∀ n m o o', getO objs n = some o → getO objs m = some o' → n ≠ m → ∀ b, blk (E.g n) = some b → blk (E.g m) ≠ some b

structure Done (E : Env) (w : World) (objs : List (Nat × Ob)) (E' : Env) (w' : World) (objs' : List (Nat × Ob)) : Prop where
  heap : HeapOK E' w'
  obs : ∀ n o, getO objs' n = some o → ObOK E' w' n o
  apart : ∀ n m o o', getO objs' n = some o → getO objs' m = some o' → n ≠ m → ∀ b, blk (E'.g n) = some b → blk (E'.g m) ≠ some b
  hle : Hle E.H E'.H
  size : w.heap.size ≤ w'.heap.size
  rest : w'.os = w.os ∧ w'.tape = w.tape ∧ w'.output = w.output
  same : ∀ b, b < w.heap.size → (∀ n o, getO objs n = some o → blk (E.g n) ≠ some b) → w'.heap[b]? = w.heap[b]? ∧ E'.H b = E.H b
  own : ∀ n o b, getO objs' n = some o → blk (E'.g n) = some b → w.heap.size ≤ b ∨ ∃ m o', getO objs m = some o' ∧ blk (E.g m) = some b
  ext : ∀ n o, getO objs n = some o → EExt E E' n
  other : ∀ n, getO objs n = none → getO objs' n = none → E'.g n = E.g n ∧ E'.ver n = E.ver n ∧ E'.sz n = E.sz n

def Direct (P : Program) (f : Nat) : Prop := ∃ fn, P.funcs[f]? = some fn ∧ (fn.name == "runtime.NumGoroutine") = false ∧ fn.body.isNone = false

/-- The contract: called with these arguments and these objects, the function ends so, and the objects are these. -/
structure AC (P : Program) (gl : Nat → Option (List PV)) (f : Nat) (args : List V) (objs : List (Nat × Ob)) (out : Out) (objs' : List (Nat × Ob)) : Prop where
  direct : Direct P f
  names : ∀ n ∈ out.names, n ∈ keysO objs ∨ n ∈ keysO objs' ∨ n ∈ mentL args objs
  namesO : ∀ m o, getO objs' m = some o → ∀ n ∈ o.names, n ∈ keysO objs ∨ n ∈ keysO objs' ∨ n ∈ mentL args objs
  calls : ∀ (E : Env) (w : World) (vs : List Value), Base gl E w objs → vs.length = args.length → RepVL E args vs →
    Calls P f vs.toArray w fun e w' => ∃ E', Done E w objs E' w' objs' ∧ OutRel E' out e

/-- What an operation changes. -/
structure Eff where
  x : V
  wr : List (Nat × Option Ob)
  nw : List Nat
  rd : List Nat

def updO (l : List (Nat × Ob)) (n : Nat) : Option Ob → List (Nat × Ob)
  | some o => setO l n o
  | none => delO l n
def updAll (l : List (Nat × Ob)) : List (Nat × Option Ob) → List (Nat × Ob)
  | [] => l
  | (n, o) :: r => updAll (updO l n o) r
def St.eff (σ : St) (dst : Option Nat) (e : Eff) : St := ⟨putS dst e.x σ.slots, updAll σ.objs e.wr, e.nw ++ σ.used⟩

theorem getO_updO (l : List (Nat × Ob)) (k n : Nat) (o : Option Ob) : getO (updO l k o) n = if n = k then o else getO l n := by
  cases o with
  | none => exact getO_delO l k n
  | some o => exact getO_setO l k n o

def lookW : List (Nat × Option Ob) → Nat → Option (Option Ob)
  | [], _ => none
  | (k, o) :: r, n => match lookW r n with
    | some x => some x
    | none => if k = n then some o else none
theorem getO_updAll : ∀ (wr : List (Nat × Option Ob)) (l : List (Nat × Ob)) (n : Nat), getO (updAll l wr) n = match lookW wr n with | some o => o | none => getO l n
  | [], l, n => rfl
  | (k, o) :: r, l, n => by
    simp only [updAll, lookW]
    rw [getO_updAll r]
    cases lookW r n with
    | some x => rfl
    | none =>
      simp only
      rw [getO_updO]
      by_cases e : k = n
      · subst e; simp
      · have : ¬ n = k := fun h => e h.symm
        simp [e, this]

def callWr (objs objs' : List (Nat × Ob)) : List (Nat × Option Ob) :=
  ((keysO objs).filter (fun n => (getO objs' n).isNone)).map (fun n => (n, none)) ++ objs'.reverse.map (fun p => (p.1, some p.2))
def callEff (x : V) (objs objs' : List (Nat × Ob)) : Eff :=
  ⟨x, callWr objs objs', (keysO objs').filter (fun n => (getO objs n).isNone), keysO objs⟩

/-- a call that leaves some objects as they are -/
def callEffR (x : V) (ro objs objs' : List (Nat × Ob)) : Eff :=
  ⟨x, callWr objs objs', (keysO objs').filter (fun n => (getO objs n).isNone), keysO ro ++ keysO objs⟩

theorem lookW_append (a b : List (Nat × Option Ob)) (n : Nat) : lookW (a ++ b) n = match lookW b n with | some x => some x | none => lookW a n := by
  induction a with
  | nil => simp [lookW]; cases lookW b n <;> rfl
  | cons p r ih =>
    obtain ⟨k, o⟩ := p
    simp only [List.cons_append, lookW, ih]
    cases lookW b n <;> rfl
theorem lookW_objs (l : List (Nat × Ob)) (n : Nat) : lookW (l.reverse.map (fun p => (p.1, some p.2))) n = (getO l n).map some := by
  induction l with
  | nil => rfl
  | cons p r ih =>
    obtain ⟨k, o⟩ := p
    simp only [List.reverse_cons, List.map_append, List.map_cons, List.map_nil, lookW_append, lookW, getO, ih]
    by_cases e : k = n
    · simp [e]
    · simp [e]
theorem lookW_none (l : List Nat) (n : Nat) : lookW (l.map (fun n => (n, none))) n = if n ∈ l then some none else none := by
  induction l with
  | nil => simp [lookW]
  | cons k r ih =>
    simp only [List.map_cons, lookW, ih]
    by_cases h : n ∈ r
    · simp [h]
    · by_cases e : k = n
      · simp [e, h]
      · have : ¬ n = k := fun h => e h.symm
        simp [h, e, this]
theorem getO_callWr (l objs objs' : List (Nat × Ob)) (n : Nat) : getO (updAll l (callWr objs objs')) n =
    match getO objs' n with | some o => some o | none => if n ∈ keysO objs then none else getO l n := by
  rw [getO_updAll, callWr, lookW_append, lookW_objs, lookW_none]
  cases h : getO objs' n with
  | some o => simp
  | none =>
    by_cases hm : n ∈ keysO objs
    · simp [hm, h]
    · simp [hm]

section
variable {P : Program} {C : Ctx} {E : Env} {σ : St} {a : Act} {w : World} {gl : Nat → Option (List PV)}

/-- the state behind a call -/
theorem Ga.called (h : Ga C E σ a w) {E' : Env} {w' : World} {objs objs' : List (Nat × Ob)} (hD : Done E w objs E' w' objs') (hsub : ∀ n o, getO objs n = some o → getO σ.objs n = some o)
    (hfresh : ∀ n, n ∈ keysO objs' → n ∈ keysO objs ∨ n ∉ σ.used) {ment : List Nat} (hment : ∀ n ∈ ment, n ∈ σ.used) (hno : ∀ m o, getO objs' m = some o → ∀ n ∈ o.names, n ∈ keysO objs ∨ n ∈ keysO objs' ∨ n ∈ ment)
    {dst : Option Nat} {x : V} {v : Value} (hx : RepV E' x v) (hxn : ∀ n ∈ x.names, n ∈ keysO objs ∨ n ∈ keysO objs' ∨ n ∈ ment) (hd : ∀ d, dst = some d → d < C.nt) :
    Ga C E' (σ.eff dst (callEff x objs objs')) (a.put dst v) w' := by
  have hkey : ∀ n ∈ keysO objs, n ∈ σ.used := fun n hn => by
    obtain ⟨o, ho⟩ := getO_of_mem hn
    exact (h.usedO n o (hsub n o ho)).1
  have hused' : ∀ n, n ∈ keysO objs ∨ n ∈ keysO objs' ∨ n ∈ ment → n ∈ (callEff x objs objs').nw ++ σ.used := by
    intro n hn
    rw [List.mem_append]
    by_cases hk : n ∈ keysO objs
    · exact .inr (hkey n hk)
    · rcases hn with hn | hn | hn
      · exact absurd hn hk
      rotate_left
      · exact .inr (hment n hn)
      · left
        simp only [callEff, List.mem_filter]
        refine ⟨hn, ?_⟩
        cases e : getO objs n with
        | none => rfl
        | some o => exact absurd (getO_some_mem e) hk
  have hee : ∀ n ∈ σ.used, EExt E E' n := by
    intro n hn
    by_cases hk : n ∈ keysO objs
    · obtain ⟨o, ho⟩ := getO_of_mem hk
      exact hD.ext n o ho
    · have h1 : getO objs n = none := by
        cases e : getO objs n with
        | none => rfl
        | some o => exact absurd (getO_some_mem e) hk
      have h2 : getO objs' n = none := by
        cases e : getO objs' n with
        | none => rfl
        | some o =>
          rcases hfresh n (getO_some_mem e) with hf | hf
          · exact absurd hf hk
          · exact absurd hn hf
      obtain ⟨e1, e2, e3⟩ := hD.other n h1 h2
      exact EExt.of_eq e1 e2 e3
  have hold : ∀ t, RepV E' (getS σ.slots t) (a.tmps.getD t undef) := fun t =>
    RepV.mono hD.hle _ _ (fun n hn => hee n (h.usedS t n hn)) (h.slots t)
  have hkeep : ∀ n o, getO σ.objs n = some o → n ∉ keysO objs → getO objs' n = none ∧ E'.g n = E.g n ∧ E'.ver n = E.ver n ∧ E'.sz n = E.sz n ∧ (∀ b, blk (E.g n) = some b → w'.heap[b]? = w.heap[b]? ∧ E'.H b = E.H b) := by
    intro n o hn hk
    have h1 : getO objs n = none := by
      cases e : getO objs n with
      | none => rfl
      | some o => exact absurd (getO_some_mem e) hk
    have h2 : getO objs' n = none := by
      cases e : getO objs' n with
      | none => rfl
      | some o' =>
        rcases hfresh n (getO_some_mem e) with hf | hf
        · exact absurd hf hk
        · exact absurd (h.usedO n o hn).1 hf
    obtain ⟨e1, e2, e3⟩ := hD.other n h1 h2
    refine ⟨h2, e1, e2, e3, fun b hb => hD.same b ((h.objs n o hn).blk_lt hb) ?_⟩
    intro m o' hm hb'
    refine h.apart n m o o' hn (hsub m o' hm) ?_ b hb hb'
    intro e
    subst e
    exact hk (getO_some_mem hm)
  constructor
  · intro t
    cases dst with
    | none => exact hold t
    | some d =>
      simp only [St.eff, putS, getS, Act.put]
      by_cases e : d = t
      · subst e
        have hlt : d < a.tmps.size := by rw [h.size]; exact hd d rfl
        simp [hlt, callEff, hx]
      · simp only [e, if_false]
        have := hold t
        simpa [Array.getD_eq_getD_getElem?, Array.getElem?_setIfInBounds_ne e] using this
  · cases dst <;> simp [Act.put, h.size]
  · refine ⟨?_, fun n hn => List.mem_append.2 (.inr (h.defers.2 n hn))⟩
    have := DefOK.mono hD.hle _ _ (fun n hn => hee n (h.defers.2 n hn)) h.defers.1
    cases dst <;> simpa [Act.put] using this
  · exact hD.heap
  · intro n o hn
    simp only [St.eff, callEff, getO_callWr] at hn
    split at hn
    · rename_i o' e
      cases hn
      exact hD.obs n _ e
    · split at hn
      · cases hn
      · rename_i hk
        obtain ⟨_, e1, e2, e3, e4⟩ := hkeep n o hn hk
        exact (h.objs n o hn).mono hD.hle e1 e2 e3 (fun m hm => hee m ((h.usedO n o hn).2 m hm)) e4
  · have key : ∀ n o m o', getO objs' n = some o → getO σ.objs m = some o' → m ∉ keysO objs → ∀ b, blk (E'.g n) = some b → blk (E'.g m) ≠ some b := by
      intro n o m o' hn hm hk b hb hb'
      obtain ⟨_, e1, _, _, _⟩ := hkeep m o' hm hk
      rw [e1] at hb'
      rcases hD.own n o b hn hb with hge | ⟨q, oq, hq, hbq⟩
      · have := (h.objs m o' hm).blk_lt hb'; omega
      · refine h.apart m q o' oq hm (hsub q oq hq) ?_ b hb' hbq
        intro e
        subst e
        exact hk (getO_some_mem hq)
    intro n m o o' hn hm hne b hb hb'
    simp only [St.eff, callEff, getO_callWr] at hn hm
    split at hn
    · rename_i on en
      cases hn
      split at hm
      · rename_i om em
        cases hm
        exact hD.apart n m _ _ en em hne b hb hb'
      · split at hm
        · cases hm
        · rename_i hk
          exact key n _ m o' en hm hk b hb hb'
    · split at hn
      · cases hn
      · rename_i hkn
        split at hm
        · rename_i om em
          cases hm
          exact key m _ n o em hn hkn b hb' hb
        · split at hm
          · cases hm
          · rename_i hkm
            rw [(hkeep n o hn hkn).2.1] at hb
            rw [(hkeep m o' hm hkm).2.1] at hb'
            exact h.apart n m o o' hn hm hne b hb hb'
  · intro t n hn
    cases dst with
    | none => exact List.mem_append.2 (.inr (h.usedS t n hn))
    | some d =>
      simp only [St.eff, putS, getS] at hn
      split at hn
      · exact hused' n (hxn n hn)
      · exact List.mem_append.2 (.inr (h.usedS t n hn))
  · intro n o hn
    simp only [St.eff, callEff, getO_callWr] at hn
    split at hn
    · rename_i o' e
      cases hn
      exact ⟨hused' n (.inr (.inl (getO_some_mem e))), fun m hm => hused' m (hno n _ e m hm)⟩
    · split at hn
      · cases hn
      · exact ⟨List.mem_append.2 (.inr (h.usedO n o hn).1), fun m hm => List.mem_append.2 (.inr ((h.usedO n o hn).2 m hm))⟩
  · exact fun n o hn => List.mem_append.2 (.inr (h.usedG n o hn))
  · exact Nat.le_trans h.grown hD.size
  · exact ⟨hD.rest.1.trans h.rest.1, hD.rest.2.1.trans h.rest.2.1, hD.rest.2.2.trans h.rest.2.2⟩
  · intro b hb hF
    obtain ⟨h1, h2⟩ := h.same b hb hF
    obtain ⟨h3, h4⟩ := hD.same b (Nat.lt_of_lt_of_le hb h.grown) (fun n o hn e => hF (h.own n o b (hsub n o hn) e hb))
    exact ⟨h3.trans h1, h4.trans h2⟩
  · exact h.hle.trans hD.hle
  · intro n o b hn hb hlt
    simp only [St.eff, callEff, getO_callWr] at hn
    split at hn
    · rename_i o' e
      cases hn
      rcases hD.own n _ b e hb with hge | ⟨m, om, hm, hbm⟩
      · have := h.grown; omega
      · exact h.own m om b (hsub m om hm) hbm hlt
    · split at hn
      · cases hn
      · rename_i hk
        rw [(hkeep n o hn hk).2.1] at hb
        exact h.own n o b hn hb hlt
  · intro n o hn
    exact (h.ext n o hn).trans (hee n (h.usedG n o hn))
  · intro n hn
    obtain ⟨k1, k2, k3, k4, k5⟩ := h.keep n hn
    have hk : n ∉ keysO objs := by
      intro hk
      obtain ⟨o, ho⟩ := getO_of_mem hk
      rw [hsub n o ho] at k2; cases k2
    have h1 : getO objs n = none := by
      cases e : getO objs n with
      | none => rfl
      | some o => exact absurd (getO_some_mem e) hk
    have h2 : getO objs' n = none := by
      cases e : getO objs' n with
      | none => rfl
      | some o =>
        rcases hfresh n (getO_some_mem e) with hf | hf
        · exact absurd hf hk
        · exact absurd k1 hf
    obtain ⟨e1, e2, e3⟩ := hD.other n h1 h2
    refine ⟨List.mem_append.2 (.inr k1), ?_, e1.trans k3, e2.trans k4, e3.trans k5⟩
    simp only [St.eff, callEff, getO_callWr, h2, hk, if_false]
    exact k2
end
end Go.Lg
