/- Part of the proof: contracts of the machine's step and of its run; no conditions. -/
import Derived.Test.YtodjpfpmhjdhbaaGreatDoorCallsD8
import Derived.Test.YtodjpfpmhjdhbaaGreatDoorCallsA4
import Derived.Test.YtodjpfpmhjdhbaaGreatDoorCallsB1
set_option linter.unusedVariables false
set_option linter.unusedSimpArgs false
set_option linter.unusedSectionVars false
namespace Go.Proofs.YtodjpfpmhjdhbaaGreatDoor
open Go.Lg
set_option maxRecDepth 10000
set_option maxHeartbeats 4000000
theorem catch_66 (e : Nat) : Catches Tryz.prog gl 112 [.loc 4 0, .loc 5 0] [(4, .box [.pv .nil]), (5, .box [.pv (.int 0)])] (fail e) [(4, .box [.pv .nil]), (5, .box [.pv (.int e)])] := by
  refine catches_of (X := XX [] 13 [4, 5]) (fc := 112) (fn := Tryz.f112) (tr := 5) Tryz.func112 rfl Tryz.ntmps112 (fun _ _ => rfl) rfl rfl (by decide) (x := .pv (.tuple [])) rfl (by decide) (by simp [subL, namesL, V.names, namesOb, Ob.names, keysO]) (by simp [subL, namesL, V.names, namesOb, Ob.names, keysO]) ?_
  unfold fail
  simp only [keysO, List.map_cons, List.map_nil]
  refine gg ?_
  refine ⟨by rfl, ?_⟩
  refine gg ?_
  exact ⟨by simp [retIs, resV, resL, resOne, mkTup, getS, getO, rdV, mkAgg, unL, V.un, TI.isAgg, XX_T, tt30, Tryz.f112], by simp [subO, getO, tt30, Tryz.f112]⟩
end Go.Proofs.YtodjpfpmhjdhbaaGreatDoor
namespace Go.Proofs.YtodjpfpmhjdhbaaGreatDoor
open Go.Lg
set_option maxRecDepth 10000
set_option maxHeartbeats 4000000
theorem eq_nil (ρ : Operand → Value) (h : ρ (.tmp 5) = .nilIface) (hc : ρ (.const .nilIface) = .nilIface) (w : World) : (execOp ρ ({ dst := some 7, op := Op.binOp BinOp.eql 20 (Operand.tmp 5) (Operand.const Value.nilIface) 20, type := 4, pos := "run.go:296", after := #[], guard := none } : Oper)).run Tryz.prog w = .ok (.value (.bool true)) w := by
  have hT := (XX [] 13 []).ok
  have hti : TIOK Tryz.prog 20 _ := hT 20 _ tt20
  obtain ⟨d, hd, hk⟩ := hti.desc
  simp only [TKOK] at hk
  have heq : (Op.equal 20 .nilIface .nilIface).run Tryz.prog w = .ok true w := run_equal fun d => by
    obtain ⟨ms, rfl⟩ := hk
    simp [Op.equalIn, run_underlying hd]
  have hg : (eqGuard BinOp.eql 20 (Operand.tmp 5) (Operand.const Value.nilIface) Value.nilIface Value.nilIface).run Tryz.prog w = .ok () w := by
    simp [eqGuard]
  simp [execOp, h, hc, hg, binOp, heq]

theorem idle_66 : Idles Tryz.prog 112 2 := by
  intro w vs hl
  obtain ⟨x, y, rfl⟩ : ∃ x y, vs = [x, y] := by
    match vs, hl with
    | [x, y], _ => exact ⟨x, y, rfl⟩
  refine callsD_of_wpS (P := Tryz.prog) (fn := Tryz.f112) Tryz.func112 rfl fun c₀ cs hu => ?_
  apply wpS_seq
  apply wpS_region
  simp only [List.size_toArray, List.length_cons, List.length_nil, Nat.zero_add, List.range_succ, List.range_zero, List.nil_append]
  simp only [wpOpsS, List.getElem?_toArray, List.getElem?_cons_zero, Region.wanted, if_true]
  have hrec : ∀ ρ w, (execOp ρ ({ dst := some 5, op := Op.call { callee := Callee.builtin Builtin.recover, args := #[], argTypes := #[] }, type := 0, pos := "run.go:296", after := #[], guard := none } : Oper)).run Tryz.prog w = .ok .recover w := fun _ _ => rfl
  simp only [hrec, recoverD, hu, Exit.thenS]
  refine wpS_of_wp ?_
  have hta : ({ tmps := #[x, y] ++ Array.replicate (Tryz.f112.ntmps - (1 + 1)) undef, defers := [] } : Act).put (some 5) Value.nilIface = { tmps := #[x, y, undef, undef, undef, .nilIface, undef, undef, undef, undef, undef, undef, undef], defers := [] } := rfl
  rw [hta]
  clear hta hrec hl
  generalize hQ : (fun (e : Exit) (a' : Act) (w' : World) => bodyPostS Tryz.prog Tryz.f112 c₀ cs (fun e u' w' => (∃ r, e = Ending.returned r) ∧ u' = FrameMode.returning ∧ w' = w) e a' (c₀ :: cs) w') = Q
  have hend : ∀ a' : Act, a'.defers = [] → Q .normal a' w := by
    intro a' ha
    rw [← hQ]
    refine ⟨ha, .returning, by rw [← hu], .tuple #[], ?_, ⟨_, rfl⟩, rfl, rfl⟩
    simp [results, Tryz.f112]
  clear hQ hu
  apply wp_block
  apply wp_seq
  apply wp_region_list
  refine wpList_plain rfl fun K hK => ?_
  unfold Oper.wp
  rw [eq_nil _ rfl rfl, Oper.upon_value]
  apply hK
  show Code.wp _ _ _ _ _
  refine wp_cond_true rfl ?_
  apply wp_region_list
  refine wpList_plain rfl fun K hK => ?_
  unfold Oper.wp
  have hm : ∀ ρ w, (execOp ρ ({ dst := some 2, op := Op.assign (Operand.tmp 5), type := 20, pos := "run.go:296", after := #[], guard := none } : Oper)).run Tryz.prog w = .ok (.value (ρ (.tmp 5))) w := fun _ _ => rfl
  rw [hm, Oper.upon_value]
  apply hK
  exact hend _ rfl
end Go.Proofs.YtodjpfpmhjdhbaaGreatDoor
namespace Go.Proofs.YtodjpfpmhjdhbaaGreatDoor
open Go.Lg
set_option maxRecDepth 10000
set_option maxHeartbeats 4000000
def resO : List (Nat × Ob) := [(4, .box [.pv .nil]), (5, .box [.pv (.int 0)])]
def gO (c : List Ins) (l : Nat) (m : Ms) : List (Nat × Ob) := (mO c l m ++ rdO m.frames) ++ resO
def gU (m : Ms) : List Nat := 4 :: 5 :: 901 :: 902 :: 903 :: frN (m.frames ++ m.fg)
def GS (c : List Ins) (l : Nat) (S : List (Nat × V)) (m : Ms) : St := ⟨S, gO c l m, gU m⟩
theorem keys_mr (c : List Ins) (l : Nat) (m : Ms) : keysO (mO c l m ++ rdO m.frames) = [901, 902, 903] ++ frN m.frames := by rw [keysO_app, keys_mO, rdO_keys]
theorem mr_not {c : List Ins} {l : Nat} {m : Ms} (hnm : Nm m) {k : Nat} (hk : k < 900) : k ∉ keysO (mO c l m ++ rdO m.frames) := by
  rw [keys_mr]
  intro h
  rcases List.mem_append.1 h with h | h
  · simp at h; omega
  · have := hnm.lo k (by rw [frN_app]; exact List.mem_append.2 (.inl h))
    omega
theorem sub_gO {c : List Ins} {l : Nat} {m : Ms} {objs : List (Nat × Ob)} (h : subO objs (mO c l m ++ rdO m.frames)) : subO objs (gO c l m) := by
  refine subO_congr (l := mO c l m ++ rdO m.frames) ?_ h
  intro n hn
  obtain ⟨o, ho⟩ := getO_of_mem hn
  have := subO_spec h n o ho
  unfold gO
  rw [getO_app (mO c l m ++ rdO m.frames), this]
theorem sub_keys {objs L : List (Nat × Ob)} (h : subO objs L) : ∀ k ∈ keysO objs, k ∈ keysO L := by
  intro k hk
  obtain ⟨o, ho⟩ := getO_of_mem hk
  exact getO_some_mem (subO_spec h k o ho)
theorem freshL_of {l u : List Nat} (h : ∀ n ∈ l, n ∉ u) : freshL l u := by
  induction l with
  | nil => trivial
  | cons a l ih => exact ⟨h a (by simp), ih (fun n hn => h n (by simp [hn]))⟩
theorem fresh_gU {m : Ms} (hnm : Nm m) {objs objs' : List (Nat × Ob)} (h : ∀ k ∈ keysO objs', k ∈ keysO objs ∨ k = 1000 + m.steps) : freshL ((keysO objs').filter (fun n => (getO objs n).isNone)) (gU m) := by
  refine freshL_of fun n hn => ?_
  rw [List.mem_filter] at hn
  rcases h n hn.1 with h1 | rfl
  · obtain ⟨o, ho⟩ := getO_of_mem h1
    rw [ho] at hn
    simp at hn
  · intro hu
    simp only [gU, List.mem_cons] at hu
    rcases hu with hu | hu | hu | hu | hu | hu <;> try omega
    have := hnm.hi _ hu
    omega
theorem rdO_names (l : List Fr) : ∀ n ∈ namesOb (rdO l), n ∈ frN l := by
  intro n hn
  rw [← rdO_keys]
  have key : ∀ (L : List (Nat × Ob)), (∀ p ∈ L, p.2.names = []) → ∀ n ∈ namesOb L, n ∈ keysO L := by
    intro L
    induction L with
    | nil => intro _ n hn; exact hn
    | cons p r ih =>
      obtain ⟨k, o⟩ := p
      intro hL n hn
      have h0 := hL (k, o) (by simp)
      simp only at h0
      simp only [namesOb, h0, List.nil_append, List.cons_append, List.append_nil, List.mem_cons, List.mem_append, List.not_mem_nil, or_false, false_or] at hn
      simp only [keysO, List.map_cons, List.mem_cons]
      rcases hn with hh | hh
      · exact .inl hh
      · exact .inr (ih (fun p hp => hL p (by simp [hp])) n hh)
  refine key (rdO l) ?_ n hn
  intro p hp
  simp only [rdO, List.mem_filterMap, Option.map_eq_some_iff] at hp
  obtain ⟨fr, _, q, _, rfl⟩ := hp
  exact rB_names _ _
theorem gO_names (c : List Ins) (l : Nat) (m : Ms) : ∀ n ∈ namesOb (gO c l m), n ∈ gU m := by
  intro n hn
  unfold gO at hn
  rw [namesOb_app, namesOb_app] at hn
  simp only [gU, List.mem_cons]
  rcases List.mem_append.1 hn with hn | hn
  · rcases List.mem_append.1 hn with hn | hn
    · have := namesOb_mO c l m n hn
      simp only [List.mem_append, List.mem_cons, List.not_mem_nil, or_false] at this
      rcases this with (h | h | h) | h
      all_goals simp [h]
    · have := rdO_names _ n hn
      rw [frN_app]
      simp [this]
  · simp [resO, namesOb, Ob.names, namesL, V.names] at hn
    omega
theorem GS_weak {nm : List (Nat × Note)} {nt : Nat} {c : List Ins} {l : Nat} {m m' : Ms} {S S' : List (Nat × V)} {U : List Nat} {objs objs' : List (Nat × Ob)} (hnm : Nm m) (hnm' : Nm m') (hsub : subO objs (mO c l m ++ rdO m.frames))
    (hkeys : ∀ k ∈ keysO objs', k ∈ keysO objs ∨ k = 1000 + m.steps)
    (hget : ∀ k o, getO (mO c l m' ++ rdO m'.frames) k = some o → getO objs' k = some o ∨ (getO objs' k = none ∧ k ∉ keysO objs ∧ getO (mO c l m ++ rdO m.frames) k = some o))
    (hS : slotsLe S S') (hSn : ∀ n ∈ namesSl S, n ∈ [901, 4, 5]) : Weak (XX nm nt [901, 4, 5]) ⟨S', updAll (gO c l m) (callWr objs objs'), U⟩ (GS c l S m') := by
  refine ⟨hS, ?_, ?_⟩
  · refine subO_mem ?_
    have low : ∀ p ∈ resO, getO (updAll (gO c l m) (callWr objs objs')) p.1 = some p.2 := by
      intro p hp
      have hp1 : p.1 < 900 := by
        simp only [resO, List.mem_cons, List.not_mem_nil, or_false] at hp
        rcases hp with rfl | rfl <;> decide
      have h1 : p.1 ∉ keysO objs := fun h => mr_not (c := c) (l := l) hnm hp1 (sub_keys hsub _ h)
      have h2 : getO objs' p.1 = none := getO_none (fun h => by
        rcases hkeys _ h with h | h
        · exact h1 h
        · omega)
      rw [getO_callWr, h2]
      simp only [h1, if_false]
      unfold gO
      rw [getO_app, getO_none (mr_not (c := c) (l := l) hnm hp1)]
      exact getO_nodup (by decide) p hp
    intro p hp
    simp only [GS, gO] at hp
    rcases List.mem_append.1 hp with hp | hp
    · have hnd : (keysO (mO c l m' ++ rdO m'.frames)).Nodup := by
        rw [keys_mr, List.nodup_append]
        refine ⟨by decide, hnm'.nd, ?_⟩
        intro a ha b hb e
        subst e
        have := hnm'.lo a (by rw [frN_app]; exact List.mem_append.2 (.inl hb))
        simp at ha
        omega
      have hg := getO_nodup hnd p hp
      rw [getO_callWr]
      rcases hget _ _ hg with h | ⟨h1, h2, h3⟩
      · rw [h]
      · rw [h1]
        simp only [h2, if_false]
        unfold gO
        rw [getO_app, h3]
    · exact low p hp
  · rw [subL_iff]
    intro n hn
    simp only [XX_given, List.mem_append] at hn
    show n ∈ gU m'
    rcases hn with (hn | hn) | hn
    · have := hSn n hn
      simp [gU] at this ⊢
      omega
    · exact gO_names c l m' n hn
    · simp [gU] at hn ⊢
      omega
theorem resGo (nm : List (Nat × Note)) (gv : List Nat) (σ : St) (x : PV) (e : Int) (h4 : getS σ.slots 4 = .loc 4 0) (h5 : getS σ.slots 5 = .loc 5 0) (o4 : getO σ.objs 4 = some (.box [.pv x])) (o5 : getO σ.objs 5 = some (.box [.pv (.int e)])) (hx : x.one = true) :
    resV (XX nm 38 gv) σ Tryz.f84.results.toList = some (.pv (.tuple [x, .int e])) := by
  have v1 := vcells_one hx
  have o1 : (V.pv x).one = true := by rw [one_pv]; exact hx
  show resV (XX nm 38 gv) σ [.cell 4 132, .cell 5 36] = _
  simp only [resV, resL, resOne, XX_T, tt132, tt36, h4, h5, o4, o5, List.drop_zero, TI.isAgg, rdV, vcells, List.take_succ_cons, List.take_zero, List.take_nil, mkTup, unL, V.un, Option.map_some, Bool.false_eq_true, if_false]
end Go.Proofs.YtodjpfpmhjdhbaaGreatDoor
namespace Go.Proofs.YtodjpfpmhjdhbaaGreatDoor
open Go.Lg
set_option maxRecDepth 10000
set_option maxHeartbeats 4000000
def ErrSt (σ : St) : Prop := getS σ.slots 4 = .loc 4 0 ∧ getS σ.slots 5 = .loc 5 0 ∧ getO σ.objs 4 = some (.box [.pv .nil]) ∧ getO σ.objs 5 = some (.box [.pv (.int 0)])
theorem rescue_err {e : Nat} {σ : St} (h : ErrSt σ) : rescueQ (XX [] 38 [901]) Tryz.f84.results.toList 112 [.loc 4 0, .loc 5 0] (.pv (.tuple [.nil, .int e])) [] (.panic (fail e)) σ := by
  obtain ⟨h4, h5, o4, o5⟩ := h
  have hsub : subO [(4, .box [.pv .nil]), (5, .box [.pv (.int 0)])] σ.objs := ⟨o4, o5, trivial⟩
  refine ⟨_, _, catch_66 e, hsub, rfl, rfl, ?_, trivial⟩
  refine resGo [] [901] _ .nil e h4 h5 ?_ ?_ rfl
  · simp only [St.eff, callEff]
    rw [getO_callWr]
    rfl
  · simp only [St.eff, callEff]
    rw [getO_callWr]
    rfl
theorem errSt_of {c : List Ins} {l : Nat} {m : Ms} {objs : List (Nat × Ob)} {S : List (Nat × V)} {U : List Nat} (hnm : Nm m) (hsub : subO objs (mO c l m ++ rdO m.frames)) (h4 : getS S 4 = .loc 4 0) (h5 : getS S 5 = .loc 5 0) :
    ErrSt ⟨S, updAll (gO c l m) (callWr objs []), U⟩ := by
  have low : ∀ k o, k < 900 → getO resO k = some o → getO (updAll (gO c l m) (callWr objs [])) k = some o := by
    intro k o hk ho
    have h1 : k ∉ keysO objs := fun h => mr_not (c := c) (l := l) hnm hk (sub_keys hsub _ h)
    rw [getO_callWr]
    simp only [getO, h1, if_false]
    unfold gO
    rw [getO_app (mO c l m ++ rdO m.frames), getO_none (mr_not (c := c) (l := l) hnm hk)]
    exact ho
  exact ⟨h4, h5, low 4 _ (by decide) rfl, low 5 _ (by decide) rfl⟩
structure Inv (l b : Nat) (m : Ms) : Prop where
  nm : Nm m
  ok : Okm (b + m.steps) m
  le : m.steps ≤ l
/-- one step, with what holds -/
theorem Inv.step {c : List Ins} {l b : Nat} {m : Ms} {r : Res} (hcode : Okc c) (hl : b + l ≤ 700000) (hi : Inv l b m) (h : m.step c l (1000 + m.steps) = some r) :
    StepR c l m r ∧ (∀ m', r = .go m' ∨ r = .stop m' → Inv l b m' ∧ l - m'.steps < l - m.steps) := by
  obtain ⟨h1, h2, h3⟩ := step_steps h
  have hle := hi.le
  have hokr := hi.ok.step h
  by_cases e : m.steps = l
  · obtain rfl := h2 e
    exact ⟨step_full_limit c l m e hi.nm, fun m' hm => by rcases hm with h | h <;> cases h⟩
  · have hat := h3 e
    have hp : m.at_ = ((m.at_.toNat : Nat) : Int) := by omega
    have hpl : m.at_.toNat ≤ 1000000 := by
      unfold Ms.step at h
      rw [if_neg e, if_neg (by omega)] at h
      split at h
      · cases h
      · rename_i op a hc
        exact (hcode _ _ _ hc).1
    have hfull := step_full c l m m.at_.toNat hp e (by omega) hpl hi.nm (b0 := b + m.steps) (by omega) hi.ok hcode r h
    refine ⟨hfull, ?_⟩
    rintro m' (rfl | rfl)
    · obtain ⟨objs, objs', -, -, -, -, hnm'⟩ := hfull
      simp only [Sts] at h1
      simp only [Okr] at hokr
      exact ⟨⟨hnm', by rw [h1]; exact hokr, by omega⟩, by omega⟩
    · obtain ⟨objs, objs', -, -, -, -, hnm'⟩ := hfull
      simp only [Sts] at h1
      simp only [Okr] at hokr
      exact ⟨⟨hnm', by rw [h1]; exact hokr, by omega⟩, by omega⟩
noncomputable def c49 : Code := Tryz.f84.body.getD .skip
noncomputable def lp49 : Code := left (right (right c49))
theorem names_S1 (av : PV) : ∀ n ∈ namesSl [(0, .loc 901 0), (1, .pv av), (4, .loc 4 0), (5, .loc 5 0)], n ∈ [901, 4, 5] := by
  intro n hn
  simp [namesSl, V.names] at hn ⊢
  omega
theorem GS_refl {nm : List (Nat × Note)} {nt : Nat} {c : List Ins} {l : Nat} {m : Ms} {S : List (Nat × V)} (hnm : Nm m) (hSn : ∀ n ∈ namesSl S, n ∈ [901, 4, 5]) (hS : slotsLe S S) : Weak (XX nm nt [901, 4, 5]) (GS c l S m) (GS c l S m) := by
  have := GS_weak (nm := nm) (nt := nt) (c := c) (l := l) (S := S) (S' := S) (U := gU m) (objs := []) (objs' := []) hnm hnm trivial (by simp [keysO]) (fun k o h => .inr ⟨rfl, by simp [keysO], h⟩) hS hSn
  exact this
theorem loop1 (c : List Ins) (l b : Nat) (hcode : Okc c) (hl : b + l ≤ 700000) (av : PV) (r : Res) (m : Ms) (hi : Inv l b m) (hr : Runs c l m r) (Q : AEx → St → Prop)
    (hstop : ∀ m1 σ, r = .stop m1 → Inv l b m1 → Weak (XX [] 38 [901, 4, 5]) σ (GS c l [(0, .loc 901 0), (1, .pv av), (4, .loc 4 0), (5, .loc 5 0)] m1) → Q .normal σ) (herr : ∀ e σ, r = .err e → ErrSt σ → Q (.panic (fail e)) σ) :
    AWP (XX [] 38 [901, 4, 5]) lp49 (GS c l [(0, .loc 901 0), (1, .pv av), (4, .loc 4 0), (5, .loc 5 0)] m) Q := by
  simp only [lp49, c49, Tryz.f84, Option.getD_some, left, right]
  refine ex_block ?_
  refine AWP.loop (ι := { m : Ms // Inv l b m ∧ Runs c l m r }) (fun i => GS c l [(0, .loc 901 0), (1, .pv av), (4, .loc 4 0), (5, .loc 5 0)] i.1) (fun i => l - i.1.steps) ⟨m, hi, hr⟩ ?_ ?_
  · exact GS_refl hi.nm (names_S1 av) (by simp [slotsLe, getS])
  · rintro ⟨m, hi, hr⟩
    simp only
    have hs : ∃ q, m.step c l (1000 + m.steps) = some q := by cases hr <;> exact ⟨_, by assumption⟩
    obtain ⟨q, hq⟩ := hs
    obtain ⟨hfull, hnext⟩ := hi.step hcode hl hq
    have hfg := fun (objs objs' : List (Nat × Ob)) h => fresh_gU (objs := objs) (objs' := objs') hi.nm h
    unfold GS
    refine gg ?_
    cases q with
    | err e =>
      obtain ⟨objs, hac, hsub⟩ := hfull
      have hre : r = .err e := by
        cases hr with
        | stop h => rw [h] at hq; cases hq
        | err h => rw [h] at hq; cases hq; rfl
        | go h _ => rw [h] at hq; cases hq
      have hst : ErrSt ⟨[(10, .loc 901 0), (0, .loc 901 0), (1, .pv av), (4, .loc 4 0), (5, .loc 5 0)], updAll (gO c l m) (callWr objs []), [] ++ gU m⟩ := errSt_of hi.nm hsub rfl rfl
      refine runOps_call_panic (X := XX [] 38 [901, 4, 5]) hac (by simp only [dstOK, XX_nt]; decide) rfl rfl (sub_gO hsub) trivial (σ' := ⟨[(10, .loc 901 0), (0, .loc 901 0), (1, .pv av), (4, .loc 4 0), (5, .loc 5 0)], updAll (gO c l m) (callWr objs []), [] ++ gU m⟩) rfl ?_
      simp only [thenQ_panic, blockQ_panic]
      exact herr e _ hre hst
    | go m' =>
      obtain ⟨objs, objs', hac, hsub, hkeys, hget, hnm'⟩ := hfull
      have hrm : Runs c l m' r := by
        cases hr with
        | stop h => rw [h] at hq; cases hq
        | err h => rw [h] at hq; cases hq
        | go h h' => rw [h] at hq; cases hq; exact h'
      have hn := hnext m' (.inl rfl)
      have hw := fun (S' : List (Nat × V)) (U : List Nat) hS => GS_weak (nm := []) (nt := 38) (c := c) (l := l) (S := [(0, .loc 901 0), (1, .pv av), (4, .loc 4 0), (5, .loc 5 0)]) (S' := S') (U := U) hi.nm hnm' hsub hkeys hget hS (names_S1 av)
      refine runOps_call (X := XX [] 38 [901, 4, 5]) hac (by simp only [dstOK, XX_nt]; decide) rfl rfl (sub_gO hsub) (hfg _ _ hkeys) (σ' := ⟨[(11, .pv (.bool true)), (10, .loc 901 0), (0, .loc 901 0), (1, .pv av), (4, .loc 4 0), (5, .loc 5 0)], updAll (gO c l m) (callWr objs objs'), (keysO objs').filter (fun n => (getO objs n).isNone) ++ gU m⟩) rfl rfl ?_
      generalize updAll (gO c l m) (callWr objs objs') = O1 at *
      generalize (keysO objs').filter (fun n => (getO objs n).isNone) ++ gU m = U1 at *
      refine gg ?_
      exact ⟨⟨m', hn.1, hrm⟩, hn.2, hw _ _ (by simp [slotsLe, getS])⟩
    | stop m' =>
      obtain ⟨objs, objs', hac, hsub, hkeys, hget, hnm'⟩ := hfull
      have hrm : r = .stop m' := by
        cases hr with
        | stop h => rw [h] at hq; cases hq; rfl
        | err h => rw [h] at hq; cases hq
        | go h h' => rw [h] at hq; cases hq
      have hn := hnext m' (.inr rfl)
      have hw := fun (S' : List (Nat × V)) (U : List Nat) hS => GS_weak (nm := []) (nt := 38) (c := c) (l := l) (S := [(0, .loc 901 0), (1, .pv av), (4, .loc 4 0), (5, .loc 5 0)]) (S' := S') (U := U) hi.nm hnm' hsub hkeys hget hS (names_S1 av)
      refine runOps_call (X := XX [] 38 [901, 4, 5]) hac (by simp only [dstOK, XX_nt]; decide) rfl rfl (sub_gO hsub) (hfg _ _ hkeys) (σ' := ⟨[(11, .pv (.bool false)), (10, .loc 901 0), (0, .loc 901 0), (1, .pv av), (4, .loc 4 0), (5, .loc 5 0)], updAll (gO c l m) (callWr objs objs'), (keysO objs').filter (fun n => (getO objs n).isNone) ++ gU m⟩) rfl rfl ?_
      generalize updAll (gO c l m) (callWr objs objs') = O1 at *
      generalize (keysO objs').filter (fun n => (getO objs n).isNone) ++ gU m = U1 at *
      refine gg ?_
      exact hstop m' _ hrm hn.1 (hw _ _ (by simp [slotsLe, getS]))
end Go.Proofs.YtodjpfpmhjdhbaaGreatDoor
namespace Go.Proofs.YtodjpfpmhjdhbaaGreatDoor
open Go.Lg
set_option maxRecDepth 10000
set_option maxHeartbeats 4000000
def mE (c : List Ins) (l k : Nat) : Ob := .box [.pv (.slice (c.map insP)), .pv (.int l), .pv (.int k), .undef, .undef, .undef, .undef, .undef, .undef]
theorem GS_less {nm : List (Nat × Note)} {nt : Nat} {c : List Ins} {l : Nat} {m : Ms} {S : List (Nat × V)} (hnm : Nm m) (hS : slotsLe [(0, .loc 901 0), (4, .loc 4 0), (5, .loc 5 0)] S) :
    Weak (XX nm nt [901, 4, 5]) (GS c l S m) ⟨[(0, .loc 901 0), (4, .loc 4 0), (5, .loc 5 0)], [(901, mB c l m), (902, mS m), (4, .box [.pv .nil]), (5, .box [.pv (.int 0)])], [4, 5, 901, 902, 903]⟩ := by
  have h4 := getO_none (mr_not (c := c) (l := l) hnm (k := 4) (by decide))
  have h5 := getO_none (mr_not (c := c) (l := l) hnm (k := 5) (by decide))
  refine ⟨hS, ?_, ?_⟩
  · refine ⟨rfl, rfl, ?_, ?_, trivial⟩
    · show getO (gO c l m) 4 = _
      unfold gO
      rw [getO_app (mO c l m ++ rdO m.frames), h4]
      rfl
    · show getO (gO c l m) 5 = _
      unfold gO
      rw [getO_app (mO c l m ++ rdO m.frames), h5]
      rfl
  · rw [subL_iff]
    intro n hn
    simp only [XX_given, namesSl, V.names, namesOb, mB_names, mS_names, obn_box, namesL, List.mem_append, List.mem_cons, List.not_mem_nil, or_false, false_or, List.append_nil, List.nil_append, List.cons_append] at hn ⊢
    grind
noncomputable def tl49 : Code := right (right (right (right c49)))
theorem tail49 (c : List Ins) (l b : Nat) (hl : b + l ≤ 700000) (m m' : Ms) (x : It) (hi : Inv l b m) (hpop : m.pop = some (x, m')) (S : List (Nat × V)) (hS : slotsLe [(0, .loc 901 0), (4, .loc 4 0), (5, .loc 5 0)] S) :
    AWP (XX [] 38 [901, 4, 5]) tl49 (GS c l S m) (rescueQ (XX [] 38 [901]) Tryz.f84.results.toList 112 [.loc 4 0, .loc 5 0] (.pv (.tuple [itP x, .int 0])) [(901, mE c l m.steps)]) := by
  refine AWP.weaken (GS_less hi.nm hS) ?_
  obtain ⟨s, hs, -⟩ := pop_inv hpop
  have hle := hi.le
  have hlen := hi.ok.len
  have p1 := pop_ok c l m s x hs (by omega)
  have q1 := vcells_one (itP_one x)
  have q3 : (V.pv (itP x)).one = true := by rw [one_pv]; exact itP_one x
  have q4 := itP_one x
  refine AWP.fgt ?_
  have hres : ∀ (σ : St) (y : PV) (e : Int), getS σ.slots 4 = .loc 4 0 → getS σ.slots 5 = .loc 5 0 → getO σ.objs 4 = some (.box [.pv y]) → getO σ.objs 5 = some (.box [.pv (.int e)]) → y.one = true → resV (XX [] 38 [901]) σ Tryz.f84.results.toList = some (.pv (.tuple [y, .int e])) := fun σ y e => resGo [] [901] σ y e
  generalize hRQ : rescueQ (XX [] 38 [901]) Tryz.f84.results.toList = RQ
  have hfin : ∀ (σ : St) (cs : List V), getO σ.objs 901 = some (.box cs) → cs.length = 9 → cs[0]? = some (.pv (.slice (c.map insP))) → cs[1]? = some (.pv (.int l)) → cs[2]? = some (.pv (.int m.steps)) → getS σ.slots 4 = .loc 4 0 → getS σ.slots 5 = .loc 5 0 → getO σ.objs 4 = some (.box [.pv (itP x)]) → getO σ.objs 5 = some (.box [.pv (.int 0)]) →
      ∃ σ2, Fgt σ σ2 ∧ RQ 112 [.loc 4 0, .loc 5 0] (.pv (.tuple [itP x, .int 0])) [(901, mE c l m.steps)] .ret σ2 := by
    intro σ cs h1 h2 h3 h4 h5 h6 h7 h8 h9
    refine ⟨_, Fgt.box (n := 901) (cs' := [.pv (.slice (c.map insP)), .pv (.int l), .pv (.int m.steps), .undef, .undef, .undef, .undef, .undef, .undef]) h1 (by rw [h2]; rfl) ?_, ?_⟩
    · intro i y hy
      match i with
      | 0 => right; rw [h3]; exact hy
      | 1 => right; rw [h4]; exact hy
      | 2 => right; rw [h5]; exact hy
      | 3 | 4 | 5 | 6 | 7 | 8 => left; cases hy; rfl
      | n + 9 => cases hy
    · rw [← hRQ]
      refine ⟨hres _ _ _ h6 h7 ?_ ?_ q4, ?_, trivial⟩
      · rw [getO_setO]; exact h8
      · rw [getO_setO]; exact h9
      · rw [getO_setO]; rfl
  simp only [tl49, c49, Tryz.f84, Option.getD_some, right]
  clear hRQ hres hi hpop hs hlen
  simp only [mB] at p1 ⊢
  generalize mS m = S0 at *
  generalize mS { m with stack := s, sg := x :: m.sg } = S1 at *
  generalize itP x = vx at *
  generalize varsP m.vars = vv at *
  generalize c.map insP = cc at *
  refine gg ?_
  refine call p1 ?_
  refine gg ?_
  exact hfin _ _ rfl rfl rfl rfl rfl rfl rfl rfl rfl
end Go.Proofs.YtodjpfpmhjdhbaaGreatDoor
namespace Go.Proofs.YtodjpfpmhjdhbaaGreatDoor
open Go.Lg
set_option maxRecDepth 10000
set_option maxHeartbeats 4000000
noncomputable def md49 : Code := left (right (right (right c49)))
theorem mid_nil (c : List Ins) (l : Nat) (m : Ms) (hnm : Nm m) (Q : AEx → St → Prop) (hQ : ∀ σ, Weak (XX [] 38 [901, 4, 5]) σ (GS c l [(0, .loc 901 0), (1, .pv (.slice [])), (4, .loc 4 0), (5, .loc 5 0)] m) → Q .normal σ) :
    AWP (XX [] 38 [901, 4, 5]) md49 (GS c l [(0, .loc 901 0), (1, .pv (.slice [])), (4, .loc 4 0), (5, .loc 5 0)] m) Q := by
  have hw := fun (S' : List (Nat × V)) (U : List Nat) hS => GS_weak (nm := []) (nt := 38) (c := c) (l := l) (S := [(0, .loc 901 0), (1, .pv (.slice [])), (4, .loc 4 0), (5, .loc 5 0)]) (S' := S') (U := U) (objs := []) (objs' := []) hnm hnm trivial (by simp [keysO]) (fun k o h => .inr ⟨rfl, by simp [keysO], h⟩) hS (names_S1 (.slice []))
  have e : updAll (gO c l m) (callWr [] []) = gO c l m := rfl
  rw [e] at hw
  clear e
  unfold GS at *
  generalize gO c l m = O1 at *
  generalize gU m = U1 at *
  simp only [md49, c49, Tryz.f84, Option.getD_some, left, right]
  refine gg ?_
  refine ex_loop 1 (ex_round ?_)
  refine gg ?_
  exact hQ _ (hw _ _ (by simp [slotsLe, getS]))
def mB0 (c : List Ins) (l : Nat) : Ob := .box [.pv (.slice (c.map insP)), .pv (.int l), .pv (.int 0), .pv .nilfn, .pv .nilfn, .pv .nils, .pv .nils, .pv (.int 0), .pv .nil]
theorem inv0 (l b : Nat) : Inv l b ms0 := ⟨⟨by simp [ms0, frN], by simp [ms0, frN], by simp [ms0, frN]⟩, ⟨by simp [ms0, BdL], by simp [ms0], by simp [ms0, BdL], by simp [ms0, insideL], by simp [ms0], by simp [ms0]⟩, by simp [ms0]⟩
theorem go_start (c : List Ins) (l : Nat) (av : PV) (x : V) (objs' : List (Nat × Ob)) (hno : subL (x.names ++ namesOb objs') ([901] ++ keysO objs'))
    (h : AWP (XX [] 38 [901, 4, 5]) (.seq lp49 (.seq md49 tl49)) (GS c l [(0, .loc 901 0), (1, .pv av), (4, .loc 4 0), (5, .loc 5 0)] ms0) (rescueQ (XX [] 38 [901]) Tryz.f84.results.toList 112 [.loc 4 0, .loc 5 0] x objs')) :
    AC Tryz.prog gl 84 [.loc 901 0, .pv av] [(901, mB0 c l)] (.ret x) objs' := by
  have hd66 : Direct Tryz.prog 112 := ⟨Tryz.f112, Tryz.func112, rfl, rfl⟩
  refine AC.of_rescue (X := XX [] 38 [901]) (f := 84) (fn := Tryz.f84) (fc := 112) (tf := 9) (ms := []) Tryz.func84 rfl rfl Tryz.ntmps84 hd66 rfl rfl rfl (by decide) rfl rfl rfl rfl (by show 2 ≤ 38; decide) trivial (by simp) (by simp [subL, namesL, V.names, namesOb, mB0, Ob.names, keysO]) (by simpa [keysO] using hno)
    (σ1 := ⟨[(5, .loc 5 0), (4, .loc 4 0), (0, .loc 901 0), (1, .pv av)], [(901, mB0 c l), (4, .box [.pv .nil]), (5, .box [.pv (.int 0)])], [5, 4, 901]⟩) ?_ rfl idle_66 ?_
  · unfold mB0
    simp only [keysO, List.map_cons, List.map_nil, List.append_nil]
    generalize c.map insP = cc
    refine gg ?_
    exact ⟨rfl, rfl⟩
  · show AWP (XX [] 38 [901, 4, 5]) (.seq lp49 (.seq md49 tl49)) _ _
    unfold mB0
    refine th 901 5 902 1 132 ?_
    refine th 901 6 903 5 206 ?_
    refine AWP.weaken ?_ h
    refine ⟨by simp [slotsLe, getS, GS], ⟨rfl, rfl, rfl, rfl, rfl, trivial⟩, ?_⟩
    rw [subL_iff]
    intro n hn
    simp only [XX_given, List.mem_append] at hn
    show n ∈ gU ms0
    rcases hn with (hn | hn) | hn
    · have := names_S1 av n hn
      simp [gU] at this ⊢
      omega
    · exact gO_names c l ms0 n hn
    · simp [gU] at hn ⊢
      omega
/-- a run without arguments that fails -/
theorem go_err (c : List Ins) (l e : Nat) (hcode : Okc c) (hl : l ≤ 700000) (hr : Runs c l ms0 (.err e)) :
    AC Tryz.prog gl 84 [.loc 901 0, .pv (.slice [])] [(901, mB0 c l)] (.ret (.pv (.tuple [.nil, .int e]))) [] := by
  refine go_start c l (.slice []) _ _ (by simp [V.names, namesOb, subL]) ?_
  refine ex_seq ?_
  refine loop1 c l 0 hcode (by omega) (.slice []) _ ms0 (inv0 l 0) hr _ (fun _ _ h => by cases h) ?_
  intro e' σ he hst
  cases he
  exact rescue_err hst
/-- a run without arguments that ends -/
theorem go_fine (c : List Ins) (l : Nat) (hcode : Okc c) (hl : l ≤ 700000) (m m' : Ms) (x : It) (hr : Runs c l ms0 (.stop m)) (hpop : m.pop = some (x, m')) :
    AC Tryz.prog gl 84 [.loc 901 0, .pv (.slice [])] [(901, mB0 c l)] (.ret (.pv (.tuple [itP x, .int 0]))) [(901, mE c l m.steps)] := by
  refine go_start c l (.slice []) _ _ (by simp [V.names, namesOb, subL, mE, Ob.names, namesL]) ?_
  refine ex_seq ?_
  refine loop1 c l 0 hcode (by omega) (.slice []) _ ms0 (inv0 l 0) hr _ ?_ (fun _ _ h => by cases h)
  intro m1 σ he hi hw
  cases he
  refine AWP.weaken hw ?_
  refine ex_seq ?_
  refine mid_nil c l m hi.nm _ ?_
  intro σ hw
  refine AWP.weaken hw ?_
  exact tail49 c l 0 (by omega) m m' x hi hpop _ (by simp [slotsLe, getS])
end Go.Proofs.YtodjpfpmhjdhbaaGreatDoor
