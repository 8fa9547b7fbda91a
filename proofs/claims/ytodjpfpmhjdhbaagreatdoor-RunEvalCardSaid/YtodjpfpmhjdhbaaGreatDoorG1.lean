/- Part of the proof: the contract of the law's own function; no conditions. -/
import Derived.Test.YtodjpfpmhjdhbaaGreatDoorF9
import Derived.Test.YtodjpfpmhjdhbaaGreatDoorE5
import Derived.Test.YtodjpfpmhjdhbaaGreatDoorF1
set_option linter.unusedVariables false
set_option linter.unusedSimpArgs false
set_option linter.unusedSectionVars false
/- ref02.TypeOf of closed terms; RunEval, plainly: what the run comes to. -/
namespace Go.Proofs.YtodjpfpmhjdhbaaGreatDoor
open Go.Lg
set_option maxRecDepth 10000
set_option maxHeartbeats 4000000
theorem context_ok : AC Tryz.prog gl 86 [.pv (.slice [])] [] (.ret (.pv (.int 0))) [] := by
  refine body [] Tryz.func86 Tryz.ntmps86 ?_
  refine gg ?_
  refine ex_loop 1 (ex_round ?_)
  refine gg ?_
  exact ⟨by simp [retIs, resV, resL, resOne, mkTup, getS, getO, rdV, mkAgg, unL, V.un, TI.isAgg, XX_T, tt27, Tryz.f86], by simp [subO, getO, tt27, Tryz.f86]⟩
theorem typed_of (t : Tm) (hw : t.wf = true) (hz : t.size ≤ 4096) (a : List PV) (e : Int) (sa : ∃ k s, a = [.int k, .slice s]) (h : AC Tryz.prog gl 118 [.pv (.slice []), .pv (.agg t.cells)] [] (.ret (.pv (.tuple [.agg a, .int e]))) []) :
    AC Tryz.prog gl 87 [.pv (.slice []), .pv (.agg t.cells)] [] (.ret (.pv (.tuple [.agg a, .int e]))) [] := by
  obtain ⟨k, s, rfl⟩ := sa
  have h1 := tcheck_ok t hw (by omega)
  rw [if_pos hz] at h1
  rw [Tm.cells_eq] at *
  generalize t.ty.args.map Ty.cells = ta at *
  generalize t.args.map Tm.cells = tas at *
  refine body [] Tryz.func87 Tryz.ntmps87 ?_
  refine gg ?_
  refine call h1 ?_
  refine gg ?_
  refine call h ?_
  refine gg ?_
  exact ⟨by simp [retIs, resV, resL, resOne, mkTup, getS, getO, rdV, mkAgg, unL, V.un, TI.isAgg, XX_T, tt27, Tryz.f87], by simp [subO, getO, tt27, Tryz.f87]⟩
theorem typeof_of (t : Tm) (hw : t.wf = true) (hz : t.size ≤ 4096) (a : List PV) (e : Int) (sa : ∃ k s, a = [.int k, .slice s]) (h : AC Tryz.prog gl 118 [.pv (.slice []), .pv (.agg t.cells)] [] (.ret (.pv (.tuple [.agg a, .int e]))) []) :
    AC Tryz.prog gl 47 [.pv (.slice []), .pv (.agg t.cells)] [] (.ret (.pv (.tuple [.agg a, .int e]))) [] := by
  have h2 := typed_of t hw hz a e sa h
  have h1 := context_ok
  obtain ⟨k, s, rfl⟩ := sa
  rw [Tm.cells_eq] at *
  generalize t.ty.args.map Ty.cells = ta at *
  generalize t.args.map Tm.cells = tas at *
  refine body [] Tryz.func47 Tryz.ntmps47 ?_
  refine gg ?_
  refine call h1 ?_
  refine gg ?_
  refine call h2 ?_
  refine gg ?_
  exact ⟨by simp [retIs, resV, resL, resOne, mkTup, getS, getO, rdV, mkAgg, unL, V.un, TI.isAgg, XX_T, tt27, Tryz.f47], by simp [subO, getO, tt27, Tryz.f47]⟩
/-- the type of a closed term is found, or too large -/
theorem typeof_all {t : Tm} {τ : Ty} (h : HasTy [] t τ) (hw : t.wf = true) (hz : t.size ≤ 4096) :
    AC Tryz.prog gl 47 [.pv (.slice []), .pv (.agg t.cells)] [] (.ret (.pv (.tuple [.agg τ.cells, .int 0]))) [] ∨ AC Tryz.prog gl 47 [.pv (.slice []), .pv (.agg t.cells)] [] (.ret (.pv (.tuple [.agg [.int 0, .slice []], .int 4]))) [] := by
  rcases infer_all h hw (by simp) (by simp; omega) with ⟨h1, _⟩ | h1
  · exact .inl (typeof_of t hw hz _ _ ⟨_, _, τ.cells_eq⟩ h1)
  · exact .inr (typeof_of t hw hz _ _ ⟨_, _, rfl⟩ h1)
theorem VR_sameT {c : List Ins} {B : Nat} {x : It} {r : Rs} {τ : Ty} (hp : τ.plain) (ht : RsT B r τ) (h : VR c x r) : SameD x r ∧ Dat x := by
  have base : ∀ {x : It} {r : Rs} {τ : Ty}, (τ = .nat ∨ τ = .list ∨ τ = .unit) → RsT B r τ → VR c x r → SameD x r ∧ Dat x := by
    intro x r τ hb ht h
    rcases hb with rfl | rfl | rfl <;> cases ht <;> cases h
    · exact ⟨.num _, .num _⟩
    · exact ⟨.list _, .list _⟩
    · exact ⟨.unit, .unit⟩
  rcases plain_cases hp with hb | ⟨s, hb, rfl⟩
  · exact base hb ht h
  · cases ht with
    | pair ha hb' =>
      cases h with
      | pair va vb =>
        obtain ⟨a1, a2⟩ := base (.inl rfl) ha va
        obtain ⟨b1, b2⟩ := base (by rcases hb with rfl | rfl <;> simp) hb' vb
        exact ⟨.pair a1 b1, .pair a2 b2⟩
theorem gos_steps {c : List Ins} {l : Nat} {m m' : Ms} (h : Gos c l m m') : m.steps ≤ m'.steps ∧ (m.steps = m'.steps → m = m') := by
  induction h with
  | refl => exact ⟨Nat.le_refl _, fun _ => rfl⟩
  | step hs _ ih =>
    have h1 := (step_steps hs).1
    simp only [Sts] at h1
    exact ⟨by omega, fun h => by omega⟩
/-- what comes of the run of a program whose term evaluates -/
theorem run_means {t : Tm} {r : Rs} (h : Ev (.ev [] t) r) (l : Nat) : (∃ e, Runs (finC t).code l ms0 (.err e) ∧ (e = 4 ∨ e = 5)) ∨ ∃ m x, Runs (finC t).code l ms0 (.stop m) ∧ m.stack = [x] ∧ VR (finC t).code x r ∧ 2 ≤ m.steps := by
  obtain ⟨h1, h2⟩ := fin_TA t
  have hm : Means (finC t).code l (.ev [] t) r := means h
  rcases hm 0 _ ms0 h1 rfl ⟨rfl, by intro i x r h; simp [ms0] at h⟩ with h | ⟨m', g, x, hx, hs, ha, hv, hf⟩
  · exact .inl h
  have hs' : m'.stack = [] ++ [x] := hs
  have hf' : m'.frames = [] := hf
  have hst : 1 ≤ m'.steps := by
    obtain ⟨g1, g2⟩ := gos_steps g
    have : ms0.steps = 0 := rfl
    by_cases e : m'.steps = 0
    · have := g2 (by omega)
      subst this
      simp [ms0] at hs'
    · omega
  by_cases hl : m'.steps = l
  · refine .inl ⟨5, g.runs (.err ?_), .inr rfl⟩
    unfold Ms.step
    rw [if_pos hl]
  · have hstep : m'.step (finC t).code l (1000 + m'.steps) = some (.stop (Ms.push ⟨m'.steps + 1, [], x :: m'.sg, m'.sv, m'.frames, m'.fg, m'.fv, m'.at_ + 1, m'.vars⟩ x)) := by
      unfold Ms.step
      rw [if_neg hl, if_neg (by omega), ha, Int.toNat_natCast, h2]
      simp only [Ms.exec, Ms.leave]
      rw [pop_mk hs']
      simp only [Ms.popF, hf', List.getLast?_nil]
    exact .inr ⟨_, x, g.runs (.stop hstep), rfl, hx, by simp only [Ms.push]; omega⟩
end Go.Proofs.YtodjpfpmhjdhbaaGreatDoor
/- The law RunEval. -/
namespace Go.Proofs.YtodjpfpmhjdhbaaGreatDoor
open Go.Lg
set_option maxRecDepth 10000
set_option maxHeartbeats 4000000
theorem many_eval (L : List Int) (hL : ¬ L.length ≤ 500) : AC Tryz.prog gl 3 [.pv (.slice (ints L))] [] (.ret (.pv (.bool true))) [] := by
  have h1 := awake_ok
  have h2 := few_ok L
  have e : decide (L.length ≤ 500) = false := by simp [hL]
  rw [e] at h2
  generalize ints L = cc at *
  refine body [] Tryz.func3 Tryz.ntmps3 ?_
  refine gg ?_
  refine call h1 ?_
  refine gg ?_
  refine call h2 ?_
  refine gg ?_
  refine call h1 ?_
  refine gg ?_
  exact ⟨by simp [retIs, resV, resL, resOne, mkTup, getS, getO, rdV, mkAgg, unL, V.un, TI.isAgg, XX_T, tt41, Tryz.f3], by simp [subO, getO, tt41, Tryz.f3]⟩
/-- the evaluation fails -/
theorem eval_fails (L : List Int) (hL : L.length ≤ 500) (tm : Tm) (τ : Ty) (at' : Nat) (h4 : AC Tryz.prog gl 9 [.loc 900 0] (deck L 0) (.ret (.pv (.tuple [.agg tm.cells, .agg τ.cells]))) (deck L at')) (pc : List (List PV)) (h5 : AC Tryz.prog gl 11 [.pv (.agg tm.cells)] [] (.ret (.pv (.tuple [.slice pc, .int 0]))) []) (e : Int) (he : e = 4 ∨ e = 5)
    (h6 : AC Tryz.prog gl 12 [.pv (.agg tm.cells), .pv (.int 20000)] [] (.ret (.pv (.tuple [.agg [.int 0, .int 0, .nils, .nils], .int 0, .int e]))) []) : AC Tryz.prog gl 3 [.pv (.slice (ints L))] [] (.ret (.pv (.bool true))) [] := by
  have h1 := awake_ok
  have h2 := few_ok L
  have h3 := new_ok L
  have l0 := limits_0
  have l4 : AC Tryz.prog gl 13 [.pv (.int e)] [] (.ret (.pv (.bool true))) [] := by
    rcases he with rfl | rfl
    · exact limits_4
    · exact limits_5
  have e0 : ¬ e = 0 := by omega
  have ed : decide (L.length ≤ 500) = true := by simp [hL]
  rw [ed] at h2
  rw [tm.cells_eq] at h4 h5 h6
  rw [τ.cells_eq] at h4
  unfold deck at *
  generalize ints L = cc at *
  generalize tm.kind = tk at *
  generalize tm.idx = ti at *
  generalize tm.ty.kind = tyk at *
  generalize tm.ty.args.map Ty.cells = tya at *
  generalize tm.args.map Tm.cells = tma at *
  generalize τ.kind = tak at *
  generalize τ.args.map Ty.cells = taa at *
  clear he
  refine body [] Tryz.func3 Tryz.ntmps3 ?_
  refine gg ?_
  refine call h1 ?_
  refine gg ?_
  refine call h2 ?_
  refine gg ?_
  refine call h3 ?_
  refine gg ?_
  refine call h4 ?_
  refine gg ?_
  refine call h5 ?_
  refine gg ?_
  refine call h6 ?_
  refine gg ?_
  refine call l0 ?_
  refine gg ?_
  refine call l4 ?_
  refine gg ?_
  exact ⟨by simp [retIs, resV, resL, resOne, mkTup, getS, getO, rdV, mkAgg, unL, V.un, TI.isAgg, XX_T, tt41, Tryz.f3], by simp [subO, getO, tt41, Tryz.f3]⟩
/-- the run fails -/
theorem run_fails (L : List Int) (hL : L.length ≤ 500) (tm : Tm) (τ : Ty) (at' : Nat) (h4 : AC Tryz.prog gl 9 [.loc 900 0] (deck L 0) (.ret (.pv (.tuple [.agg tm.cells, .agg τ.cells]))) (deck L at')) (pc : List (List PV)) (h5 : AC Tryz.prog gl 11 [.pv (.agg tm.cells)] [] (.ret (.pv (.tuple [.slice pc, .int 0]))) [])
    (v : List PV) (u : Int) (sv : ∃ k m s q, v = [.int k, .int m, s, q] ∧ s.one = true ∧ q.one = true) (h6 : AC Tryz.prog gl 12 [.pv (.agg tm.cells), .pv (.int 20000)] [] (.ret (.pv (.tuple [.agg v, .int u, .int 0]))) [])
    (e : Nat) (he : e = 4 ∨ e = 5) (h7 : AC Tryz.prog gl 14 [.pv (.slice pc), .pv (.int 20000)] [] (.ret (.pv (.tuple [.agg [.int 0, .int 0, .int 0, .nils, .nils], .int 0, .int e]))) []) : AC Tryz.prog gl 3 [.pv (.slice (ints L))] [] (.ret (.pv (.bool true))) [] := by
  have h1 := awake_ok
  have h2 := few_ok L
  have h3 := new_ok L
  have l4 : AC Tryz.prog gl 13 [.pv (.int e)] [] (.ret (.pv (.bool true))) [] := by
    rcases he with rfl | rfl
    · exact limits_4
    · exact limits_5
  have e0 : ¬ (e : Int) = 0 := by omega
  have ed : decide (L.length ≤ 500) = true := by simp [hL]
  rw [ed] at h2
  obtain ⟨k, m, s, q, rfl, o1, o2⟩ := sv
  have w1 := vcells_one o1
  have w2 := vcells_one o2
  have v1 : (V.pv s).one = true := by rw [one_pv]; exact o1
  have v2 : (V.pv q).one = true := by rw [one_pv]; exact o2
  rw [tm.cells_eq] at h4 h5 h6
  rw [τ.cells_eq] at h4
  unfold deck at *
  generalize ints L = cc at *
  generalize tm.kind = tk at *
  generalize tm.idx = ti at *
  generalize tm.ty.kind = tyk at *
  generalize tm.ty.args.map Ty.cells = tya at *
  generalize tm.args.map Tm.cells = tma at *
  generalize τ.kind = tak at *
  generalize τ.args.map Ty.cells = taa at *
  clear he
  refine body [] Tryz.func3 Tryz.ntmps3 ?_
  refine gg ?_
  refine call h1 ?_
  refine gg ?_
  refine call h2 ?_
  refine gg ?_
  refine call h3 ?_
  refine gg ?_
  refine call h4 ?_
  refine gg ?_
  refine call h5 ?_
  refine gg ?_
  refine call h6 ?_
  refine gg ?_
  refine call h7 ?_
  refine gg ?_
  refine call l4 ?_
  refine gg ?_
  exact ⟨by simp [retIs, resV, resL, resOne, mkTup, getS, getO, rdV, mkAgg, unL, V.un, TI.isAgg, XX_T, tt41, Tryz.f3], by simp [subO, getO, tt41, Tryz.f3]⟩
/-- all is well -/
theorem run_fits (L : List Int) (hL : L.length ≤ 500) (tm : Tm) (τ : Ty) (at' : Nat) (h4 : AC Tryz.prog gl 9 [.loc 900 0] (deck L 0) (.ret (.pv (.tuple [.agg tm.cells, .agg τ.cells]))) (deck L at')) (pc : List (List PV)) (h5 : AC Tryz.prog gl 11 [.pv (.agg tm.cells)] [] (.ret (.pv (.tuple [.slice pc, .int 0]))) [])
    (v : List PV) (u : Int) (sv : ∃ k m s q, v = [.int k, .int m, s, q] ∧ s.one = true ∧ q.one = true) (h6 : AC Tryz.prog gl 12 [.pv (.agg tm.cells), .pv (.int 20000)] [] (.ret (.pv (.tuple [.agg v, .int u, .int 0]))) [])
    (x : It) (n : Nat) (hn : 2 ≤ n) (h7 : AC Tryz.prog gl 14 [.pv (.slice pc), .pv (.int 20000)] [] (.ret (.pv (.tuple [.agg (itCell x), .int n, .int 0]))) [])
    (w : List PV) (sw : ∃ k m s q, w = [.int k, .int m, s, q] ∧ s.one = true ∧ q.one = true) (h8 : AC Tryz.prog gl 15 [.pv (.agg (itCell x))] [] (.ret (.pv (.tuple [.agg w, .bool true]))) [])
    (h9 : AC Tryz.prog gl 16 [.pv (.agg v), .pv (.agg w)] [] (.ret (.pv (.bool true))) []) : AC Tryz.prog gl 3 [.pv (.slice (ints L))] [] (.ret (.pv (.bool true))) [] := by
  have h1 := awake_ok
  have h2 := few_ok L
  have h3 := new_ok L
  have n2 : (2 : Int) ≤ n := by omega
  have n3 : ¬ (n : Int) < 2 := by omega
  have ed : decide (L.length ≤ 500) = true := by simp [hL]
  rw [ed] at h2
  obtain ⟨k, m, s, q, rfl, o1, o2⟩ := sv
  obtain ⟨k', m', s', q', rfl, o1', o2'⟩ := sw
  obtain ⟨k1, n1, a1, s1, s2, ea, hs1, hs2⟩ := itCell_shape x
  have w1 := vcells_one o1
  have w2 := vcells_one o2
  have v1 : (V.pv s).one = true := by rw [one_pv]; exact o1
  have v2 : (V.pv q).one = true := by rw [one_pv]; exact o2
  have w1' := vcells_one o1'
  have w2' := vcells_one o2'
  have v1' : (V.pv s').one = true := by rw [one_pv]; exact o1'
  have v2' : (V.pv q').one = true := by rw [one_pv]; exact o2'
  have w1'' := vcells_one hs1
  have w2'' := vcells_one hs2
  have v1'' : (V.pv s1).one = true := by rw [one_pv]; exact hs1
  have v2'' : (V.pv s2).one = true := by rw [one_pv]; exact hs2
  rw [ea] at h7 h8
  rw [tm.cells_eq] at h4 h5 h6
  rw [τ.cells_eq] at h4
  unfold deck at *
  generalize ints L = cc at *
  generalize tm.kind = tk at *
  generalize tm.idx = ti at *
  generalize tm.ty.kind = tyk at *
  generalize tm.ty.args.map Ty.cells = tya at *
  generalize tm.args.map Tm.cells = tma at *
  generalize τ.kind = tak at *
  generalize τ.args.map Ty.cells = taa at *
  clear ea
  refine body [] Tryz.func3 Tryz.ntmps3 ?_
  refine gg ?_
  refine call h1 ?_
  refine gg ?_
  refine call h2 ?_
  refine gg ?_
  refine call h3 ?_
  refine gg ?_
  refine call h4 ?_
  refine gg ?_
  refine call h5 ?_
  refine gg ?_
  refine call h6 ?_
  refine gg ?_
  refine call h7 ?_
  refine gg ?_
  refine call h8 ?_
  refine gg ?_
  refine call h9 ?_
  refine gg ?_
  exact ⟨by simp [retIs, resV, resL, resOne, mkTup, getS, getO, rdV, mkAgg, unL, V.un, TI.isAgg, XX_T, tt41, Tryz.f3], by simp [subO, getO, tt41, Tryz.f3]⟩
/-- the program is too long -/
theorem code_long (L : List Int) (hL : L.length ≤ 500) (tm : Tm) (τ : Ty) (at' : Nat) (h4 : AC Tryz.prog gl 9 [.loc 900 0] (deck L 0) (.ret (.pv (.tuple [.agg tm.cells, .agg τ.cells]))) (deck L at')) (h5 : AC Tryz.prog gl 11 [.pv (.agg tm.cells)] [] (.ret (.pv (.tuple [.slice [], .int 4]))) [])
    (v : List PV) (u e : Int) (sv : ∃ k m s q, v = [.int k, .int m, s, q] ∧ s.one = true ∧ q.one = true) (h6 : AC Tryz.prog gl 12 [.pv (.agg tm.cells), .pv (.int 20000)] [] (.ret (.pv (.tuple [.agg v, .int u, .int e]))) []) : AC Tryz.prog gl 3 [.pv (.slice (ints L))] [] (.ret (.pv (.bool true))) [] := by
  have h1 := awake_ok
  have h2 := few_ok L
  have h3 := new_ok L
  have l4 := limits_4
  have ed : decide (L.length ≤ 500) = true := by simp [hL]
  rw [ed] at h2
  obtain ⟨k, m, s, q, rfl, o1, o2⟩ := sv
  have w1 := vcells_one o1
  have w2 := vcells_one o2
  have v1 : (V.pv s).one = true := by rw [one_pv]; exact o1
  have v2 : (V.pv q).one = true := by rw [one_pv]; exact o2
  rw [tm.cells_eq] at h4 h5 h6
  rw [τ.cells_eq] at h4
  unfold deck at *
  generalize ints L = cc at *
  generalize tm.kind = tk at *
  generalize tm.idx = ti at *
  generalize tm.ty.kind = tyk at *
  generalize tm.ty.args.map Ty.cells = tya at *
  generalize tm.args.map Tm.cells = tma at *
  generalize τ.kind = tak at *
  generalize τ.args.map Ty.cells = taa at *
  refine body [] Tryz.func3 Tryz.ntmps3 ?_
  refine gg ?_
  refine call h1 ?_
  refine gg ?_
  refine call h2 ?_
  refine gg ?_
  refine call h3 ?_
  refine gg ?_
  refine call h4 ?_
  refine gg ?_
  refine call h5 ?_
  refine gg ?_
  refine call h6 ?_
  refine gg ?_
  refine call l4 ?_
  refine gg ?_
  exact ⟨by simp [retIs, resV, resL, resOne, mkTup, getS, getO, rdV, mkAgg, unL, V.un, TI.isAgg, XX_T, tt41, Tryz.f3], by simp [subO, getO, tt41, Tryz.f3]⟩
theorem shape_valC {B : Nat} {r : Rs} {t : Ty} (h : RsT B r t) (hp : t.plain) : ∃ k m s q, valC r = [.int k, .int m, s, q] ∧ s.one = true ∧ q.one = true := by
  rcases plain_cases hp with hb | ⟨s, hb, rfl⟩
  · obtain ⟨k, n, s, e, o⟩ := valC_shape h hb
    exact ⟨k, n, s, .nils, e, o, rfl⟩
  · cases h with
    | pair ha hb' => exact ⟨_, _, _, _, rfl, rfl, rfl⟩
theorem shape_valW {B : Nat} {r : Rs} {t : Ty} (h : RsT B r t) (hp : t.plain) : ∃ k m s q, valW r = [.int k, .int m, s, q] ∧ s.one = true ∧ q.one = true := by
  rcases plain_cases hp with hb | ⟨s, hb, rfl⟩
  · obtain ⟨k, n, s, e, o⟩ := valW_shape h hb
    exact ⟨k, n, s, .nils, e, o, rfl⟩
  · cases h with
    | pair ha hb' => exact ⟨_, _, _, _, rfl, rfl, rfl⟩
/-- what ref06.Eval answers of closed data -/
theorem eval_ends {tm : Tm} {τ : Ty} (hd : Datum tm τ) : (∃ e : Int, (e = 4 ∨ e = 5) ∧ AC Tryz.prog gl 12 [.pv (.agg tm.cells), .pv (.int 20000)] [] (.ret (.pv (.tuple [.agg [.int 0, .int 0, .nils, .nils], .int 0, .int e]))) []) ∨
    ∃ (r : Rs) (u : Nat), Ev (.ev [] tm) r ∧ RsT 60000 r τ ∧ AC Tryz.prog gl 12 [.pv (.agg tm.cells), .pv (.int 20000)] [] (.ret (.pv (.tuple [.agg (valC r), .int u, .int 0]))) [] := by
  have hz := hd.size
  rcases typeof_all hd.ty hd.wf (by omega) with hT | hT
  · rcases eval_all (most := 20000) (by omega) 20000 0 0 (by omega) (by omega) (by omega) [] tm τ [] hd.ty ⟨rfl, by intro i r s h; simp at h⟩ (by simp; omega) with ⟨r, hE⟩ | ⟨r, u, h1, h2, h3, h4, hE⟩
    · refine .inl ⟨5, .inr rfl, ?_⟩
      exact eval_of tm 20000 _ _ _ ⟨_, _, _, _, rfl, rfl, rfl⟩ (call_out tm τ 20000 (by omega) r hT (tdata_ok τ hd.plain) hE)
    · have hr : RsT 60000 r τ := h2.mono (by omega)
      refine .inr ⟨r, u, h1, hr, ?_⟩
      exact eval_of tm 20000 _ _ _ (shape_valC hr hd.plain) (call_fine (by omega) tm τ 20000 u (by omega) r hr hd.plain hT hE (shape_valC hr hd.plain))
  · refine .inl ⟨4, .inl rfl, ?_⟩
    exact eval_of tm 20000 _ _ _ ⟨_, _, _, _, rfl, rfl, rfl⟩ (call_terr tm 20000 hT)
theorem law_eval (L : List Int) : AC Tryz.prog gl 3 [.pv (.slice (ints L))] [] (.ret (.pv (.bool true))) [] := by
  by_cases hL : L.length ≤ 500
  · obtain ⟨tm, τ, at', hd, h4⟩ := data_ok L hL 0
    have h5 := compile_ok tm hd.wf (by have := hd.size; omega)
    by_cases hc : (finC tm).code.length ≤ 4096
    · rw [if_pos hc, if_pos hc] at h5
      rcases eval_ends hd with ⟨e, he, h6⟩ | ⟨r, u, hv, hr, h6⟩
      · exact eval_fails L hL tm τ at' h4 _ h5 e he h6
      · have hG := goodC hd.ty hc (by have := hd.size; omega)
        have hO := fin_okc hd.ty hc (by have := hd.size; omega)
        rcases run_means hv 20000 with ⟨e, hr', he⟩ | ⟨m, x, hr', hs, hx, hm⟩
        · exact run_fails L hL tm τ at' h4 _ h5 _ _ (shape_valC hr hd.plain) h6 e he (run_is_err _ hG hO 20000 e (by omega) (by omega) hr')
        · obtain ⟨s1, s2⟩ := VR_sameT hd.plain hr hx
          exact run_fits L hL tm τ at' h4 _ h5 _ _ (shape_valC hr hd.plain) h6 x m.steps hm (run_is_fine _ hG hO 20000 (by omega) m x hr' hs s2) _ (shape_valW hr hd.plain) (value_ok (by omega) hr s1 hd.plain) (vsame_ok (by omega) hr hd.plain)
    · rw [if_neg hc, if_neg hc] at h5
      rcases eval_ends hd with ⟨e, he, h6⟩ | ⟨r, u, hv, hr, h6⟩
      · exact code_long L hL tm τ at' h4 h5 _ _ _ ⟨_, _, _, _, rfl, rfl, rfl⟩ h6
      · exact code_long L hL tm τ at' h4 h5 _ _ _ (shape_valC hr hd.plain) h6
  · exact many_eval L hL
end Go.Proofs.YtodjpfpmhjdhbaaGreatDoor
