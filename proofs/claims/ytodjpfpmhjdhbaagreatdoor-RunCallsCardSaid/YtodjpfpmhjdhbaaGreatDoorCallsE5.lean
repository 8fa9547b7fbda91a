/- Part of the proof: contracts of the checks, of cells and values, of Run and Call; no conditions. -/
import Derived.Test.YtodjpfpmhjdhbaaGreatDoorCallsE4
import Derived.Test.YtodjpfpmhjdhbaaGreatDoorCallsE2
import Derived.Test.YtodjpfpmhjdhbaaGreatDoorCallsE3
import Derived.Test.YtodjpfpmhjdhbaaGreatDoorCallsB3
set_option linter.unusedVariables false
set_option linter.unusedSimpArgs false
set_option linter.unusedSectionVars false
namespace Go.Proofs.YtodjpfpmhjdhbaaGreatDoor
open Go.Lg
set_option maxRecDepth 10000
set_option maxHeartbeats 4000000
theorem returned_7 (c : List Ins) (l n : Nat) (hg : AC Tryz.prog gl 84 [.loc 901 0, .pv (.slice [[itP (.num 7)]])] [(901, mB0 c l)] (.ret (.pv (.tuple [itP (.num 7), .int 0]))) [(901, mE c l n)]) :
    AC Tryz.prog gl 55 [.loc 901 0, .pv (.slice [[.int 1, .int 7, .nils, .nils]])] [(901, mB0 c l)] (.ret (.pv (.tuple [.agg [.int 1, .int 7, .slice [], .nils], .int 0]))) [(901, mE c l n)] := by
  have h1 := from_7
  have h2 := outside_ok (b := 7) (.num 7) (by simp [Bd])
  have h3 := value_7
  simp only [itP, itCell, Int.cast_ofNat_Int] at h1 h2 hg
  unfold mB0 mE at *
  generalize c.map insP = cc at *
  refine body [(6, .arr 908 1 132)] Tryz.func55 Tryz.ntmps55 ?_
  refine gg ?_
  refine ex_loop 2 (ex_round ?_)
  refine gg ?_
  refine call h1 ?_
  refine gg ?_
  refine ex_round ?_
  refine frz 908 (es := [[.ptr [.int 1, .int 7, .nil, .nil, .nil, .int 0, .nil, .int 0, .bool false]]]) ?_
  refine gg ?_
  refine call hg ?_
  refine gg ?_
  refine call h2 ?_
  refine gg ?_
  refine call h3 ?_
  refine gg ?_
  exact ⟨by simp [retIs, resV, resL, resOne, mkTup, getS, getO, rdV, mkAgg, unL, V.un, TI.isAgg, XX_T, tt41, Tryz.f55], by simp [subO, getO, tt41, Tryz.f55]⟩
end Go.Proofs.YtodjpfpmhjdhbaaGreatDoor
namespace Go.Proofs.YtodjpfpmhjdhbaaGreatDoor
open Go.Lg
set_option maxRecDepth 10000
set_option maxHeartbeats 4000000
def cA : List Ins := [(4, 0), (5, 0), (14, 0)]
def cB : List Ins := [(2, 2), (14, 0), (1, 0), (14, 0)]
theorem good_A : GoodC cA := by
  refine ⟨by decide, by decide, ⟨0, rfl⟩, ?_, ?_, by decide, ?_⟩
  · intro k hk
    match k, hk with
    | 0, _ => exact ⟨4, 0, rfl, by decide⟩
    | 1, _ => exact ⟨5, 0, rfl, by decide⟩
    | 2, _ => exact ⟨14, 0, rfl, by decide⟩
    | k + 3, h => simp [cA] at h; omega
  · intro k a h
    match k, h with
    | 0, h => cases h
    | 1, h => cases h
    | 2, h => cases h
    | k + 3, h => cases h
  · intro k op a h
    match k, h with
    | 0, h => cases h; decide
    | 1, h => cases h; decide
    | 2, h => cases h; decide
    | k + 3, h => cases h
theorem good_B : GoodC cB := by
  refine ⟨by decide, by decide, ⟨0, rfl⟩, ?_, ?_, by decide, ?_⟩
  · intro k hk
    match k, hk with
    | 0, _ => exact ⟨2, 2, rfl, by decide⟩
    | 1, _ => exact ⟨14, 0, rfl, by decide⟩
    | 2, _ => exact ⟨1, 0, rfl, by decide⟩
    | 3, _ => exact ⟨14, 0, rfl, by decide⟩
    | k + 4, h => simp [cB] at h; omega
  · intro k a h
    match k, h with
    | 0, h => cases h; decide
    | 1, h => cases h
    | 2, h => cases h
    | 3, h => cases h
    | k + 4, h => cases h
  · intro k op a h
    match k, h with
    | 0, h => cases h; decide
    | 1, h => cases h; decide
    | 2, h => cases h; decide
    | 3, h => cases h; decide
    | k + 4, h => cases h
theorem okc_A : Okc cA := by
  intro k op a h
  match k, h with
  | 0, h => cases h; decide
  | 1, h => cases h; decide
  | 2, h => cases h; decide
  | k + 3, h => cases h
theorem okc_B : Okc cB := by
  intro k op a h
  match k, h with
  | 0, h => cases h; decide
  | 1, h => cases h; decide
  | 2, h => cases h; decide
  | 3, h => cases h; decide
  | k + 4, h => cases h
theorem check_any (c : List Ins) (h : GoodC c) (l : Nat) (hl : l ≤ 65536) : AC Tryz.prog gl 41 [.pv (.slice (c.map insP)), .pv (.slice []), .pv (.int l)] [] (.ret (.pv (.int 0))) [] :=
  runcheck_ok _ l hl (codecheck_ok _ _ rfl (starts_ok c h))
theorem runA : AC Tryz.prog gl 14 [.pv (.slice (cA.map insP)), .pv (.int 10)] [] (.ret (.pv (.tuple [.agg (itCell (.num 1)), .int 3, .int 0]))) [] := by
  have hr : ∃ m, Runs cA 10 ms0 (.stop m) ∧ m.stack = [.num 1] ∧ m.steps = 3 := ⟨_, .go rfl (.go rfl (.stop rfl)), rfl, rfl⟩
  obtain ⟨m, hr, hs, hn⟩ := hr
  have hg := go_fine cA 10 okc_A (by decide) m _ (.num 1) hr (pop_eq (s := []) hs)
  have ho := outside_ok (b := 1) (.num 1) (by simp [Bd])
  rw [hn] at hg
  exact run_fine cA 10 3 (.num 1) (by decide) (check_any cA good_A 10 (by decide)) (result_fine cA 10 3 (.num 1) hg ho)
theorem runA2 : AC Tryz.prog gl 14 [.pv (.slice (cA.map insP)), .pv (.int 2)] [] (.ret (.pv (.tuple [.agg [.int 0, .int 0, .int 0, .nils, .nils], .int 0, .int 5]))) [] := by
  have hr : Runs cA 2 ms0 (.err 5) := .go rfl (.go rfl (.err rfl))
  have hg := go_err cA 2 5 okc_A (by decide) hr
  exact run_err cA 2 5 (by decide) (by decide) (check_any cA good_A 2 (by decide)) (result_err cA 2 5 (by decide) hg)
theorem goB : AC Tryz.prog gl 84 [.loc 901 0, .pv (.slice [[itP (.num 7)]])] [(901, mB0 cB 10)] (.ret (.pv (.tuple [itP (.num 7), .int 0]))) [(901, mE cB 10 4)] := by
  have hr : ∃ m m1, Runs cB 10 ms0 (.stop m) ∧ Ents cB 10 m [.num 7] (.stop m1) ∧ m1.stack = [.num 7] ∧ m1.steps = 4 :=
    ⟨_, _, .go rfl (.stop rfl), .cons rfl rfl (.go (by decide) rfl (.stop (by decide) rfl (.done rfl))) .nil, rfl, rfl⟩
  obtain ⟨m, m1, hr, he, hs, hn⟩ := hr
  have hg := go_args cB 10 7 okc_B (by decide) [.num 7] (by decide) (by simp [Bd]) m m1 _ (.num 7) hr he (pop_eq (s := []) hs)
  rw [hn] at hg
  exact hg
theorem retB : AC Tryz.prog gl 55 [.loc 901 0, .pv (.slice [[.int 1, .int 7, .nils, .nils]])] [(901, mB0 cB 10)] (.ret (.pv (.tuple [.agg [.int 1, .int 7, .slice [], .nils], .int 0]))) [(901, mE cB 10 4)] := returned_7 cB 10 4 goB
theorem checkB : AC Tryz.prog gl 41 [.pv (.slice (cB.map insP)), .pv (.slice [[.int 1, .int 7, .nils, .nils]]), .pv (.int 10)] [] (.ret (.pv (.int 0))) [] := by
  have h := codecheck_ok _ _ rfl (starts_ok cB good_B)
  have h2 := vcheck_7
  generalize cB.map insP = cc at *
  refine body [] Tryz.func41 Tryz.ntmps41 ?_
  refine gg ?_
  refine call h ?_
  refine gg ?_
  refine ex_loop 2 (ex_round ?_)
  refine gg ?_
  refine call h2 ?_
  refine gg ?_
  refine ex_round ?_
  refine gg ?_
  exact ⟨by simp [retIs, resV, resL, resOne, mkTup, getS, getO, rdV, mkAgg, unL, V.un, TI.isAgg, XX_T, tt30, Tryz.f41], by simp [subO, getO, tt30, Tryz.f41]⟩
theorem callB : AC Tryz.prog gl 19 [.pv (.slice (cB.map insP)), .pv (.slice [[.int 1, .int 7, .nils, .nils]]), .pv (.int 10)] [] (.ret (.pv (.tuple [.agg [.int 1, .int 7, .slice [], .nils], .int 4, .int 0]))) [] := by
  have h1 := checkB
  have h2 := retB
  unfold mB0 mE at h2
  generalize cB.map insP = cc at *
  simp only [Int.cast_ofNat_Int] at *
  refine body [(24, .box 901)] Tryz.func19 Tryz.ntmps19 ?_
  refine gg ?_
  refine call h1 ?_
  refine gg ?_
  refine call h2 ?_
  refine gg ?_
  refine ⟨by rfl, ?_⟩
  refine gg ?_
  exact ⟨by simp [retIs, resV, resL, resOne, mkTup, getS, getO, rdV, mkAgg, unL, V.un, TI.isAgg, XX_T, tt41, Tryz.f19], by simp [subO, getO, tt41, Tryz.f19]⟩
end Go.Proofs.YtodjpfpmhjdhbaaGreatDoor
namespace Go.Proofs.YtodjpfpmhjdhbaaGreatDoor
open Go.Lg
set_option maxRecDepth 10000
set_option maxHeartbeats 4000000
theorem awake_ok : AC Tryz.prog gl 7 [] [] (.ret (.pv (.bool true))) [] := by
  have h1 := runA
  have h2 := runA2
  have h3 := callB
  have h4 := cell_7
  have h5 := value_7
  simp only [cA, cB, insP, List.map_cons, List.map_nil, itCell, Int.cast_ofNat_Int] at h1 h2 h3
  refine body [] Tryz.func7 Tryz.ntmps7 ?_
  refine gg ?_
  refine call h1 ?_
  refine gg ?_
  refine call h2 ?_
  refine gg ?_
  refine call h3 ?_
  refine gg ?_
  refine call h4 ?_
  refine gg ?_
  refine call h5 ?_
  refine gg ?_
  exact ⟨by simp [retIs, resV, resL, resOne, mkTup, getS, getO, rdV, mkAgg, unL, V.un, TI.isAgg, XX_T, tt30, Tryz.f7], by simp [subO, getO, tt30, Tryz.f7]⟩
end Go.Proofs.YtodjpfpmhjdhbaaGreatDoor
namespace Go.Proofs.YtodjpfpmhjdhbaaGreatDoor
open Go.Lg
set_option maxRecDepth 10000
set_option maxHeartbeats 4000000
theorem runs_okm {c : List Ins} {l b : Nat} {m : Ms} {r : Res} (h : Runs c l m r) : ∀ m', r = .stop m' → Okm (b + m.steps) m → Okm (b + m'.steps) m' := by
  induction h with
  | stop hs =>
    intro m' e ho
    cases e
    have := ho.step hs
    have h1 := (step_steps hs).1
    simp only [Sts] at h1
    simp only [Okr] at this
    rw [h1]
    exact this
  | err _ => intro m' e; cases e
  | go hs _ ih =>
    intro m' e ho
    have := ho.step hs
    have h1 := (step_steps hs).1
    simp only [Sts] at h1
    simp only [Okr] at this
    exact ih m' e (by rw [h1]; exact this)
theorem fin_okc {t : Tm} {τ : Ty} (h : HasTy [] t τ) (hl : (finC t).code.length ≤ 4096) (hs : t.size ≤ 4096) : Okc (finC t).code := by
  intro p op a hc
  have hm := fin_okI h (op, a) (List.mem_of_getElem? hc)
  obtain ⟨h1, h2, h3, h4⟩ := hm
  have hp := (List.getElem?_eq_some_iff.1 hc).1
  simp only at h1 h2 h3 h4
  exact ⟨by omega, by omega, h1, h2, h4⟩
end Go.Proofs.YtodjpfpmhjdhbaaGreatDoor
