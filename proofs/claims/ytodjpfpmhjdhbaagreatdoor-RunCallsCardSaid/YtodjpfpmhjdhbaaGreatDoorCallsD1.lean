/- Part of the proof: contracts of the machine's step and of its run; no conditions. -/
import Derived.Test.YtodjpfpmhjdhbaaGreatDoorCallsC8
import Derived.Test.YtodjpfpmhjdhbaaGreatDoorCallsA4
set_option linter.unusedVariables false
set_option linter.unusedSimpArgs false
set_option linter.unusedSectionVars false
namespace Go.Proofs.YtodjpfpmhjdhbaaGreatDoor
open Go.Lg
set_option maxRecDepth 10000
set_option maxHeartbeats 4000000
theorem vsize_ok (l : List It) : AC Tryz.prog gl 101 [.pv (varsP l)] [] (.ret (.pv (.int l.length))) [] := by
  refine body [] Tryz.func101 Tryz.ntmps101 ?_
  cases l with
  | nil =>
    simp only [varsP]
    refine gg ?_
    exact ⟨by simp [retIs, resV, resL, resOne, mkTup, getS, getO, rdV, mkAgg, unL, V.un, TI.isAgg, XX_T, tt30, Tryz.f101], by simp [subO, getO, tt30, Tryz.f101]⟩
  | cons x r =>
    simp only [varsP]
    refine gg ?_
    exact ⟨by simp [retIs, resV, resL, resOne, mkTup, getS, getO, rdV, mkAgg, unL, V.un, TI.isAgg, XX_T, tt30, Tryz.f101], by simp [subO, getO, tt30, Tryz.f101]⟩
theorem lsize_ok (l : List Nat) : AC Tryz.prog gl 102 [.pv (linkP l)] [] (.ret (.pv (.int l.length))) [] := by
  refine body [] Tryz.func102 Tryz.ntmps102 ?_
  cases l with
  | nil =>
    simp only [linkP]
    refine gg ?_
    exact ⟨by simp [retIs, resV, resL, resOne, mkTup, getS, getO, rdV, mkAgg, unL, V.un, TI.isAgg, XX_T, tt30, Tryz.f102], by simp [subO, getO, tt30, Tryz.f102]⟩
  | cons x r =>
    simp only [linkP]
    refine gg ?_
    exact ⟨by simp [retIs, resV, resL, resOne, mkTup, getS, getO, rdV, mkAgg, unL, V.un, TI.isAgg, XX_T, tt30, Tryz.f102], by simp [subO, getO, tt30, Tryz.f102]⟩
theorem inside_ok (l : List It) : AC Tryz.prog gl 128 [.pv (varsP l)] [] (.ret (.pv (.int (insideL l)))) [] := by
  refine body [] Tryz.func128 Tryz.ntmps128 ?_
  cases l with
  | nil =>
    simp only [varsP, insideL]
    refine gg ?_
    exact ⟨by simp [retIs, resV, resL, resOne, mkTup, getS, getO, rdV, mkAgg, unL, V.un, TI.isAgg, XX_T, tt30, Tryz.f128], by simp [subO, getO, tt30, Tryz.f128]⟩
  | cons x r =>
    simp only [varsP, insideL]
    refine gg ?_
    exact ⟨by simp [retIs, resV, resL, resOne, mkTup, getS, getO, rdV, mkAgg, unL, V.un, TI.isAgg, XX_T, tt30, Tryz.f128], by simp [subO, getO, tt30, Tryz.f128]⟩
theorem number_item_ok (n : Int) : AC Tryz.prog gl 129 [.pv (.int n)] [] (.ret (.pv (.ptr [.int 1, .int n, .nil, .nil, .nil, .int 0, .nil, .int 0, .bool false]))) [] := by
  refine body [] Tryz.func129 Tryz.ntmps129 ?_
  refine gg ?_
  exact ⟨by simp [retIs, resV, resL, resOne, mkTup, getS, getO, rdV, mkAgg, unL, V.un, TI.isAgg, XX_T, tt30, Tryz.f129], by simp [subO, getO, tt30, Tryz.f129]⟩
theorem num_item_ok (n : Nat) : AC Tryz.prog gl 129 [.pv (.int n)] [] (.ret (.pv (itP (.num n)))) [] := by
  have := number_item_ok n
  simpa [itP] using this
theorem with_ok (l : List It) (x : It) (h1 : l.length ≤ 100000) (h2 : insideL l ≤ 100000) (h3 : x.more ≤ 100000) : AC Tryz.prog gl 135 [.pv (varsP l), .pv (itP x)] [] (.ret (.pv (varsP (x :: l)))) [] := by
  have a1 := vsize_ok l
  have a2 := inside_ok l
  refine body [] Tryz.func135 Tryz.ntmps135 ?_
  rw [itP_eq]
  simp only [varsP]
  rw [itP_eq]
  cases l with
  | nil =>
    simp only [varsP, insideL, List.length_nil, funcL, Bool.false_or] at *
    cases hf : x.func
    all_goals refine gg ?_
    all_goals refine call a1 ?_
    all_goals refine gg ?_
    all_goals refine call a2 ?_
    all_goals refine gg ?_
    all_goals refine ⟨by rfl, ?_⟩
    all_goals refine gg ?_
    all_goals exact ⟨by simp [retIs, resV, resL, resOne, mkTup, getS, getO, rdV, mkAgg, unL, V.un, TI.isAgg, XX_T, tt30, Tryz.f135], by simp [subO, getO, tt30, Tryz.f135]⟩
  | cons y r =>
    generalize hi : insideL (y :: r) = n at *
    generalize hl : (y :: r).length = m at *
    simp only [varsP] at *
    generalize varsP r = vr at *
    generalize itP y = vy at *
    have hfn : funcL (y :: r) = (funcL r || y.func) := rfl
    rw [hfn]
    generalize (funcL r || y.func) = fb at *
    generalize ((r.length + 1 : Nat) : Int) = i1 at *
    generalize ((insideL r + 1 + y.more : Nat) : Int) = i2 at *
    clear hfn hi hl
    cases hf : x.func <;> cases fb
    all_goals simp only [Bool.true_or, Bool.false_or, Bool.or_false, Bool.or_true]
    all_goals refine gg ?_
    all_goals refine call a1 ?_
    all_goals refine gg ?_
    all_goals refine call a2 ?_
    all_goals refine gg ?_
    all_goals refine ⟨by rfl, ?_⟩
    all_goals refine gg ?_
    all_goals exact ⟨by simp [retIs, resV, resL, resOne, mkTup, getS, getO, rdV, mkAgg, unL, V.un, TI.isAgg, XX_T, tt30, Tryz.f135], by simp [subO, getO, tt30, Tryz.f135]⟩
def fail (e : Int) : PV := .iface 179 (.agg [.int e])
theorem made_ok (x : It) (h : x.more < 1024) : AC Tryz.prog gl 127 [.pv (itP x)] [] (.ret (.pv (itP x))) [] := by
  have h' : ¬ (1024 : Int) ≤ x.more := by omega
  refine body [] Tryz.func127 Tryz.ntmps127 ?_
  rw [itP_eq]
  refine gg ?_
  exact ⟨by simp [retIs, resV, resL, resOne, mkTup, getS, getO, rdV, mkAgg, unL, V.un, TI.isAgg, XX_T, tt30, Tryz.f127], by simp [subO, getO, tt30, Tryz.f127]⟩
theorem made_err (x : It) (h : ¬ x.more < 1024) : AC Tryz.prog gl 127 [.pv (itP x)] [] (.panic (fail 4)) [] := by
  have h' : (1024 : Int) ≤ x.more := by omega
  unfold fail
  refine body [] Tryz.func127 Tryz.ntmps127 ?_
  rw [itP_eq]
  refine gg ?_
  refine pnc (t := 179) (p := .agg [.int 4]) ?_
  refine gg ?_
  exact ⟨rfl, trivial⟩
theorem want_ok (x : It) : AC Tryz.prog gl 130 [.pv (itP x), .pv (.int x.kind)] [] (.ret (.pv (.tuple []))) [] := by
  refine body [] Tryz.func130 Tryz.ntmps130 ?_
  rw [itP_eq]
  refine gg ?_
  exact ⟨by simp [retIs, resV, resL, resOne, mkTup, getS, getO, rdV, mkAgg, unL, V.un, TI.isAgg, XX_T, tt30, Tryz.f130], by simp [subO, getO, tt30, Tryz.f130]⟩
theorem want_err (x : It) (k : Int) (h : ¬ x.kind = k) : AC Tryz.prog gl 130 [.pv (itP x), .pv (.int k)] [] (.panic (fail 44)) [] := by
  unfold fail
  refine body [] Tryz.func130 Tryz.ntmps130 ?_
  rw [itP_eq]
  refine gg ?_
  refine pnc (t := 179) (p := .agg [.int 44]) ?_
  refine gg ?_
  exact ⟨rfl, trivial⟩
end Go.Proofs.YtodjpfpmhjdhbaaGreatDoor
