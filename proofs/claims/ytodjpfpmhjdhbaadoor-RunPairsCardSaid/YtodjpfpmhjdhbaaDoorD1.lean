/- Part of the proof of RunLimits and RunPairs: contracts of the machine's step and of its run; no conditions. -/
import Derived.Test.YtodjpfpmhjdhbaaDoorC8
import Derived.Test.YtodjpfpmhjdhbaaDoorA4
set_option linter.unusedVariables false
set_option linter.unusedSimpArgs false
set_option linter.unusedSectionVars false
namespace Go.Proofs.YtodjpfpmhjdhbaaDoor
open Go.Lg
set_option maxRecDepth 10000
set_option maxHeartbeats 4000000
theorem vsize_ok (l : List It) : AC Tryd.prog gl 52 [.pv (varsP l)] [] (.ret (.pv (.int l.length))) [] := by
  refine body [] Tryd.func52 Tryd.ntmps52 ?_
  cases l with
  | nil =>
    simp only [varsP]
    refine gg ?_
    exact ⟨by simp [retIs, resV, resL, resOne, mkTup, getS, getO, rdV, mkAgg, unL, V.un, TI.isAgg, XX_T, tt30, Tryd.f52], by simp [subO, getO, tt30, Tryd.f52]⟩
  | cons x r =>
    simp only [varsP]
    refine gg ?_
    exact ⟨by simp [retIs, resV, resL, resOne, mkTup, getS, getO, rdV, mkAgg, unL, V.un, TI.isAgg, XX_T, tt30, Tryd.f52], by simp [subO, getO, tt30, Tryd.f52]⟩
theorem lsize_ok (l : List Nat) : AC Tryd.prog gl 53 [.pv (linkP l)] [] (.ret (.pv (.int l.length))) [] := by
  refine body [] Tryd.func53 Tryd.ntmps53 ?_
  cases l with
  | nil =>
    simp only [linkP]
    refine gg ?_
    exact ⟨by simp [retIs, resV, resL, resOne, mkTup, getS, getO, rdV, mkAgg, unL, V.un, TI.isAgg, XX_T, tt30, Tryd.f53], by simp [subO, getO, tt30, Tryd.f53]⟩
  | cons x r =>
    simp only [linkP]
    refine gg ?_
    exact ⟨by simp [retIs, resV, resL, resOne, mkTup, getS, getO, rdV, mkAgg, unL, V.un, TI.isAgg, XX_T, tt30, Tryd.f53], by simp [subO, getO, tt30, Tryd.f53]⟩
theorem inside_ok (l : List It) : AC Tryd.prog gl 77 [.pv (varsP l)] [] (.ret (.pv (.int (insideL l)))) [] := by
  refine body [] Tryd.func77 Tryd.ntmps77 ?_
  cases l with
  | nil =>
    simp only [varsP, insideL]
    refine gg ?_
    exact ⟨by simp [retIs, resV, resL, resOne, mkTup, getS, getO, rdV, mkAgg, unL, V.un, TI.isAgg, XX_T, tt30, Tryd.f77], by simp [subO, getO, tt30, Tryd.f77]⟩
  | cons x r =>
    simp only [varsP, insideL]
    refine gg ?_
    exact ⟨by simp [retIs, resV, resL, resOne, mkTup, getS, getO, rdV, mkAgg, unL, V.un, TI.isAgg, XX_T, tt30, Tryd.f77], by simp [subO, getO, tt30, Tryd.f77]⟩
theorem number_item_ok (n : Int) : AC Tryd.prog gl 78 [.pv (.int n)] [] (.ret (.pv (.ptr [.int 1, .int n, .nil, .nil, .nil, .int 0, .nil, .int 0, .bool false]))) [] := by
  refine body [] Tryd.func78 Tryd.ntmps78 ?_
  refine gg ?_
  exact ⟨by simp [retIs, resV, resL, resOne, mkTup, getS, getO, rdV, mkAgg, unL, V.un, TI.isAgg, XX_T, tt30, Tryd.f78], by simp [subO, getO, tt30, Tryd.f78]⟩
theorem num_item_ok (n : Nat) : AC Tryd.prog gl 78 [.pv (.int n)] [] (.ret (.pv (itP (.num n)))) [] := by
  have := number_item_ok n
  simpa [itP] using this
theorem with_ok (l : List It) (x : It) (h1 : l.length ≤ 100000) (h2 : insideL l ≤ 100000) (h3 : x.more ≤ 100000) : AC Tryd.prog gl 84 [.pv (varsP l), .pv (itP x)] [] (.ret (.pv (varsP (x :: l)))) [] := by
  have a1 := vsize_ok l
  have a2 := inside_ok l
  refine body [] Tryd.func84 Tryd.ntmps84 ?_
  rw [itP_eq]
  simp only [varsP]
  rw [itP_eq]
  cases l with
  | nil =>
    simp only [varsP, insideL, List.length_nil, funcL, Bool.false_or] at *
    cases hf : x.func
    all_goals refine gg ?_
    all_goals refine call a1 ?_
    all_goals refine gg ?_
    all_goals refine call a2 ?_
    all_goals refine gg ?_
    all_goals refine ⟨by rfl, ?_⟩
    all_goals refine gg ?_
    all_goals exact ⟨by simp [retIs, resV, resL, resOne, mkTup, getS, getO, rdV, mkAgg, unL, V.un, TI.isAgg, XX_T, tt30, Tryd.f84], by simp [subO, getO, tt30, Tryd.f84]⟩
  | cons y r =>
    generalize hi : insideL (y :: r) = n at *
    generalize hl : (y :: r).length = m at *
    simp only [varsP] at *
    generalize varsP r = vr at *
    generalize itP y = vy at *
    have hfn : funcL (y :: r) = (funcL r || y.func) := rfl
    rw [hfn]
    generalize (funcL r || y.func) = fb at *
    generalize ((r.length + 1 : Nat) : Int) = i1 at *
    generalize ((insideL r + 1 + y.more : Nat) : Int) = i2 at *
    clear hfn hi hl
    cases hf : x.func <;> cases fb
    all_goals simp only [Bool.true_or, Bool.false_or, Bool.or_false, Bool.or_true]
    all_goals refine gg ?_
    all_goals refine call a1 ?_
    all_goals refine gg ?_
    all_goals refine call a2 ?_
    all_goals refine gg ?_
    all_goals refine ⟨by rfl, ?_⟩
    all_goals refine gg ?_
    all_goals exact ⟨by simp [retIs, resV, resL, resOne, mkTup, getS, getO, rdV, mkAgg, unL, V.un, TI.isAgg, XX_T, tt30, Tryd.f84], by simp [subO, getO, tt30, Tryd.f84]⟩
def fail (e : Int) : PV := .iface 126 (.agg [.int e])
theorem made_ok (x : It) (h : x.more < 1024) : AC Tryd.prog gl 76 [.pv (itP x)] [] (.ret (.pv (itP x))) [] := by
  have h' : ¬ (1024 : Int) ≤ x.more := by omega
  refine body [] Tryd.func76 Tryd.ntmps76 ?_
  rw [itP_eq]
  refine gg ?_
  exact ⟨by simp [retIs, resV, resL, resOne, mkTup, getS, getO, rdV, mkAgg, unL, V.un, TI.isAgg, XX_T, tt30, Tryd.f76], by simp [subO, getO, tt30, Tryd.f76]⟩
theorem made_err (x : It) (h : ¬ x.more < 1024) : AC Tryd.prog gl 76 [.pv (itP x)] [] (.panic (fail 4)) [] := by
  have h' : (1024 : Int) ≤ x.more := by omega
  unfold fail
  refine body [] Tryd.func76 Tryd.ntmps76 ?_
  rw [itP_eq]
  refine gg ?_
  refine pnc (t := 126) (p := .agg [.int 4]) ?_
  refine gg ?_
  exact ⟨rfl, trivial⟩
theorem want_ok (x : It) : AC Tryd.prog gl 79 [.pv (itP x), .pv (.int x.kind)] [] (.ret (.pv (.tuple []))) [] := by
  refine body [] Tryd.func79 Tryd.ntmps79 ?_
  rw [itP_eq]
  refine gg ?_
  exact ⟨by simp [retIs, resV, resL, resOne, mkTup, getS, getO, rdV, mkAgg, unL, V.un, TI.isAgg, XX_T, tt30, Tryd.f79], by simp [subO, getO, tt30, Tryd.f79]⟩
theorem want_err (x : It) (k : Int) (h : ¬ x.kind = k) : AC Tryd.prog gl 79 [.pv (itP x), .pv (.int k)] [] (.panic (fail 44)) [] := by
  unfold fail
  refine body [] Tryd.func79 Tryd.ntmps79 ?_
  rw [itP_eq]
  refine gg ?_
  refine pnc (t := 126) (p := .agg [.int 44]) ?_
  refine gg ?_
  exact ⟨rfl, trivial⟩
end Go.Proofs.YtodjpfpmhjdhbaaDoor
