/- Part of the proof of RunLimits and RunPairs: the contract of the law's own function; no conditions. -/
import Derived.Test.YtodjpfpmhjdhbaaDoorE5
set_option linter.unusedVariables false
set_option linter.unusedSimpArgs false
set_option linter.unusedSectionVars false
namespace Go.Proofs.YtodjpfpmhjdhbaaDoor
open Go.Lg
set_option maxRecDepth 10000
set_option maxHeartbeats 4000000
theorem many_limits (L : List Int) (hL : ¬ L.length ≤ 500) : AC Tryd.prog gl 3 [.pv (.slice (ints L))] [] (.ret (.pv (.bool true))) [] := by
  have h1 := awake_ok
  have h2 := few_ok L
  have e : decide (L.length ≤ 500) = false := by simp [hL]
  rw [e] at h2
  generalize ints L = cc at *
  refine body [] Tryd.func3 Tryd.ntmps3 ?_
  refine gg ?_
  refine call h1 ?_
  refine gg ?_
  refine call h2 ?_
  refine gg ?_
  refine call h1 ?_
  refine gg ?_
  exact ⟨by simp [retIs, resV, resL, resOne, mkTup, getS, getO, rdV, mkAgg, unL, V.un, TI.isAgg, XX_T, tt30, Tryd.f3], by simp [subO, getO, tt30, Tryd.f3]⟩
theorem law_limits (L : List Int) : AC Tryd.prog gl 3 [.pv (.slice (ints L))] [] (.ret (.pv (.bool true))) [] := by
  by_cases hL : L.length ≤ 500
  · have h1 := awake_ok
    have h2 := few_ok L
    have h3 := new_ok L
    obtain ⟨tm, τ, at', hd, h4⟩ := data_ok L hL 0
    have h5 := compile_ok tm hd.wf (by have := hd.size; omega)
    have e : decide (L.length ≤ 500) = true := by simp [hL]
    rw [e] at h2
    have l4 := limits_4
    have l5 := limits_5
    rw [tm.cells_eq] at h4 h5
    rw [τ.cells_eq] at h4
    unfold deck at *
    generalize ints L = cc at *
    generalize tm.kind = tk at *
    generalize tm.idx = ti at *
    generalize tm.ty.kind = tyk at *
    generalize tm.ty.args.map Ty.cells = tya at *
    generalize tm.args.map Tm.cells = tma at *
    generalize τ.kind = tak at *
    generalize τ.args.map Ty.cells = taa at *
    by_cases hc : (finC tm).code.length ≤ 4096
    · rw [if_pos hc, if_pos hc] at h5
      have hG := goodC hd.ty hc (by have := hd.size; omega)
      have hO := fin_okc hd.ty hc (by have := hd.size; omega)
      rcases run_ends hd.ty hd.plain 20000 with ⟨er, hr, he⟩ | ⟨m, x, hr, hs, hx, hle, -⟩
      · have h6 := run_is_err _ hG hO 20000 er (by omega) (by omega) hr
        have h7 : AC Tryd.prog gl 10 [.pv (.int er)] [] (.ret (.pv (.bool true))) [] := by
          rcases he with rfl | rfl
          · exact l4
          · exact l5
        have he0 : ¬ (er : Int) = 0 := by omega
        clear hG hO hr hc hd he
        generalize (finC tm).code.map insP = pc at *
        simp only [Int.cast_ofNat_Int] at h6
        refine body [] Tryd.func3 Tryd.ntmps3 ?_
        refine gg ?_
        refine call h1 ?_
        refine gg ?_
        refine call h2 ?_
        refine gg ?_
        refine call h3 ?_
        refine gg ?_
        refine call h4 ?_
        refine gg ?_
        refine call h5 ?_
        refine gg ?_
        refine call h6 ?_
        refine gg ?_
        refine call h7 ?_
        refine gg ?_
        exact ⟨by simp [retIs, resV, resL, resOne, mkTup, getS, getO, rdV, mkAgg, unL, V.un, TI.isAgg, XX_T, tt30, Tryd.f3], by simp [subO, getO, tt30, Tryd.f3]⟩
      · obtain ⟨r1, r2, r3⟩ := runs_more hr m rfl
        simp only [ms0] at r1 r3
        have h6 := run_is_fine _ hG hO 20000 (by omega) m x hr hs hx
        have h7 := run_is_fine _ hG hO m.steps (by omega) m x (r2 _ (Nat.le_refl _)) hs hx
        have h8 := run_is_err _ hG hO (m.steps - 1) 5 (by omega) (by omega) (r3 _ (by omega) (by omega))
        have h9 := cells_same hx (run_bd hr hs)
        have e1 : ((m.steps - 1 : Nat) : Int) = (m.steps : Int) - 1 := by omega
        rw [e1] at h8
        obtain ⟨k1, n1, a1, s1, s2, ea, hs1, hs2⟩ := itCell_shape x
        have w1 := vcells_one hs1
        have w2 := vcells_one hs2
        have u1 : (V.pv s1).one = true := by rw [one_pv]; exact hs1
        have u2 : (V.pv s2).one = true := by rw [one_pv]; exact hs2
        rw [ea] at h6 h7 h9
        clear hG hO hr hc hd r2 r3 hs hx e1 ea
        generalize (finC tm).code.map insP = pc at *
        generalize m.steps = n at *
        simp only [Int.cast_ofNat_Int] at h6 h8
        refine body [] Tryd.func3 Tryd.ntmps3 ?_
        refine gg ?_
        refine call h1 ?_
        refine gg ?_
        refine call h2 ?_
        refine gg ?_
        refine call h3 ?_
        refine gg ?_
        refine call h4 ?_
        refine gg ?_
        refine call h5 ?_
        refine gg ?_
        refine call h6 ?_
        refine gg ?_
        refine call h7 ?_
        refine gg ?_
        refine call h8 ?_
        refine gg ?_
        refine call h9 ?_
        refine gg ?_
        exact ⟨by simp [retIs, resV, resL, resOne, mkTup, getS, getO, rdV, mkAgg, unL, V.un, TI.isAgg, XX_T, tt30, Tryd.f3], by simp [subO, getO, tt30, Tryd.f3]⟩
    · rw [if_neg hc, if_neg hc] at h5
      clear hc hd
      refine body [] Tryd.func3 Tryd.ntmps3 ?_
      refine gg ?_
      refine call h1 ?_
      refine gg ?_
      refine call h2 ?_
      refine gg ?_
      refine call h3 ?_
      refine gg ?_
      refine call h4 ?_
      refine gg ?_
      refine call h5 ?_
      refine gg ?_
      refine call l4 ?_
      refine gg ?_
      exact ⟨by simp [retIs, resV, resL, resOne, mkTup, getS, getO, rdV, mkAgg, unL, V.un, TI.isAgg, XX_T, tt30, Tryd.f3], by simp [subO, getO, tt30, Tryd.f3]⟩
  · exact many_limits L hL
end Go.Proofs.YtodjpfpmhjdhbaaDoor
