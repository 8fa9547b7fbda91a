/- Part of the proof: contracts of the checks, of cells and values, of Run and Call; no conditions. -/
import Derived.Test.YtodjpfpmhjdhbaaGreatDoorCallsE1
set_option linter.unusedVariables false
set_option linter.unusedSimpArgs false
set_option linter.unusedSectionVars false
namespace Go.Proofs.YtodjpfpmhjdhbaaGreatDoor
open Go.Lg
set_option maxRecDepth 10000
set_option maxHeartbeats 4000000
theorem nodes_7 : AC Tryz.prog gl 85 [.pv (.agg [.int 1, .int 7, .nils, .nils])] [] (.ret (.pv (.tuple [.int 1, .bool true]))) [] := by
  refine body [] Tryz.func85 Tryz.ntmps85 ?_
  refine gg ?_
  refine ex_loop 1 (ex_round ?_)
  refine gg ?_
  exact ⟨by simp [retIs, resV, resL, resOne, mkTup, getS, getO, rdV, mkAgg, unL, V.un, TI.isAgg, XX_T, tt30, Tryz.f85], by simp [subO, getO, tt30, Tryz.f85]⟩
theorem vcheck_7 : AC Tryz.prog gl 44 [.pv (.agg [.int 1, .int 7, .nils, .nils])] [] (.ret (.pv (.int 0))) [] := by
  have h := nodes_7
  refine body [] Tryz.func44 Tryz.ntmps44 ?_
  refine gg ?_
  refine call h ?_
  refine gg ?_
  exact ⟨by simp [retIs, resV, resL, resOne, mkTup, getS, getO, rdV, mkAgg, unL, V.un, TI.isAgg, XX_T, tt30, Tryz.f44], by simp [subO, getO, tt30, Tryz.f44]⟩
theorem nodes_8 : AC Tryz.prog gl 85 [.pv (.agg [.int 1, .int 7, .slice [], .nils])] [] (.ret (.pv (.tuple [.int 1, .bool true]))) [] := by
  refine body [] Tryz.func85 Tryz.ntmps85 ?_
  refine gg ?_
  refine ex_loop 1 (ex_round ?_)
  refine gg ?_
  exact ⟨by simp [retIs, resV, resL, resOne, mkTup, getS, getO, rdV, mkAgg, unL, V.un, TI.isAgg, XX_T, tt30, Tryz.f85], by simp [subO, getO, tt30, Tryz.f85]⟩
theorem vcheck_8 : AC Tryz.prog gl 44 [.pv (.agg [.int 1, .int 7, .slice [], .nils])] [] (.ret (.pv (.int 0))) [] := by
  have h := nodes_8
  refine body [] Tryz.func44 Tryz.ntmps44 ?_
  refine gg ?_
  refine call h ?_
  refine gg ?_
  exact ⟨by simp [retIs, resV, resL, resOne, mkTup, getS, getO, rdV, mkAgg, unL, V.un, TI.isAgg, XX_T, tt30, Tryz.f44], by simp [subO, getO, tt30, Tryz.f44]⟩
theorem from_7 : AC Tryz.prog gl 66 [.pv (.agg [.int 1, .int 7, .nils, .nils])] [] (.ret (.pv (itP (.num 7)))) [] := by
  simp only [itP]
  refine body [(12, .box 905)] Tryz.func66 Tryz.ntmps66 ?_
  refine gg ?_
  refine ex_loop 1 (ex_round ?_)
  refine gg ?_
  refine ex_loop 1 (ex_round ?_)
  refine fb 905 (ps := [.int 1, .int 7, .nil, .nil, .nil, .int 0, .nil, .int 0, .bool false]) ?_
  refine gg ?_
  exact ⟨by simp [retIs, resV, resL, resOne, mkTup, getS, getO, rdV, mkAgg, unL, V.un, TI.isAgg, XX_T, tt30, Tryz.f66], by simp [subO, getO, tt30, Tryz.f66]⟩
theorem of_7 : AC Tryz.prog gl 43 [.pv (.agg [.int 1, .int 7, .int 0, .nils, .nils]), .loc 906 0] [(906, .box [.pv (.int 0)])] (.ret (.pv (.tuple [.agg [.int 1, .int 7, .slice [], .nils], .bool true]))) [(906, .box [.pv (.int 1)])] := by
  refine body [(37, .arr 907 1 3)] Tryz.func43 Tryz.ntmps43 ?_
  refine gg ?_
  refine ⟨by rfl, ?_⟩
  refine gg ?_
  refine frz 907 (es := []) ?_
  refine ex_loop 1 (ex_round ?_)
  refine gg ?_
  exact ⟨by simp [retIs, resV, resL, resOne, mkTup, getS, getO, rdV, mkAgg, unL, V.un, TI.isAgg, XX_T, tt41, Tryz.f43], by simp [subO, getO, tt41, Tryz.f43]⟩
theorem value_7 : AC Tryz.prog gl 15 [.pv (.agg [.int 1, .int 7, .int 0, .nils, .nils])] [] (.ret (.pv (.tuple [.agg [.int 1, .int 7, .slice [], .nils], .bool true]))) [] := by
  have h1 := of_7
  have h2 := vcheck_8
  refine body [(4, .box 906)] Tryz.func15 Tryz.ntmps15 ?_
  refine gg ?_
  refine call h1 ?_
  refine gg ?_
  refine call h2 ?_
  refine gg ?_
  exact ⟨by simp [retIs, resV, resL, resOne, mkTup, getS, getO, rdV, mkAgg, unL, V.un, TI.isAgg, XX_T, tt41, Tryz.f15], by simp [subO, getO, tt41, Tryz.f15]⟩
theorem cell_7 : AC Tryz.prog gl 35 [.pv (.agg [.int 1, .int 7, .nils, .nils])] [] (.ret (.pv (.tuple [.agg [.int 1, .int 7, .int 0, .nils, .nils], .int 0]))) [] := by
  have h1 := vcheck_7
  have h2 := from_7
  have h3 := outside_ok (b := 7) (.num 7) (by simp [Bd])
  simp only [itP, itCell, Int.cast_ofNat_Int] at h2 h3
  refine body [] Tryz.func35 Tryz.ntmps35 ?_
  refine gg ?_
  refine call h1 ?_
  refine gg ?_
  refine call h2 ?_
  refine gg ?_
  refine call h3 ?_
  refine gg ?_
  exact ⟨by simp [retIs, resV, resL, resOne, mkTup, getS, getO, rdV, mkAgg, unL, V.un, TI.isAgg, XX_T, tt47, Tryz.f35], by simp [subO, getO, tt47, Tryz.f35]⟩
end Go.Proofs.YtodjpfpmhjdhbaaGreatDoor
namespace Go.Proofs.YtodjpfpmhjdhbaaGreatDoor
open Go.Lg
set_option maxRecDepth 10000
set_option maxHeartbeats 4000000
theorem limits_4 : AC Tryz.prog gl 13 [.pv (.int 4)] [] (.ret (.pv (.bool true))) [] := by
  refine body [] Tryz.func13 Tryz.ntmps13 ?_
  refine gg ?_
  exact ⟨by simp [retIs, resV, resL, resOne, mkTup, getS, getO, rdV, mkAgg, unL, V.un, TI.isAgg, XX_T, tt30, Tryz.f13], by simp [subO, getO, tt30, Tryz.f13]⟩
theorem limits_5 : AC Tryz.prog gl 13 [.pv (.int 5)] [] (.ret (.pv (.bool true))) [] := by
  refine body [] Tryz.func13 Tryz.ntmps13 ?_
  refine gg ?_
  exact ⟨by simp [retIs, resV, resL, resOne, mkTup, getS, getO, rdV, mkAgg, unL, V.un, TI.isAgg, XX_T, tt30, Tryz.f13], by simp [subO, getO, tt30, Tryz.f13]⟩
theorem limits_0 : AC Tryz.prog gl 13 [.pv (.int 0)] [] (.ret (.pv (.bool false))) [] := by
  refine body [] Tryz.func13 Tryz.ntmps13 ?_
  refine gg ?_
  exact ⟨by simp [retIs, resV, resL, resOne, mkTup, getS, getO, rdV, mkAgg, unL, V.un, TI.isAgg, XX_T, tt30, Tryz.f13], by simp [subO, getO, tt30, Tryz.f13]⟩
end Go.Proofs.YtodjpfpmhjdhbaaGreatDoor
