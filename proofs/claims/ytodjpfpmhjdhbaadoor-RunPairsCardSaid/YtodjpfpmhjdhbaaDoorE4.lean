/- Part of the proof of RunLimits and RunPairs: contracts of the checks, of cells and values, of Run and Call; no conditions. -/
import Derived.Test.YtodjpfpmhjdhbaaDoorE1
set_option linter.unusedVariables false
set_option linter.unusedSimpArgs false
set_option linter.unusedSectionVars false
namespace Go.Proofs.YtodjpfpmhjdhbaaDoor
open Go.Lg
set_option maxRecDepth 10000
set_option maxHeartbeats 4000000
theorem nodes_7 : AC Tryd.prog gl 50 [.pv (.agg [.int 1, .int 7, .nils, .nils])] [] (.ret (.pv (.tuple [.int 1, .bool true]))) [] := by
  refine body [] Tryd.func50 Tryd.ntmps50 ?_
  refine gg ?_
  refine ex_loop 1 (ex_round ?_)
  refine gg ?_
  exact ⟨by simp [retIs, resV, resL, resOne, mkTup, getS, getO, rdV, mkAgg, unL, V.un, TI.isAgg, XX_T, tt30, Tryd.f50], by simp [subO, getO, tt30, Tryd.f50]⟩
theorem vcheck_7 : AC Tryd.prog gl 25 [.pv (.agg [.int 1, .int 7, .nils, .nils])] [] (.ret (.pv (.int 0))) [] := by
  have h := nodes_7
  refine body [] Tryd.func25 Tryd.ntmps25 ?_
  refine gg ?_
  refine call h ?_
  refine gg ?_
  exact ⟨by simp [retIs, resV, resL, resOne, mkTup, getS, getO, rdV, mkAgg, unL, V.un, TI.isAgg, XX_T, tt30, Tryd.f25], by simp [subO, getO, tt30, Tryd.f25]⟩
theorem nodes_8 : AC Tryd.prog gl 50 [.pv (.agg [.int 1, .int 7, .slice [], .nils])] [] (.ret (.pv (.tuple [.int 1, .bool true]))) [] := by
  refine body [] Tryd.func50 Tryd.ntmps50 ?_
  refine gg ?_
  refine ex_loop 1 (ex_round ?_)
  refine gg ?_
  exact ⟨by simp [retIs, resV, resL, resOne, mkTup, getS, getO, rdV, mkAgg, unL, V.un, TI.isAgg, XX_T, tt30, Tryd.f50], by simp [subO, getO, tt30, Tryd.f50]⟩
theorem vcheck_8 : AC Tryd.prog gl 25 [.pv (.agg [.int 1, .int 7, .slice [], .nils])] [] (.ret (.pv (.int 0))) [] := by
  have h := nodes_8
  refine body [] Tryd.func25 Tryd.ntmps25 ?_
  refine gg ?_
  refine call h ?_
  refine gg ?_
  exact ⟨by simp [retIs, resV, resL, resOne, mkTup, getS, getO, rdV, mkAgg, unL, V.un, TI.isAgg, XX_T, tt30, Tryd.f25], by simp [subO, getO, tt30, Tryd.f25]⟩
theorem from_7 : AC Tryd.prog gl 27 [.pv (.agg [.int 1, .int 7, .nils, .nils])] [] (.ret (.pv (itP (.num 7)))) [] := by
  simp only [itP]
  refine body [(12, .box 905)] Tryd.func27 Tryd.ntmps27 ?_
  refine gg ?_
  refine ex_loop 1 (ex_round ?_)
  refine gg ?_
  refine ex_loop 1 (ex_round ?_)
  refine fb 905 (ps := [.int 1, .int 7, .nil, .nil, .nil, .int 0, .nil, .int 0, .bool false]) ?_
  refine gg ?_
  exact ⟨by simp [retIs, resV, resL, resOne, mkTup, getS, getO, rdV, mkAgg, unL, V.un, TI.isAgg, XX_T, tt30, Tryd.f27], by simp [subO, getO, tt30, Tryd.f27]⟩
theorem of_7 : AC Tryd.prog gl 28 [.pv (.agg [.int 1, .int 7, .int 0, .nils, .nils]), .loc 906 0] [(906, .box [.pv (.int 0)])] (.ret (.pv (.tuple [.agg [.int 1, .int 7, .slice [], .nils], .bool true]))) [(906, .box [.pv (.int 1)])] := by
  refine body [(37, .arr 907 1 3)] Tryd.func28 Tryd.ntmps28 ?_
  refine gg ?_
  refine ⟨by rfl, ?_⟩
  refine gg ?_
  refine frz 907 (es := []) ?_
  refine ex_loop 1 (ex_round ?_)
  refine gg ?_
  exact ⟨by simp [retIs, resV, resL, resOne, mkTup, getS, getO, rdV, mkAgg, unL, V.un, TI.isAgg, XX_T, tt51, Tryd.f28], by simp [subO, getO, tt51, Tryd.f28]⟩
theorem value_7 : AC Tryd.prog gl 16 [.pv (.agg [.int 1, .int 7, .int 0, .nils, .nils])] [] (.ret (.pv (.tuple [.agg [.int 1, .int 7, .slice [], .nils], .bool true]))) [] := by
  have h1 := of_7
  have h2 := vcheck_8
  refine body [(4, .box 906)] Tryd.func16 Tryd.ntmps16 ?_
  refine gg ?_
  refine call h1 ?_
  refine gg ?_
  refine call h2 ?_
  refine gg ?_
  exact ⟨by simp [retIs, resV, resL, resOne, mkTup, getS, getO, rdV, mkAgg, unL, V.un, TI.isAgg, XX_T, tt51, Tryd.f16], by simp [subO, getO, tt51, Tryd.f16]⟩
theorem cell_7 : AC Tryd.prog gl 15 [.pv (.agg [.int 1, .int 7, .nils, .nils])] [] (.ret (.pv (.tuple [.agg [.int 1, .int 7, .int 0, .nils, .nils], .int 0]))) [] := by
  have h1 := vcheck_7
  have h2 := from_7
  have h3 := outside_ok (b := 7) (.num 7) (by simp [Bd])
  simp only [itP, itCell, Int.cast_ofNat_Int] at h2 h3
  refine body [] Tryd.func15 Tryd.ntmps15 ?_
  refine gg ?_
  refine call h1 ?_
  refine gg ?_
  refine call h2 ?_
  refine gg ?_
  refine call h3 ?_
  refine gg ?_
  exact ⟨by simp [retIs, resV, resL, resOne, mkTup, getS, getO, rdV, mkAgg, unL, V.un, TI.isAgg, XX_T, tt42, Tryd.f15], by simp [subO, getO, tt42, Tryd.f15]⟩
end Go.Proofs.YtodjpfpmhjdhbaaDoor
namespace Go.Proofs.YtodjpfpmhjdhbaaDoor
open Go.Lg
set_option maxRecDepth 10000
set_option maxHeartbeats 4000000
theorem limits_4 : AC Tryd.prog gl 10 [.pv (.int 4)] [] (.ret (.pv (.bool true))) [] := by
  refine body [] Tryd.func10 Tryd.ntmps10 ?_
  refine gg ?_
  exact ⟨by simp [retIs, resV, resL, resOne, mkTup, getS, getO, rdV, mkAgg, unL, V.un, TI.isAgg, XX_T, tt30, Tryd.f10], by simp [subO, getO, tt30, Tryd.f10]⟩
theorem limits_5 : AC Tryd.prog gl 10 [.pv (.int 5)] [] (.ret (.pv (.bool true))) [] := by
  refine body [] Tryd.func10 Tryd.ntmps10 ?_
  refine gg ?_
  exact ⟨by simp [retIs, resV, resL, resOne, mkTup, getS, getO, rdV, mkAgg, unL, V.un, TI.isAgg, XX_T, tt30, Tryd.f10], by simp [subO, getO, tt30, Tryd.f10]⟩
theorem same_num (n : Nat) : AC Tryd.prog gl 12 [.pv (.agg (itCell (.num n))), .pv (.agg (itCell (.num n)))] [] (.ret (.pv (.bool true))) [] := by
  simp only [itCell]
  refine body [] Tryd.func12 Tryd.ntmps12 ?_
  refine gg ?_
  refine ex_loop 1 (ex_round ?_)
  refine gg ?_
  refine ex_loop 1 (ex_round ?_)
  refine gg ?_
  exact ⟨by simp [retIs, resV, resL, resOne, mkTup, getS, getO, rdV, mkAgg, unL, V.un, TI.isAgg, XX_T, tt30, Tryd.f12], by simp [subO, getO, tt30, Tryd.f12]⟩
theorem same_unit : AC Tryd.prog gl 12 [.pv (.agg (itCell .unit)), .pv (.agg (itCell .unit))] [] (.ret (.pv (.bool true))) [] := by
  simp only [itCell]
  refine body [] Tryd.func12 Tryd.ntmps12 ?_
  refine gg ?_
  refine ex_loop 1 (ex_round ?_)
  refine gg ?_
  refine ex_loop 1 (ex_round ?_)
  refine gg ?_
  exact ⟨by simp [retIs, resV, resL, resOne, mkTup, getS, getO, rdV, mkAgg, unL, V.un, TI.isAgg, XX_T, tt30, Tryd.f12], by simp [subO, getO, tt30, Tryd.f12]⟩
theorem limits_0 : AC Tryd.prog gl 10 [.pv (.int 0)] [] (.ret (.pv (.bool false))) [] := by
  refine body [] Tryd.func10 Tryd.ntmps10 ?_
  refine gg ?_
  exact ⟨by simp [retIs, resV, resL, resOne, mkTup, getS, getO, rdV, mkAgg, unL, V.un, TI.isAgg, XX_T, tt30, Tryd.f10], by simp [subO, getO, tt30, Tryd.f10]⟩
theorem same_nil : AC Tryd.prog gl 12 [.pv (.agg (itCell (.list []))), .pv (.agg (itCell (.list [])))] [] (.ret (.pv (.bool true))) [] := by
  simp only [itCell, numsP]
  refine body [] Tryd.func12 Tryd.ntmps12 ?_
  refine gg ?_
  refine ex_loop 1 (ex_round ?_)
  refine gg ?_
  refine ex_loop 1 (ex_round ?_)
  refine gg ?_
  exact ⟨by simp [retIs, resV, resL, resOne, mkTup, getS, getO, rdV, mkAgg, unL, V.un, TI.isAgg, XX_T, tt30, Tryd.f12], by simp [subO, getO, tt30, Tryd.f12]⟩
noncomputable def sI (cc : List (List PV)) (k : Nat) : St := ⟨[(2, .pv (.ptr [.int 2, .int 0, .int 0, .slice cc, .nils])), (3, .pv (.ptr [.int 2, .int 0, .int 0, .slice cc, .nils])), (5, .pv (.int k))], [], []⟩
theorem same_cons (l : List Nat) (hl : l ≠ []) (hb : l.length ≤ 1024) : AC Tryd.prog gl 12 [.pv (.agg (itCell (.list l))), .pv (.agg (itCell (.list l)))] [] (.ret (.pv (.bool true))) [] := by
  have e : numsP l = .slice (numsC l) := by cases l with | nil => exact absurd rfl hl | cons _ _ => rfl
  simp only [itCell, e]
  have hal : ∀ y ∈ numsC l, y.length = 1 := by
    intro y hy
    simp only [numsC, List.mem_map] at hy
    obtain ⟨x, _, rfl⟩ := hy
    rfl
  have hlen : (numsC l).length = l.length := by simp [numsC]
  have hg : ∀ k, k < l.length → ∃ a : Nat, (numsC l).getD k [] = [.int a] := by
    intro k hk
    refine ⟨l[k], ?_⟩
    simp [numsC, List.getD, hk]
  clear e hl
  generalize numsC l = cc at *
  generalize l.length = n at *
  refine body [] Tryd.func12 Tryd.ntmps12 ?_
  refine gg ?_
  refine AWP.loopN n (sI cc) ?_ ?_
  · refine ⟨by simp [sI, slotsLe, getS], by simp [sI, subO, getO], by simp [sI, subL, namesSl, V.names, namesOb, Ob.names, XX_given]⟩
  intro k hkn
  unfold sI
  by_cases hk : k < n
  · obtain ⟨a, ha⟩ := hg k hk
    have k1 : (k : Int) < n := by omega
    have k2 : (0 : Int) ≤ (k : Int) := by omega
    clear hg
    refine gg ?_
    refine ⟨by rfl, ?_⟩
    refine gg ?_
    refine ⟨hk, ?_, ?_, ?_⟩
    · simp [slotsLe, getS]
    · simp [subO, getO]
    · simp [subL, namesSl, V.names, namesOb, Ob.names, XX_given]
  · obtain rfl : k = n := by omega
    have k1 : ¬ (k : Int) < k := by omega
    clear hg
    refine gg ?_
    refine ex_loop 1 (ex_round ?_)
    refine gg ?_
    exact ⟨by simp [retIs, resV, resL, resOne, mkTup, getS, getO, rdV, mkAgg, unL, V.un, TI.isAgg, XX_T, tt30, Tryd.f12], by simp [subO, getO, tt30, Tryd.f12]⟩
theorem same_pair (a b : It) (ha : AC Tryd.prog gl 12 [.pv (.agg (itCell a)), .pv (.agg (itCell a))] [] (.ret (.pv (.bool true))) []) (hb : AC Tryd.prog gl 12 [.pv (.agg (itCell b)), .pv (.agg (itCell b))] [] (.ret (.pv (.bool true))) []) :
    AC Tryd.prog gl 12 [.pv (.agg (itCell (.pair a b))), .pv (.agg (itCell (.pair a b)))] [] (.ret (.pv (.bool true))) [] := by
  obtain ⟨k1, n1, a1, s1, s2, ea, hs1, hs2⟩ := itCell_shape a
  obtain ⟨k3, n3, a3, s3, s4, eb, hs3, hs4⟩ := itCell_shape b
  have w1 := vcells_one hs1
  have w2 := vcells_one hs2
  have w3 := vcells_one hs3
  have w4 := vcells_one hs4
  have u1 : (V.pv s1).one = true := by rw [one_pv]; exact hs1
  have u2 : (V.pv s2).one = true := by rw [one_pv]; exact hs2
  have u3 : (V.pv s3).one = true := by rw [one_pv]; exact hs3
  have u4 : (V.pv s4).one = true := by rw [one_pv]; exact hs4
  simp only [itCell, ea, eb] at ha hb ⊢
  clear ea eb
  refine body [] Tryd.func12 Tryd.ntmps12 ?_
  refine gg ?_
  refine ex_loop 1 (ex_round ?_)
  refine gg ?_
  refine ex_loop 3 (ex_round ?_)
  refine gg ?_
  refine call ha ?_
  refine gg ?_
  refine ⟨by rfl, ?_⟩
  refine gg ?_
  refine ex_round ?_
  refine gg ?_
  refine call hb ?_
  refine gg ?_
  refine ⟨by rfl, ?_⟩
  refine gg ?_
  refine ex_round ?_
  refine gg ?_
  exact ⟨by simp [retIs, resV, resL, resOne, mkTup, getS, getO, rdV, mkAgg, unL, V.un, TI.isAgg, XX_T, tt30, Tryd.f12], by simp [subO, getO, tt30, Tryd.f12]⟩
theorem cells_same {b : Nat} {x : It} (hx : Dat x) : Bd b x → AC Tryd.prog gl 12 [.pv (.agg (itCell x)), .pv (.agg (itCell x))] [] (.ret (.pv (.bool true))) [] := by
  induction hx with
  | num n => intro _; exact same_num n
  | unit => intro _; exact same_unit
  | list l =>
    intro h
    simp only [Bd] at h
    by_cases e : l = []
    · subst e; exact same_nil
    · exact same_cons l e h.1
  | pair ha hb i j =>
    intro h
    simp only [Bd] at h
    exact same_pair _ _ (i h.1) (j h.2.1)
end Go.Proofs.YtodjpfpmhjdhbaaDoor
