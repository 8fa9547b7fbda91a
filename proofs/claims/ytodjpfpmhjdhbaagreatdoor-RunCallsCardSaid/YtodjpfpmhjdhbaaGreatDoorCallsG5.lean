/- Part of the proof: the contract of the law's own function; no conditions. -/
import Derived.Test.YtodjpfpmhjdhbaaGreatDoorCallsG3
import Derived.Test.YtodjpfpmhjdhbaaGreatDoorCallsG4
import Derived.Test.YtodjpfpmhjdhbaaGreatDoorCallsG1
set_option linter.unusedVariables false
set_option linter.unusedSimpArgs false
set_option linter.unusedSectionVars false
/- run.Check, run.Returned and run.Call with one or two values (printed by call7.py). -/
namespace Go.Proofs.YtodjpfpmhjdhbaaGreatDoor
open Go.Lg
set_option maxRecDepth 10000
set_option maxHeartbeats 4000000
theorem rchk_1 (cc : List (List PV)) (l : Nat) (hl : l ≤ 65536) (v1 : List PV) (sv1 : ∃ k m s q, v1 = [.int k, .int m, s, q] ∧ s.one = true ∧ q.one = true) (h : AC Tryz.prog gl 83 [.pv (.slice cc)] [] (.ret (.pv (.int 0))) []) (hK1 : AC Tryz.prog gl 44 [.pv (.agg v1)] [] (.ret (.pv (.int 0))) []) : AC Tryz.prog gl 41 [.pv (.slice cc), .pv (.slice [v1]), .pv (.int l)] [] (.ret (.pv (.int 0))) [] := by
  have g1 : ¬ (l : Int) < 0 := by omega
  have g2 : ¬ (65536 : Int) < l := by omega
  obtain ⟨kv1, mv1, sv1, qv1, rfl, ov1, ov1'⟩ := sv1
  have wv1 := vcells_one ov1
  have wv1' := vcells_one ov1'
  have zv1 : (V.pv sv1).one = true := by rw [one_pv]; exact ov1
  have zv1' : (V.pv qv1).one = true := by rw [one_pv]; exact ov1'
  refine body [] Tryz.func41 Tryz.ntmps41 ?_
  refine gg ?_
  refine call h ?_
  refine gg ?_
  refine ex_loop 2 (ex_round ?_)
  refine gg ?_
  refine call hK1 ?_
  refine gg ?_
  refine ex_round ?_
  refine kp [0, 1, 2, 6, 22, 23, 24] [] ?_
  refine gg ?_
  exact ⟨by simp [retIs, resV, resL, resOne, mkTup, getS, getO, rdV, mkAgg, unL, V.un, TI.isAgg, XX_T, tt30, Tryz.f41], by simp [subO, getO, tt30, Tryz.f41]⟩
theorem retd_1_e (c : List Ins) (l : Nat) (z1 : It) (v1 : List PV) (sv1 : ∃ k m s q, v1 = [.int k, .int m, s, q] ∧ s.one = true ∧ q.one = true) (hF1 : AC Tryz.prog gl 66 [.pv (.agg v1)] [] (.ret (.pv (itP z1))) []) (e : Nat) (he : ¬ e = 0) (hg : AC Tryz.prog gl 84 [.loc 901 0, .pv (.slice ([z1].map itC))] [(901, mB0 c l)] (.ret (.pv (.tuple [.nil, .int e]))) []) :
    AC Tryz.prog gl 55 [.loc 901 0, .pv (.slice [v1])] [(901, mB0 c l)] (.ret (.pv (.tuple [.agg [.int 0, .int 0, .nils, .nils], .int e]))) [] := by
  have he' : ¬ (e : Int) = 0 := by omega
  obtain ⟨kv1, mv1, sv1, qv1, rfl, ov1, ov1'⟩ := sv1
  have wv1 := vcells_one ov1
  have wv1' := vcells_one ov1'
  have zv1 : (V.pv sv1).one = true := by rw [one_pv]; exact ov1
  have zv1' : (V.pv qv1).one = true := by rw [one_pv]; exact ov1'
  have e1 := itP_one z1
  have a1 := vcells_one (itP_one z1)
  have b1 : (V.pv (itP z1)).one = true := by rw [one_pv]; exact itP_one z1
  simp only [List.map_cons, List.map_nil, itC] at hg
  unfold mB0 at *
  generalize c.map insP = cc at *
  generalize itP z1 = y1 at *
  clear he
  refine body [(6, .arr 908 1 132)] Tryz.func55 Tryz.ntmps55 ?_
  refine gg ?_
  refine ex_loop 2 (ex_round ?_)
  refine gg ?_
  refine call hF1 ?_
  refine gg ?_
  refine ex_round ?_
  refine kp [0, 1, 4, 5, 6, 13, 14, 15] [4, 901, 908] ?_
  refine frz 908 (es := [[y1]]) ?_
  refine gg ?_
  refine call hg ?_
  refine gg ?_
  exact ⟨by simp [retIs, resV, resL, resOne, mkTup, getS, getO, rdV, mkAgg, unL, V.un, TI.isAgg, XX_T, tt41, Tryz.f55], by simp [subO, getO, tt41, Tryz.f55]⟩
theorem retd_1_f (c : List Ins) (l : Nat) (z1 : It) (v1 : List PV) (sv1 : ∃ k m s q, v1 = [.int k, .int m, s, q] ∧ s.one = true ∧ q.one = true) (hF1 : AC Tryz.prog gl 66 [.pv (.agg v1)] [] (.ret (.pv (itP z1))) []) (x : It) (n : Nat) (w : List PV) (sw : ∃ k m s q, w = [.int k, .int m, s, q] ∧ s.one = true ∧ q.one = true) (hg : AC Tryz.prog gl 84 [.loc 901 0, .pv (.slice ([z1].map itC))] [(901, mB0 c l)] (.ret (.pv (.tuple [itP x, .int 0]))) [(901, mE c l n)])
    (ho : AC Tryz.prog gl 65 [.pv (itP x)] [] (.ret (.pv (.agg (itCell x)))) []) (hv : AC Tryz.prog gl 15 [.pv (.agg (itCell x))] [] (.ret (.pv (.tuple [.agg w, .bool true]))) []) :
    AC Tryz.prog gl 55 [.loc 901 0, .pv (.slice [v1])] [(901, mB0 c l)] (.ret (.pv (.tuple [.agg w, .int 0]))) [(901, mE c l n)] := by
  obtain ⟨kv1, mv1, sv1, qv1, rfl, ov1, ov1'⟩ := sv1
  have wv1 := vcells_one ov1
  have wv1' := vcells_one ov1'
  have zv1 : (V.pv sv1).one = true := by rw [one_pv]; exact ov1
  have zv1' : (V.pv qv1).one = true := by rw [one_pv]; exact ov1'
  obtain ⟨kw, mw, sw, qw, rfl, ow, ow'⟩ := sw
  have ww := vcells_one ow
  have ww' := vcells_one ow'
  have zw : (V.pv sw).one = true := by rw [one_pv]; exact ow
  have zw' : (V.pv qw).one = true := by rw [one_pv]; exact ow'
  have e1 := itP_one z1
  have a1 := vcells_one (itP_one z1)
  have b1 : (V.pv (itP z1)).one = true := by rw [one_pv]; exact itP_one z1
  obtain ⟨xk, xn, xa, xs, xt, ex, h5, h6⟩ := itCell_shape x
  have ax := vcells_one (itP_one x)
  have bx : (V.pv (itP x)).one = true := by rw [one_pv]; exact itP_one x
  have c5 := vcells_one h5
  have c6 := vcells_one h6
  have d5 : (V.pv xs).one = true := by rw [one_pv]; exact h5
  have d6 : (V.pv xt).one = true := by rw [one_pv]; exact h6
  rw [ex] at ho hv
  clear ex
  simp only [List.map_cons, List.map_nil, itC] at hg
  unfold mB0 mE at *
  generalize c.map insP = cc at *
  generalize itP z1 = y1 at *
  generalize itP x = px at *
  refine body [(6, .arr 908 1 132)] Tryz.func55 Tryz.ntmps55 ?_
  refine gg ?_
  refine ex_loop 2 (ex_round ?_)
  refine gg ?_
  refine call hF1 ?_
  refine gg ?_
  refine ex_round ?_
  refine kp [0, 1, 4, 5, 6, 13, 14, 15] [4, 901, 908] ?_
  refine frz 908 (es := [[y1]]) ?_
  refine gg ?_
  refine call hg ?_
  refine gg ?_
  refine call ho ?_
  refine gg ?_
  refine call hv ?_
  refine gg ?_
  exact ⟨by simp [retIs, resV, resL, resOne, mkTup, getS, getO, rdV, mkAgg, unL, V.un, TI.isAgg, XX_T, tt41, Tryz.f55], by simp [subO, getO, tt41, Tryz.f55]⟩
theorem rcall_1_e (c : List Ins) (l : Nat) (v1 : List PV) (sv1 : ∃ k m s q, v1 = [.int k, .int m, s, q] ∧ s.one = true ∧ q.one = true) (hK : AC Tryz.prog gl 41 [.pv (.slice (c.map insP)), .pv (.slice [v1]), .pv (.int l)] [] (.ret (.pv (.int 0))) []) (e : Nat) (he : ¬ e = 0) (hR : AC Tryz.prog gl 55 [.loc 901 0, .pv (.slice [v1])] [(901, mB0 c l)] (.ret (.pv (.tuple [.agg [.int 0, .int 0, .nils, .nils], .int e]))) []) :
    AC Tryz.prog gl 19 [.pv (.slice (c.map insP)), .pv (.slice [v1]), .pv (.int l)] [] (.ret (.pv (.tuple [.agg [.int 0, .int 0, .nils, .nils], .int 0, .int e]))) [] := by
  have he' : ¬ (e : Int) = 0 := by omega
  obtain ⟨kv1, mv1, sv1, qv1, rfl, ov1, ov1'⟩ := sv1
  have wv1 := vcells_one ov1
  have wv1' := vcells_one ov1'
  have zv1 : (V.pv sv1).one = true := by rw [one_pv]; exact ov1
  have zv1' : (V.pv qv1).one = true := by rw [one_pv]; exact ov1'
  unfold mB0 at *
  generalize c.map insP = cc at *
  clear he
  refine body [(24, .box 901)] Tryz.func19 Tryz.ntmps19 ?_
  refine gg ?_
  refine call hK ?_
  refine gg ?_
  refine call hR ?_
  refine gg ?_
  exact ⟨by simp [retIs, resV, resL, resOne, mkTup, getS, getO, rdV, mkAgg, unL, V.un, TI.isAgg, XX_T, tt41, Tryz.f19], by simp [subO, getO, tt41, Tryz.f19]⟩
theorem rcall_1_f (c : List Ins) (l : Nat) (v1 : List PV) (sv1 : ∃ k m s q, v1 = [.int k, .int m, s, q] ∧ s.one = true ∧ q.one = true) (hK : AC Tryz.prog gl 41 [.pv (.slice (c.map insP)), .pv (.slice [v1]), .pv (.int l)] [] (.ret (.pv (.int 0))) []) (n : Nat) (w : List PV) (sw : ∃ k m s q, w = [.int k, .int m, s, q] ∧ s.one = true ∧ q.one = true) (hR : AC Tryz.prog gl 55 [.loc 901 0, .pv (.slice [v1])] [(901, mB0 c l)] (.ret (.pv (.tuple [.agg w, .int 0]))) [(901, mE c l n)]) :
    AC Tryz.prog gl 19 [.pv (.slice (c.map insP)), .pv (.slice [v1]), .pv (.int l)] [] (.ret (.pv (.tuple [.agg w, .int n, .int 0]))) [] := by
  obtain ⟨kv1, mv1, sv1, qv1, rfl, ov1, ov1'⟩ := sv1
  have wv1 := vcells_one ov1
  have wv1' := vcells_one ov1'
  have zv1 : (V.pv sv1).one = true := by rw [one_pv]; exact ov1
  have zv1' : (V.pv qv1).one = true := by rw [one_pv]; exact ov1'
  obtain ⟨kw, mw, sw, qw, rfl, ow, ow'⟩ := sw
  have ww := vcells_one ow
  have ww' := vcells_one ow'
  have zw : (V.pv sw).one = true := by rw [one_pv]; exact ow
  have zw' : (V.pv qw).one = true := by rw [one_pv]; exact ow'
  unfold mB0 mE at *
  generalize c.map insP = cc at *
  refine body [(24, .box 901)] Tryz.func19 Tryz.ntmps19 ?_
  refine gg ?_
  refine call hK ?_
  refine gg ?_
  refine call hR ?_
  refine gg ?_
  refine ⟨by rfl, ?_⟩
  refine gg ?_
  exact ⟨by simp [retIs, resV, resL, resOne, mkTup, getS, getO, rdV, mkAgg, unL, V.un, TI.isAgg, XX_T, tt41, Tryz.f19], by simp [subO, getO, tt41, Tryz.f19]⟩
theorem rchk_2 (cc : List (List PV)) (l : Nat) (hl : l ≤ 65536) (v1 v2 : List PV) (sv1 : ∃ k m s q, v1 = [.int k, .int m, s, q] ∧ s.one = true ∧ q.one = true) (sv2 : ∃ k m s q, v2 = [.int k, .int m, s, q] ∧ s.one = true ∧ q.one = true) (h : AC Tryz.prog gl 83 [.pv (.slice cc)] [] (.ret (.pv (.int 0))) []) (hK1 : AC Tryz.prog gl 44 [.pv (.agg v1)] [] (.ret (.pv (.int 0))) []) (hK2 : AC Tryz.prog gl 44 [.pv (.agg v2)] [] (.ret (.pv (.int 0))) []) : AC Tryz.prog gl 41 [.pv (.slice cc), .pv (.slice [v1, v2]), .pv (.int l)] [] (.ret (.pv (.int 0))) [] := by
  have g1 : ¬ (l : Int) < 0 := by omega
  have g2 : ¬ (65536 : Int) < l := by omega
  obtain ⟨kv1, mv1, sv1, qv1, rfl, ov1, ov1'⟩ := sv1
  have wv1 := vcells_one ov1
  have wv1' := vcells_one ov1'
  have zv1 : (V.pv sv1).one = true := by rw [one_pv]; exact ov1
  have zv1' : (V.pv qv1).one = true := by rw [one_pv]; exact ov1'
  obtain ⟨kv2, mv2, sv2, qv2, rfl, ov2, ov2'⟩ := sv2
  have wv2 := vcells_one ov2
  have wv2' := vcells_one ov2'
  have zv2 : (V.pv sv2).one = true := by rw [one_pv]; exact ov2
  have zv2' : (V.pv qv2).one = true := by rw [one_pv]; exact ov2'
  refine body [] Tryz.func41 Tryz.ntmps41 ?_
  refine gg ?_
  refine call h ?_
  refine gg ?_
  refine ex_loop 3 (ex_round ?_)
  refine gg ?_
  refine call hK1 ?_
  refine gg ?_
  refine ex_round ?_
  refine kp [0, 1, 2, 6, 22, 23, 24] [] ?_
  refine gg ?_
  refine call hK2 ?_
  refine gg ?_
  refine ex_round ?_
  refine kp [0, 1, 2, 6, 22, 23, 24] [] ?_
  refine gg ?_
  exact ⟨by simp [retIs, resV, resL, resOne, mkTup, getS, getO, rdV, mkAgg, unL, V.un, TI.isAgg, XX_T, tt30, Tryz.f41], by simp [subO, getO, tt30, Tryz.f41]⟩
theorem retd_2_e (c : List Ins) (l : Nat) (z1 z2 : It) (v1 v2 : List PV) (sv1 : ∃ k m s q, v1 = [.int k, .int m, s, q] ∧ s.one = true ∧ q.one = true) (sv2 : ∃ k m s q, v2 = [.int k, .int m, s, q] ∧ s.one = true ∧ q.one = true) (hF1 : AC Tryz.prog gl 66 [.pv (.agg v1)] [] (.ret (.pv (itP z1))) []) (hF2 : AC Tryz.prog gl 66 [.pv (.agg v2)] [] (.ret (.pv (itP z2))) []) (e : Nat) (he : ¬ e = 0) (hg : AC Tryz.prog gl 84 [.loc 901 0, .pv (.slice ([z1, z2].map itC))] [(901, mB0 c l)] (.ret (.pv (.tuple [.nil, .int e]))) []) :
    AC Tryz.prog gl 55 [.loc 901 0, .pv (.slice [v1, v2])] [(901, mB0 c l)] (.ret (.pv (.tuple [.agg [.int 0, .int 0, .nils, .nils], .int e]))) [] := by
  have he' : ¬ (e : Int) = 0 := by omega
  obtain ⟨kv1, mv1, sv1, qv1, rfl, ov1, ov1'⟩ := sv1
  have wv1 := vcells_one ov1
  have wv1' := vcells_one ov1'
  have zv1 : (V.pv sv1).one = true := by rw [one_pv]; exact ov1
  have zv1' : (V.pv qv1).one = true := by rw [one_pv]; exact ov1'
  obtain ⟨kv2, mv2, sv2, qv2, rfl, ov2, ov2'⟩ := sv2
  have wv2 := vcells_one ov2
  have wv2' := vcells_one ov2'
  have zv2 : (V.pv sv2).one = true := by rw [one_pv]; exact ov2
  have zv2' : (V.pv qv2).one = true := by rw [one_pv]; exact ov2'
  have e1 := itP_one z1
  have a1 := vcells_one (itP_one z1)
  have b1 : (V.pv (itP z1)).one = true := by rw [one_pv]; exact itP_one z1
  have e2 := itP_one z2
  have a2 := vcells_one (itP_one z2)
  have b2 : (V.pv (itP z2)).one = true := by rw [one_pv]; exact itP_one z2
  simp only [List.map_cons, List.map_nil, itC] at hg
  unfold mB0 at *
  generalize c.map insP = cc at *
  generalize itP z1 = y1 at *
  generalize itP z2 = y2 at *
  clear he
  refine body [(6, .arr 908 1 132)] Tryz.func55 Tryz.ntmps55 ?_
  refine gg ?_
  refine ex_loop 3 (ex_round ?_)
  refine gg ?_
  refine call hF1 ?_
  refine gg ?_
  refine ex_round ?_
  refine kp [0, 1, 4, 5, 6, 13, 14, 15] [4, 901, 908] ?_
  refine gg ?_
  refine call hF2 ?_
  refine gg ?_
  refine ex_round ?_
  refine kp [0, 1, 4, 5, 6, 13, 14, 15] [4, 901, 908] ?_
  refine frz 908 (es := [[y1], [y2]]) ?_
  refine gg ?_
  refine call hg ?_
  refine gg ?_
  exact ⟨by simp [retIs, resV, resL, resOne, mkTup, getS, getO, rdV, mkAgg, unL, V.un, TI.isAgg, XX_T, tt41, Tryz.f55], by simp [subO, getO, tt41, Tryz.f55]⟩
theorem retd_2_f (c : List Ins) (l : Nat) (z1 z2 : It) (v1 v2 : List PV) (sv1 : ∃ k m s q, v1 = [.int k, .int m, s, q] ∧ s.one = true ∧ q.one = true) (sv2 : ∃ k m s q, v2 = [.int k, .int m, s, q] ∧ s.one = true ∧ q.one = true) (hF1 : AC Tryz.prog gl 66 [.pv (.agg v1)] [] (.ret (.pv (itP z1))) []) (hF2 : AC Tryz.prog gl 66 [.pv (.agg v2)] [] (.ret (.pv (itP z2))) []) (x : It) (n : Nat) (w : List PV) (sw : ∃ k m s q, w = [.int k, .int m, s, q] ∧ s.one = true ∧ q.one = true) (hg : AC Tryz.prog gl 84 [.loc 901 0, .pv (.slice ([z1, z2].map itC))] [(901, mB0 c l)] (.ret (.pv (.tuple [itP x, .int 0]))) [(901, mE c l n)])
    (ho : AC Tryz.prog gl 65 [.pv (itP x)] [] (.ret (.pv (.agg (itCell x)))) []) (hv : AC Tryz.prog gl 15 [.pv (.agg (itCell x))] [] (.ret (.pv (.tuple [.agg w, .bool true]))) []) :
    AC Tryz.prog gl 55 [.loc 901 0, .pv (.slice [v1, v2])] [(901, mB0 c l)] (.ret (.pv (.tuple [.agg w, .int 0]))) [(901, mE c l n)] := by
  obtain ⟨kv1, mv1, sv1, qv1, rfl, ov1, ov1'⟩ := sv1
  have wv1 := vcells_one ov1
  have wv1' := vcells_one ov1'
  have zv1 : (V.pv sv1).one = true := by rw [one_pv]; exact ov1
  have zv1' : (V.pv qv1).one = true := by rw [one_pv]; exact ov1'
  obtain ⟨kv2, mv2, sv2, qv2, rfl, ov2, ov2'⟩ := sv2
  have wv2 := vcells_one ov2
  have wv2' := vcells_one ov2'
  have zv2 : (V.pv sv2).one = true := by rw [one_pv]; exact ov2
  have zv2' : (V.pv qv2).one = true := by rw [one_pv]; exact ov2'
  obtain ⟨kw, mw, sw, qw, rfl, ow, ow'⟩ := sw
  have ww := vcells_one ow
  have ww' := vcells_one ow'
  have zw : (V.pv sw).one = true := by rw [one_pv]; exact ow
  have zw' : (V.pv qw).one = true := by rw [one_pv]; exact ow'
  have e1 := itP_one z1
  have a1 := vcells_one (itP_one z1)
  have b1 : (V.pv (itP z1)).one = true := by rw [one_pv]; exact itP_one z1
  have e2 := itP_one z2
  have a2 := vcells_one (itP_one z2)
  have b2 : (V.pv (itP z2)).one = true := by rw [one_pv]; exact itP_one z2
  obtain ⟨xk, xn, xa, xs, xt, ex, h5, h6⟩ := itCell_shape x
  have ax := vcells_one (itP_one x)
  have bx : (V.pv (itP x)).one = true := by rw [one_pv]; exact itP_one x
  have c5 := vcells_one h5
  have c6 := vcells_one h6
  have d5 : (V.pv xs).one = true := by rw [one_pv]; exact h5
  have d6 : (V.pv xt).one = true := by rw [one_pv]; exact h6
  rw [ex] at ho hv
  clear ex
  simp only [List.map_cons, List.map_nil, itC] at hg
  unfold mB0 mE at *
  generalize c.map insP = cc at *
  generalize itP z1 = y1 at *
  generalize itP z2 = y2 at *
  generalize itP x = px at *
  refine body [(6, .arr 908 1 132)] Tryz.func55 Tryz.ntmps55 ?_
  refine gg ?_
  refine ex_loop 3 (ex_round ?_)
  refine gg ?_
  refine call hF1 ?_
  refine gg ?_
  refine ex_round ?_
  refine kp [0, 1, 4, 5, 6, 13, 14, 15] [4, 901, 908] ?_
  refine gg ?_
  refine call hF2 ?_
  refine gg ?_
  refine ex_round ?_
  refine kp [0, 1, 4, 5, 6, 13, 14, 15] [4, 901, 908] ?_
  refine frz 908 (es := [[y1], [y2]]) ?_
  refine gg ?_
  refine call hg ?_
  refine gg ?_
  refine call ho ?_
  refine gg ?_
  refine call hv ?_
  refine gg ?_
  exact ⟨by simp [retIs, resV, resL, resOne, mkTup, getS, getO, rdV, mkAgg, unL, V.un, TI.isAgg, XX_T, tt41, Tryz.f55], by simp [subO, getO, tt41, Tryz.f55]⟩
theorem rcall_2_e (c : List Ins) (l : Nat) (v1 v2 : List PV) (sv1 : ∃ k m s q, v1 = [.int k, .int m, s, q] ∧ s.one = true ∧ q.one = true) (sv2 : ∃ k m s q, v2 = [.int k, .int m, s, q] ∧ s.one = true ∧ q.one = true) (hK : AC Tryz.prog gl 41 [.pv (.slice (c.map insP)), .pv (.slice [v1, v2]), .pv (.int l)] [] (.ret (.pv (.int 0))) []) (e : Nat) (he : ¬ e = 0) (hR : AC Tryz.prog gl 55 [.loc 901 0, .pv (.slice [v1, v2])] [(901, mB0 c l)] (.ret (.pv (.tuple [.agg [.int 0, .int 0, .nils, .nils], .int e]))) []) :
    AC Tryz.prog gl 19 [.pv (.slice (c.map insP)), .pv (.slice [v1, v2]), .pv (.int l)] [] (.ret (.pv (.tuple [.agg [.int 0, .int 0, .nils, .nils], .int 0, .int e]))) [] := by
  have he' : ¬ (e : Int) = 0 := by omega
  obtain ⟨kv1, mv1, sv1, qv1, rfl, ov1, ov1'⟩ := sv1
  have wv1 := vcells_one ov1
  have wv1' := vcells_one ov1'
  have zv1 : (V.pv sv1).one = true := by rw [one_pv]; exact ov1
  have zv1' : (V.pv qv1).one = true := by rw [one_pv]; exact ov1'
  obtain ⟨kv2, mv2, sv2, qv2, rfl, ov2, ov2'⟩ := sv2
  have wv2 := vcells_one ov2
  have wv2' := vcells_one ov2'
  have zv2 : (V.pv sv2).one = true := by rw [one_pv]; exact ov2
  have zv2' : (V.pv qv2).one = true := by rw [one_pv]; exact ov2'
  unfold mB0 at *
  generalize c.map insP = cc at *
  clear he
  refine body [(24, .box 901)] Tryz.func19 Tryz.ntmps19 ?_
  refine gg ?_
  refine call hK ?_
  refine gg ?_
  refine call hR ?_
  refine gg ?_
  exact ⟨by simp [retIs, resV, resL, resOne, mkTup, getS, getO, rdV, mkAgg, unL, V.un, TI.isAgg, XX_T, tt41, Tryz.f19], by simp [subO, getO, tt41, Tryz.f19]⟩
theorem rcall_2_f (c : List Ins) (l : Nat) (v1 v2 : List PV) (sv1 : ∃ k m s q, v1 = [.int k, .int m, s, q] ∧ s.one = true ∧ q.one = true) (sv2 : ∃ k m s q, v2 = [.int k, .int m, s, q] ∧ s.one = true ∧ q.one = true) (hK : AC Tryz.prog gl 41 [.pv (.slice (c.map insP)), .pv (.slice [v1, v2]), .pv (.int l)] [] (.ret (.pv (.int 0))) []) (n : Nat) (w : List PV) (sw : ∃ k m s q, w = [.int k, .int m, s, q] ∧ s.one = true ∧ q.one = true) (hR : AC Tryz.prog gl 55 [.loc 901 0, .pv (.slice [v1, v2])] [(901, mB0 c l)] (.ret (.pv (.tuple [.agg w, .int 0]))) [(901, mE c l n)]) :
    AC Tryz.prog gl 19 [.pv (.slice (c.map insP)), .pv (.slice [v1, v2]), .pv (.int l)] [] (.ret (.pv (.tuple [.agg w, .int n, .int 0]))) [] := by
  obtain ⟨kv1, mv1, sv1, qv1, rfl, ov1, ov1'⟩ := sv1
  have wv1 := vcells_one ov1
  have wv1' := vcells_one ov1'
  have zv1 : (V.pv sv1).one = true := by rw [one_pv]; exact ov1
  have zv1' : (V.pv qv1).one = true := by rw [one_pv]; exact ov1'
  obtain ⟨kv2, mv2, sv2, qv2, rfl, ov2, ov2'⟩ := sv2
  have wv2 := vcells_one ov2
  have wv2' := vcells_one ov2'
  have zv2 : (V.pv sv2).one = true := by rw [one_pv]; exact ov2
  have zv2' : (V.pv qv2).one = true := by rw [one_pv]; exact ov2'
  obtain ⟨kw, mw, sw, qw, rfl, ow, ow'⟩ := sw
  have ww := vcells_one ow
  have ww' := vcells_one ow'
  have zw : (V.pv sw).one = true := by rw [one_pv]; exact ow
  have zw' : (V.pv qw).one = true := by rw [one_pv]; exact ow'
  unfold mB0 mE at *
  generalize c.map insP = cc at *
  refine body [(24, .box 901)] Tryz.func19 Tryz.ntmps19 ?_
  refine gg ?_
  refine call hK ?_
  refine gg ?_
  refine call hR ?_
  refine gg ?_
  refine ⟨by rfl, ?_⟩
  refine gg ?_
  exact ⟨by simp [retIs, resV, resL, resOne, mkTup, getS, getO, rdV, mkAgg, unL, V.un, TI.isAgg, XX_T, tt41, Tryz.f19], by simp [subO, getO, tt41, Tryz.f19]⟩
end Go.Proofs.YtodjpfpmhjdhbaaGreatDoor
/- The law RunCalls. -/
namespace Go.Proofs.YtodjpfpmhjdhbaaGreatDoor
open Go.Lg
set_option maxRecDepth 10000
set_option maxHeartbeats 4000000
theorem many_calls (L : List Int) (hL : ¬ L.length ≤ 500) : AC Tryz.prog gl 4 [.pv (.slice (ints L))] [] (.ret (.pv (.bool true))) [] := by
  have h1 := awake_ok
  have h2 := few_ok L
  have e : decide (L.length ≤ 500) = false := by simp [hL]
  rw [e] at h2
  generalize ints L = cc at *
  refine body [] Tryz.func4 Tryz.ntmps4 ?_
  refine gg ?_
  refine call h1 ?_
  refine gg ?_
  refine call h2 ?_
  refine gg ?_
  refine call h1 ?_
  refine gg ?_
  exact ⟨by simp [retIs, resV, resL, resOne, mkTup, getS, getO, rdV, mkAgg, unL, V.un, TI.isAgg, XX_T, tt41, Tryz.f4], by simp [subO, getO, tt41, Tryz.f4]⟩
/-- the program is too long -/
theorem clong (L : List Int) (hL : L.length ≤ 500) (tm : Tm) (vs : List (List PV)) (at' : Nat) (h4 : AC Tryz.prog gl 17 [.loc 900 0] (deck L 0) (.ret (.pv (.tuple [.agg tm.cells, .slice vs]))) (deck L at')) (h5 : AC Tryz.prog gl 11 [.pv (.agg tm.cells)] [] (.ret (.pv (.tuple [.slice [], .int 4]))) [])
    (v : List PV) (u e : Int) (sv : ∃ k m s q, v = [.int k, .int m, s, q] ∧ s.one = true ∧ q.one = true) (h6 : AC Tryz.prog gl 18 [.pv (.agg tm.cells), .pv (.slice vs), .pv (.int 20000)] [] (.ret (.pv (.tuple [.agg v, .int u, .int e]))) []) : AC Tryz.prog gl 4 [.pv (.slice (ints L))] [] (.ret (.pv (.bool true))) [] := by
  have h1 := awake_ok
  have h2 := few_ok L
  have h3 := new_ok L
  have l4 := limits_4
  have ed : decide (L.length ≤ 500) = true := by simp [hL]
  rw [ed] at h2
  obtain ⟨k, m, s, q, rfl, o1, o2⟩ := sv
  have w1 := vcells_one o1
  have w2 := vcells_one o2
  have v1 : (V.pv s).one = true := by rw [one_pv]; exact o1
  have v2 : (V.pv q).one = true := by rw [one_pv]; exact o2
  rw [tm.cells_eq] at h4 h5 h6
  unfold deck at *
  generalize ints L = cc at *
  generalize tm.kind = tk at *
  generalize tm.idx = ti at *
  generalize tm.ty.kind = tyk at *
  generalize tm.ty.args.map Ty.cells = tya at *
  generalize tm.args.map Tm.cells = tma at *
  refine body [] Tryz.func4 Tryz.ntmps4 ?_
  refine gg ?_
  refine call h1 ?_
  refine gg ?_
  refine call h2 ?_
  refine gg ?_
  refine call h3 ?_
  refine gg ?_
  refine call h4 ?_
  refine gg ?_
  refine call h5 ?_
  refine gg ?_
  refine call h6 ?_
  refine gg ?_
  refine call l4 ?_
  refine gg ?_
  exact ⟨by simp [retIs, resV, resL, resOne, mkTup, getS, getO, rdV, mkAgg, unL, V.un, TI.isAgg, XX_T, tt41, Tryz.f4], by simp [subO, getO, tt41, Tryz.f4]⟩
/-- the evaluation fails -/
theorem cfails6 (L : List Int) (hL : L.length ≤ 500) (tm : Tm) (vs : List (List PV)) (at' : Nat) (h4 : AC Tryz.prog gl 17 [.loc 900 0] (deck L 0) (.ret (.pv (.tuple [.agg tm.cells, .slice vs]))) (deck L at')) (pc : List (List PV)) (h5 : AC Tryz.prog gl 11 [.pv (.agg tm.cells)] [] (.ret (.pv (.tuple [.slice pc, .int 0]))) [])
    (e : Int) (he : e = 4 ∨ e = 5) (h6 : AC Tryz.prog gl 18 [.pv (.agg tm.cells), .pv (.slice vs), .pv (.int 20000)] [] (.ret (.pv (.tuple [.agg [.int 0, .int 0, .nils, .nils], .int 0, .int e]))) []) : AC Tryz.prog gl 4 [.pv (.slice (ints L))] [] (.ret (.pv (.bool true))) [] := by
  have h1 := awake_ok
  have h2 := few_ok L
  have h3 := new_ok L
  have l0 := limits_0
  have l4 : AC Tryz.prog gl 13 [.pv (.int e)] [] (.ret (.pv (.bool true))) [] := by
    rcases he with rfl | rfl
    · exact limits_4
    · exact limits_5
  have e0 : ¬ e = 0 := by omega
  have ed : decide (L.length ≤ 500) = true := by simp [hL]
  rw [ed] at h2
  rw [tm.cells_eq] at h4 h5 h6
  unfold deck at *
  generalize ints L = cc at *
  generalize tm.kind = tk at *
  generalize tm.idx = ti at *
  generalize tm.ty.kind = tyk at *
  generalize tm.ty.args.map Ty.cells = tya at *
  generalize tm.args.map Tm.cells = tma at *
  clear he
  refine body [] Tryz.func4 Tryz.ntmps4 ?_
  refine gg ?_
  refine call h1 ?_
  refine gg ?_
  refine call h2 ?_
  refine gg ?_
  refine call h3 ?_
  refine gg ?_
  refine call h4 ?_
  refine gg ?_
  refine call h5 ?_
  refine gg ?_
  refine call h6 ?_
  refine gg ?_
  refine call l0 ?_
  refine gg ?_
  refine call l4 ?_
  refine gg ?_
  exact ⟨by simp [retIs, resV, resL, resOne, mkTup, getS, getO, rdV, mkAgg, unL, V.un, TI.isAgg, XX_T, tt41, Tryz.f4], by simp [subO, getO, tt41, Tryz.f4]⟩
/-- the run fails -/
theorem cfailsr (L : List Int) (hL : L.length ≤ 500) (tm : Tm) (vs : List (List PV)) (at' : Nat) (h4 : AC Tryz.prog gl 17 [.loc 900 0] (deck L 0) (.ret (.pv (.tuple [.agg tm.cells, .slice vs]))) (deck L at')) (pc : List (List PV)) (h5 : AC Tryz.prog gl 11 [.pv (.agg tm.cells)] [] (.ret (.pv (.tuple [.slice pc, .int 0]))) [])
    (v : List PV) (u : Int) (sv : ∃ k m s q, v = [.int k, .int m, s, q] ∧ s.one = true ∧ q.one = true) (h6 : AC Tryz.prog gl 18 [.pv (.agg tm.cells), .pv (.slice vs), .pv (.int 20000)] [] (.ret (.pv (.tuple [.agg v, .int u, .int 0]))) [])
    (e : Nat) (he : e = 4 ∨ e = 5) (h7 : AC Tryz.prog gl 19 [.pv (.slice pc), .pv (.slice vs), .pv (.int 20000)] [] (.ret (.pv (.tuple [.agg [.int 0, .int 0, .nils, .nils], .int 0, .int e]))) []) : AC Tryz.prog gl 4 [.pv (.slice (ints L))] [] (.ret (.pv (.bool true))) [] := by
  have h1 := awake_ok
  have h2 := few_ok L
  have h3 := new_ok L
  have l4 : AC Tryz.prog gl 13 [.pv (.int e)] [] (.ret (.pv (.bool true))) [] := by
    rcases he with rfl | rfl
    · exact limits_4
    · exact limits_5
  have ed : decide (L.length ≤ 500) = true := by simp [hL]
  rw [ed] at h2
  obtain ⟨k, m, s, q, rfl, o1, o2⟩ := sv
  have w1 := vcells_one o1
  have w2 := vcells_one o2
  have v1 : (V.pv s).one = true := by rw [one_pv]; exact o1
  have v2 : (V.pv q).one = true := by rw [one_pv]; exact o2
  rw [tm.cells_eq] at h4 h5 h6
  unfold deck at *
  generalize ints L = cc at *
  generalize tm.kind = tk at *
  generalize tm.idx = ti at *
  generalize tm.ty.kind = tyk at *
  generalize tm.ty.args.map Ty.cells = tya at *
  generalize tm.args.map Tm.cells = tma at *
  clear he
  refine body [] Tryz.func4 Tryz.ntmps4 ?_
  refine gg ?_
  refine call h1 ?_
  refine gg ?_
  refine call h2 ?_
  refine gg ?_
  refine call h3 ?_
  refine gg ?_
  refine call h4 ?_
  refine gg ?_
  refine call h5 ?_
  refine gg ?_
  refine call h6 ?_
  refine gg ?_
  refine call h7 ?_
  refine gg ?_
  refine call l4 ?_
  refine gg ?_
  exact ⟨by simp [retIs, resV, resL, resOne, mkTup, getS, getO, rdV, mkAgg, unL, V.un, TI.isAgg, XX_T, tt41, Tryz.f4], by simp [subO, getO, tt41, Tryz.f4]⟩
/-- all is well -/
theorem cfine (L : List Int) (hL : L.length ≤ 500) (tm : Tm) (vs : List (List PV)) (at' : Nat) (h4 : AC Tryz.prog gl 17 [.loc 900 0] (deck L 0) (.ret (.pv (.tuple [.agg tm.cells, .slice vs]))) (deck L at')) (pc : List (List PV)) (h5 : AC Tryz.prog gl 11 [.pv (.agg tm.cells)] [] (.ret (.pv (.tuple [.slice pc, .int 0]))) [])
    (v : List PV) (u : Int) (sv : ∃ k m s q, v = [.int k, .int m, s, q] ∧ s.one = true ∧ q.one = true) (h6 : AC Tryz.prog gl 18 [.pv (.agg tm.cells), .pv (.slice vs), .pv (.int 20000)] [] (.ret (.pv (.tuple [.agg v, .int u, .int 0]))) [])
    (w : List PV) (n : Nat) (sw : ∃ k m s q, w = [.int k, .int m, s, q] ∧ s.one = true ∧ q.one = true) (h7 : AC Tryz.prog gl 19 [.pv (.slice pc), .pv (.slice vs), .pv (.int 20000)] [] (.ret (.pv (.tuple [.agg w, .int n, .int 0]))) [])
    (h9 : AC Tryz.prog gl 16 [.pv (.agg v), .pv (.agg w)] [] (.ret (.pv (.bool true))) []) : AC Tryz.prog gl 4 [.pv (.slice (ints L))] [] (.ret (.pv (.bool true))) [] := by
  have h1 := awake_ok
  have h2 := few_ok L
  have h3 := new_ok L
  have l0 := limits_0
  have ed : decide (L.length ≤ 500) = true := by simp [hL]
  rw [ed] at h2
  obtain ⟨k, m, s, q, rfl, o1, o2⟩ := sv
  have w1 := vcells_one o1
  have w2 := vcells_one o2
  have v1 : (V.pv s).one = true := by rw [one_pv]; exact o1
  have v2 : (V.pv q).one = true := by rw [one_pv]; exact o2
  obtain ⟨k', m', s', q', rfl, o1', o2'⟩ := sw
  have w1' := vcells_one o1'
  have w2' := vcells_one o2'
  have v1' : (V.pv s').one = true := by rw [one_pv]; exact o1'
  have v2' : (V.pv q').one = true := by rw [one_pv]; exact o2'
  rw [tm.cells_eq] at h4 h5 h6
  unfold deck at *
  generalize ints L = cc at *
  generalize tm.kind = tk at *
  generalize tm.idx = ti at *
  generalize tm.ty.kind = tyk at *
  generalize tm.ty.args.map Ty.cells = tya at *
  generalize tm.args.map Tm.cells = tma at *
  refine body [] Tryz.func4 Tryz.ntmps4 ?_
  refine gg ?_
  refine call h1 ?_
  refine gg ?_
  refine call h2 ?_
  refine gg ?_
  refine call h3 ?_
  refine gg ?_
  refine call h4 ?_
  refine gg ?_
  refine call h5 ?_
  refine gg ?_
  refine call h6 ?_
  refine gg ?_
  refine call h7 ?_
  refine gg ?_
  refine call l0 ?_
  refine gg ?_
  refine call h9 ?_
  refine gg ?_
  exact ⟨by simp [retIs, resV, resL, resOne, mkTup, getS, getO, rdV, mkAgg, unL, V.un, TI.isAgg, XX_T, tt41, Tryz.f4], by simp [subO, getO, tt41, Tryz.f4]⟩
theorem vck_ok {B : Nat} (hB : B ≤ 100000) {r : Rs} {t : Ty} (h : RsT B r t) (hp : t.plain) : AC Tryz.prog gl 44 [.pv (.agg (valW r))] [] (.ret (.pv (.int 0))) [] := by
  rcases plain_cases hp with hb | ⟨s, hb, rfl⟩
  · exact vcheck_of _ 1 (by omega) (valW_shape2 h hp) (nodes_base hB h hb)
  · have hb2 : s = .nat ∨ s = .list ∨ s = .unit := by rcases hb with rfl | rfl <;> simp
    have hsh := valW_shape2 h hp
    cases h with
    | pair ha hb' => exact vcheck_of _ 3 (by omega) hsh (nodes_pair hB ha hb' (.inl rfl) hb2)
theorem VR_itOf {B : Nat} {c : List Ins} {r : Rs} {t : Ty} (h : RsT B r t) (hp : t.plain) : VR c (itOf r) r := by
  have base : ∀ {r : Rs} {t : Ty}, RsT B r t → (t = .nat ∨ t = .list ∨ t = .unit) → VR c (itOf r) r := by
    intro r t h hb
    rcases hb with rfl | rfl | rfl <;> cases h
    · exact .num _
    · exact .list _
    · exact .unit
  rcases plain_cases hp with hb | ⟨s, hb, rfl⟩
  · exact base h hb
  · cases h with
    | pair ha hb' => exact .pair (base ha (.inl rfl)) (base hb' (by rcases hb with rfl | rfl <;> simp))
theorem Bd_itOf {B : Nat} (hB : B ≤ 1000) {r : Rs} {t : Ty} (h : RsT B r t) (hp : t.plain) : Bd B (itOf r) := by
  have base : ∀ {r : Rs} {t : Ty}, RsT B r t → (t = .nat ∨ t = .list ∨ t = .unit) → Bd B (itOf r) ∧ (itOf r).more = 0 := by
    intro r t h hb
    rcases hb with rfl | rfl | rfl <;> cases h
    · exact ⟨by simpa [itOf, Bd] using ‹_›, rfl⟩
    · rename_i l h1 h2
      exact ⟨⟨by omega, h2⟩, rfl⟩
    · exact ⟨trivial, rfl⟩
  rcases plain_cases hp with hb | ⟨s, hb, rfl⟩
  · exact (base h hb).1
  · cases h with
    | pair ha hb' =>
      have h1 := base ha (.inl rfl)
      have h2 := base hb' (by rcases hb with rfl | rfl <;> simp)
      simp only [itOf, Bd, h1.2, h2.2]
      exact ⟨h1.1, h2.1, by omega⟩
end Go.Proofs.YtodjpfpmhjdhbaaGreatDoor
/- RunCalls: what the evaluation and the run come to, and the law. -/
namespace Go.Proofs.YtodjpfpmhjdhbaaGreatDoor
open Go.Lg
set_option maxHeartbeats 4000000
theorem eval10 {tm : Tm} {τ : Ty} (hT : HasTy [] tm τ) (hz : tm.size ≤ 770) : OutE 20000 0 10 tm [] τ :=
  eval_all (most := 20000) (by omega) 20000 0 10 (by omega) (by omega) (by omega) [] tm τ [] hT ⟨rfl, by intro i r s h; simp at h⟩ (by simp; omega)
theorem apC (C : Nat) {B : Nat} {f x : Rs} {a t : Ty} {u : Nat} (hu : u ≤ 20000) (hf : RsT B f (.fn a t)) (hB : B ≤ C) (hx : RsT 10 x a) (h10 : 10 ≤ C) (hC : C ≤ 50000) : OutA 20000 u C f x t :=
  ap_out (eval_all (most := 20000) (by omega) 20000 u _ (by omega) hu (by omega)) (hf.mono hB) (hx.mono h10)
def Ends6 (tm : Tm) (vs : List (List PV)) (rs : List Rs) (τ : Ty) : Prop :=
  (∃ e : Int, (e = 4 ∨ e = 5) ∧ AC Tryz.prog gl 18 [.pv (.agg tm.cells), .pv (.slice vs), .pv (.int 20000)] [] (.ret (.pv (.tuple [.agg [.int 0, .int 0, .nils, .nils], .int 0, .int e]))) []) ∨
  ∃ (f q : Rs) (u : Nat), Ev (.ev [] tm) f ∧ Apps f rs q ∧ RsT 70000 q τ ∧ AC Tryz.prog gl 18 [.pv (.agg tm.cells), .pv (.slice vs), .pv (.int 20000)] [] (.ret (.pv (.tuple [.agg (valC q), .int u, .int 0]))) []
theorem same_self (t : Ty) : AC Tryz.prog gl 49 [.pv (.agg t.cells), .pv (.agg t.cells)] [] (.ret (.pv (.bool true))) [] := by
  have h := same_ok t t
  simpa using h
theorem ends6_1 {tm : Tm} {s τ : Ty} {r : Rs} (hd : FunD tm [s] τ [r]) : Ends6 tm [valM r] [r] τ := by
  obtain ⟨hr, hs⟩ := hd.each 0 r s rfl rfl
  have hz := hd.size
  have hV := ac_M hr hs (vty_ok (by omega) hr hs)
  have hO := ac_M hr hs (of6_ok hr hs)
  have hD := tdata_ok τ hd.plain
  have sv := valM_shape2 hr hs
  rcases typeof_all hd.ty hd.wf (by omega) with hT | hT
  · rcases eval10 hd.ty hz with ⟨f, hE⟩ | ⟨f, u, h1, h2, h3, h4, hE⟩
    · exact .inl ⟨5, .inr rfl, call6_1_0 tm s τ 20000 (by omega) _ sv hT hV (same_self s) hD _ (rsC_shape f) _ hE⟩
    · rcases apC 21000 h4 h2 (by omega) hr (by omega) (by omega) with ⟨q, hA⟩ | ⟨q, u1, g1, g2, g3, g4, hA⟩
      · exact .inl ⟨5, .inr rfl, call6_1_1 tm s τ 20000 (by omega) _ sv hT hV (same_self s) hD _ (rsC_shape f) _ hE _ (rsC_shape r) hO _ (rsC_shape q) _ hA⟩
      · have hq : RsT 70000 q τ := g2.mono (by omega)
        exact .inr ⟨f, q, u1, h1, .cons g1 .nil, hq, call6_1_f tm s τ 20000 (by omega) _ sv hT hV (same_self s) hD _ (rsC_shape f) _ hE _ (rsC_shape r) hO _ (rsC_shape q) _ hA _ (shape_valC hq hd.plain) (plain_ok2 (by omega) hq hd.plain)⟩
  · exact .inl ⟨4, .inl rfl, call6_terr tm 20000 _ hT⟩
theorem ends6_2 {tm : Tm} {s s' τ : Ty} {r r' : Rs} (hd : FunD tm [s, s'] τ [r, r']) : Ends6 tm [valM r, valM r'] [r, r'] τ := by
  obtain ⟨hr, hs⟩ := hd.each 0 r s rfl rfl
  obtain ⟨hr', hs'⟩ := hd.each 1 r' s' rfl rfl
  have hz := hd.size
  have hV := ac_M hr hs (vty_ok (by omega) hr hs)
  have hO := ac_M hr hs (of6_ok hr hs)
  have sv := valM_shape2 hr hs
  have hV' := ac_M hr' hs' (vty_ok (by omega) hr' hs')
  have hO' := ac_M hr' hs' (of6_ok hr' hs')
  have sv' := valM_shape2 hr' hs'
  have hD := tdata_ok τ hd.plain
  rcases typeof_all hd.ty hd.wf (by omega) with hT | hT
  · rcases eval10 hd.ty hz with ⟨f, hE⟩ | ⟨f, u, h1, h2, h3, h4, hE⟩
    · exact .inl ⟨5, .inr rfl, call6_2_0 tm s s' τ 20000 (by omega) _ _ sv sv' hT hV (same_self s) hV' (same_self s') hD _ (rsC_shape f) _ hE⟩
    · rcases apC 21000 h4 h2 (by omega) hr (by omega) (by omega) with ⟨q, hA⟩ | ⟨q, u1, g1, g2, g3, g4, hA⟩
      · exact .inl ⟨5, .inr rfl, call6_2_1 tm s s' τ 20000 (by omega) _ _ sv sv' hT hV (same_self s) hV' (same_self s') hD _ (rsC_shape f) _ hE _ (rsC_shape r) hO _ (rsC_shape q) _ hA⟩
      · rcases apC 42000 g4 g2 (by omega) hr' (by omega) (by omega) with ⟨p, hB⟩ | ⟨p, u2, k1, k2, k3, k4, hB⟩
        · exact .inl ⟨5, .inr rfl, call6_2_2 tm s s' τ 20000 (by omega) _ _ sv sv' hT hV (same_self s) hV' (same_self s') hD _ (rsC_shape f) _ hE _ (rsC_shape r) hO _ (rsC_shape q) _ hA _ (rsC_shape r') hO' _ (rsC_shape p) _ hB⟩
        · have hq : RsT 70000 p τ := k2.mono (by omega)
          exact .inr ⟨f, p, u2, h1, .cons g1 (.cons k1 .nil), hq, call6_2_f tm s s' τ 20000 (by omega) _ _ sv sv' hT hV (same_self s) hV' (same_self s') hD _ (rsC_shape f) _ hE _ (rsC_shape r) hO _ (rsC_shape q) _ hA _ (rsC_shape r') hO' _ (rsC_shape p) _ hB _ (shape_valC hq hd.plain) (plain_ok2 (by omega) hq hd.plain)⟩
  · exact .inl ⟨4, .inl rfl, call6_terr tm 20000 _ hT⟩
/-- what run.Call comes to -/
def Ends19 (c : List Ins) (vs : List (List PV)) (q : Rs) : Prop :=
  (∃ e : Nat, (e = 4 ∨ e = 5) ∧ AC Tryz.prog gl 19 [.pv (.slice (c.map insP)), .pv (.slice vs), .pv (.int (20000 : Nat))] [] (.ret (.pv (.tuple [.agg [.int 0, .int 0, .nils, .nils], .int 0, .int e]))) []) ∨
  ∃ n : Nat, AC Tryz.prog gl 19 [.pv (.slice (c.map insP)), .pv (.slice vs), .pv (.int (20000 : Nat))] [] (.ret (.pv (.tuple [.agg (valW q), .int n, .int 0]))) []
theorem fine19 {tm : Tm} {q : Rs} {τ : Ty} (hp : τ.plain) (hq : RsT 70000 q τ) (hO : Okc (finC tm).code) (zs : List It) (hzl : zs.length ≤ 10) (hb : ∀ a ∈ zs, Bd 10 a) {m m1 : Ms} {Y : It} (h1 : Runs (finC tm).code 20000 ms0 (.stop m)) (h2 : Ents (finC tm).code 20000 m zs (.stop m1)) (h3 : m1.stack = [Y]) (h4 : VR (finC tm).code Y q) :
    AC Tryz.prog gl 84 [.loc 901 0, .pv (.slice (zs.map itC))] [(901, mB0 (finC tm).code 20000)] (.ret (.pv (.tuple [itP Y, .int 0]))) [(901, mE (finC tm).code 20000 m1.steps)] ∧
    AC Tryz.prog gl 65 [.pv (itP Y)] [] (.ret (.pv (.agg (itCell Y)))) [] ∧ AC Tryz.prog gl 15 [.pv (.agg (itCell Y))] [] (.ret (.pv (.tuple [.agg (valW q), .bool true]))) [] := by
  obtain ⟨s1, s2⟩ := VR_sameT hp hq h4
  have ho := runs_okm (b := 10) h1 m rfl ((inv0 20000 10).ok)
  have ho2 := ents_okm h2 m1 rfl hb ho
  have hb2 : Bd (10 + m1.steps) Y := by
    have := ho2.stack
    rw [h3] at this
    simp only [BdL, and_true] at this
    exact this
  exact ⟨go_args _ 20000 10 hO (by omega) zs (by omega) hb m m1 _ Y h1 h2 (pop_eq (s := []) h3), outside_ok s2 hb2, value_ok (by omega) hq s1 hp⟩
theorem ends19_1 {tm : Tm} {s τ : Ty} {r f q : Rs} (hd : FunD tm [s] τ [r]) (hc : (finC tm).code.length ≤ 4096) (hE : Ev (.ev [] tm) f) (hA : Apps f [r] q) (hq : RsT 70000 q τ) : Ends19 (finC tm).code [valM r] q := by
  obtain ⟨hr, hs⟩ := hd.each 0 r s rfl rfl
  have hz := hd.size
  have hG := goodC hd.ty hc (by omega)
  have hO := fin_okc hd.ty hc (by omega)
  have sv := valM_shape2 hr hs
  have hF := ac_M hr hs (from_ok (by omega) hr hs)
  have hb : ∀ a ∈ [itOf r], Bd 10 a := by intro a ha; simp at ha; subst ha; exact Bd_itOf (by omega) hr hs
  have hK := rchk_1 _ 20000 (by omega) _ sv (codecheck_ok _ _ rfl (starts_ok _ hG)) (ac_M hr hs (vck_ok (by omega) hr hs))
  rcases calls_means hE hA 20000 [itOf r] rfl (by
    intro i z y h1 h2
    match i with
    | 0 => simp at h1 h2; subst h1 h2; exact VR_itOf hr hs
    | i + 1 => simp at h1) with ⟨e, he, h⟩ | ⟨m, m1, Y, h1, h2, h3, h4⟩
  · have hg := go_args_err _ 20000 10 e hO (by omega) [itOf r] (by simp) hb h
    exact .inl ⟨e, he, rcall_1_e _ 20000 _ sv hK e (by omega) (retd_1_e _ 20000 _ _ sv hF e (by omega) hg)⟩
  · obtain ⟨g1, g2, g3⟩ := fine19 hd.plain hq hO [itOf r] (by simp) hb h1 h2 h3 h4
    have sw := shape_valW hq hd.plain
    exact .inr ⟨m1.steps, rcall_1_f _ 20000 _ sv hK _ _ sw (retd_1_f _ 20000 _ _ sv hF Y _ _ sw g1 g2 g3)⟩
theorem ends19_2 {tm : Tm} {s s' τ : Ty} {r r' f q : Rs} (hd : FunD tm [s, s'] τ [r, r']) (hc : (finC tm).code.length ≤ 4096) (hE : Ev (.ev [] tm) f) (hA : Apps f [r, r'] q) (hq : RsT 70000 q τ) : Ends19 (finC tm).code [valM r, valM r'] q := by
  obtain ⟨hr, hs⟩ := hd.each 0 r s rfl rfl
  obtain ⟨hr', hs'⟩ := hd.each 1 r' s' rfl rfl
  have hz := hd.size
  have hG := goodC hd.ty hc (by omega)
  have hO := fin_okc hd.ty hc (by omega)
  have sv := valM_shape2 hr hs
  have hF := ac_M hr hs (from_ok (by omega) hr hs)
  have sv' := valM_shape2 hr' hs'
  have hF' := ac_M hr' hs' (from_ok (by omega) hr' hs')
  have hb : ∀ a ∈ [itOf r, itOf r'], Bd 10 a := by
    intro a ha
    simp at ha
    rcases ha with rfl | rfl
    · exact Bd_itOf (by omega) hr hs
    · exact Bd_itOf (by omega) hr' hs'
  have hK := rchk_2 _ 20000 (by omega) _ _ sv sv' (codecheck_ok _ _ rfl (starts_ok _ hG)) (ac_M hr hs (vck_ok (by omega) hr hs)) (ac_M hr' hs' (vck_ok (by omega) hr' hs'))
  rcases calls_means hE hA 20000 [itOf r, itOf r'] rfl (by
    intro i z y h1 h2
    match i with
    | 0 => simp at h1 h2; subst h1 h2; exact VR_itOf hr hs
    | 1 => simp at h1 h2; subst h1 h2; exact VR_itOf hr' hs'
    | i + 2 => simp at h1) with ⟨e, he, h⟩ | ⟨m, m1, Y, h1, h2, h3, h4⟩
  · have hg := go_args_err _ 20000 10 e hO (by omega) [itOf r, itOf r'] (by simp) hb h
    exact .inl ⟨e, he, rcall_2_e _ 20000 _ _ sv sv' hK e (by omega) (retd_2_e _ 20000 _ _ _ _ sv sv' hF hF' e (by omega) hg)⟩
  · obtain ⟨g1, g2, g3⟩ := fine19 hd.plain hq hO [itOf r, itOf r'] (by simp) hb h1 h2 h3 h4
    have sw := shape_valW hq hd.plain
    exact .inr ⟨m1.steps, rcall_2_f _ 20000 _ _ sv sv' hK _ _ sw (retd_2_f _ 20000 _ _ _ _ sv sv' hF hF' Y _ _ sw g1 g2 g3)⟩
theorem calls_law (L : List Int) (hL : L.length ≤ 500) {tm : Tm} {ss : List Ty} {τ : Ty} {rs : List Rs} (hd : FunD tm ss τ rs) (vs : List (List PV)) (at' : Nat) (h4 : AC Tryz.prog gl 17 [.loc 900 0] (deck L 0) (.ret (.pv (.tuple [.agg tm.cells, .slice vs]))) (deck L at')) (h6 : Ends6 tm vs rs τ)
    (h7 : ∀ f q, (finC tm).code.length ≤ 4096 → Ev (.ev [] tm) f → Apps f rs q → RsT 70000 q τ → Ends19 (finC tm).code vs q) : AC Tryz.prog gl 4 [.pv (.slice (ints L))] [] (.ret (.pv (.bool true))) [] := by
  have hz := hd.size
  have h5 := compile_ok tm hd.wf (by omega)
  by_cases hc : (finC tm).code.length ≤ 4096
  · rw [if_pos hc, if_pos hc] at h5
    rcases h6 with ⟨e, he, h6⟩ | ⟨f, q, u, hE, hA, hq, h6⟩
    · exact cfails6 L hL tm vs at' h4 _ h5 e he h6
    · rcases h7 f q hc hE hA hq with ⟨e, he, h⟩ | ⟨n, h⟩
      · exact cfailsr L hL tm vs at' h4 _ h5 _ _ (shape_valC hq hd.plain) h6 e he h
      · exact cfine L hL tm vs at' h4 _ h5 _ _ (shape_valC hq hd.plain) h6 _ n (shape_valW hq hd.plain) h (vsame_ok (by omega) hq hd.plain)
  · rw [if_neg hc, if_neg hc] at h5
    rcases h6 with ⟨e, he, h6⟩ | ⟨f, q, u, hE, hA, hq, h6⟩
    · exact clong L hL tm vs at' h4 h5 _ _ _ ⟨_, _, _, _, rfl, rfl, rfl⟩ h6
    · exact clong L hL tm vs at' h4 h5 _ _ _ (shape_valC hq hd.plain) h6
theorem law_calls (L : List Int) : AC Tryz.prog gl 4 [.pv (.slice (ints L))] [] (.ret (.pv (.bool true))) [] := by
  by_cases hL : L.length ≤ 500
  · have hn := nxv_lt L 0 2 (by omega)
    have : nxv L 0 2 = 0 ∨ nxv L 0 2 = 1 := by omega
    rcases this with e | e
    · obtain ⟨tm, s, τ, r, at', hd, h4⟩ := fun_1 L hL 0 e
      exact calls_law L hL hd _ at' h4 (ends6_1 hd) (fun f q hc hE hA hq => ends19_1 hd hc hE hA hq)
    · obtain ⟨tm, s, s', τ, r, r', at', hd, h4⟩ := fun_2 L hL 0 e
      exact calls_law L hL hd _ at' h4 (ends6_2 hd) (fun f q hc hE hA hq => ends19_2 hd hc hE hA hq)
  · exact many_calls L hL
end Go.Proofs.YtodjpfpmhjdhbaaGreatDoor
