/- Part of the proof of RunLimits and RunPairs: the contract of the law's own function; no conditions. -/
import Derived.Test.YtodjpfpmhjdhbaaDoorE5
set_option linter.unusedVariables false
set_option linter.unusedSimpArgs false
set_option linter.unusedSectionVars false
namespace Go.Proofs.YtodjpfpmhjdhbaaDoor
open Go.Lg
set_option maxRecDepth 10000
set_option maxHeartbeats 4000000
theorem many_pairs (L : List Int) (hL : ¬ L.length ≤ 500) : AC Tryd.prog gl 4 [.pv (.slice (ints L))] [] (.ret (.pv (.bool true))) [] := by
  have h1 := awake_ok
  have h2 := few_ok L
  have e : decide (L.length ≤ 500) = false := by simp [hL]
  rw [e] at h2
  generalize ints L = cc at *
  refine body [] Tryd.func4 Tryd.ntmps4 ?_
  refine gg ?_
  refine call h1 ?_
  refine gg ?_
  refine call h2 ?_
  refine gg ?_
  refine call h1 ?_
  refine gg ?_
  exact ⟨by simp [retIs, resV, resL, resOne, mkTup, getS, getO, rdV, mkAgg, unL, V.un, TI.isAgg, XX_T, tt30, Tryd.f4], by simp [subO, getO, tt30, Tryd.f4]⟩
theorem lim_ok (e : Nat) (h : e = 4 ∨ e = 5) : AC Tryd.prog gl 10 [.pv (.int e)] [] (.ret (.pv (.bool true))) [] := by
  rcases h with rfl | rfl
  · exact limits_4
  · exact limits_5
/-- what the run of a program of closed data returns -/
theorem run_out {t : Tm} {τ : Ty} (h : Datum t τ) (hc : (finC t).code.length ≤ 4096) (l : Nat) (hl : l ≤ 65536) :
    (∃ e : Nat, (e = 4 ∨ e = 5) ∧ AC Tryd.prog gl 11 [.pv (.slice ((finC t).code.map insP)), .pv (.int l)] [] (.ret (.pv (.tuple [.agg [.int 0, .int 0, .int 0, .nils, .nils], .int 0, .int e]))) []) ∨
    ∃ m x, Runs (finC t).code l ms0 (.stop m) ∧ m.stack = [x] ∧ Dat x ∧ m.steps ≤ l ∧ x.more ≤ 2 ∧ AC Tryd.prog gl 11 [.pv (.slice ((finC t).code.map insP)), .pv (.int l)] [] (.ret (.pv (.tuple [.agg (itCell x), .int m.steps, .int 0]))) [] := by
  have hz := h.size
  have hG := goodC h.ty hc (by omega)
  have hO := fin_okc h.ty hc (by omega)
  rcases run_ends h.ty h.plain l with ⟨er, hr, he⟩ | ⟨m, x, hr, hs, hx, hle, hm⟩
  · exact .inl ⟨er, he, run_is_err _ hG hO l er hl (by omega) hr⟩
  · exact .inr ⟨m, x, hr, hs, hx, hle, hm, run_is_fine _ hG hO l hl m x hr hs hx⟩
/-- some outcome of a run -/
theorem run_some {t : Tm} {τ : Ty} (h : Datum t τ) (hc : (finC t).code.length ≤ 4096) (l : Nat) (hl : l ≤ 65536) :
    ∃ (k n a : Int) (s1 s2 : PV) (i j : Int), s1.one = true ∧ s2.one = true ∧ AC Tryd.prog gl 11 [.pv (.slice ((finC t).code.map insP)), .pv (.int l)] [] (.ret (.pv (.tuple [.agg [.int k, .int n, .int a, s1, s2], .int i, .int j]))) [] := by
  rcases run_out h hc l hl with ⟨e, _, h⟩ | ⟨m, x, _, _, _, _, _, h⟩
  · exact ⟨0, 0, 0, .nils, .nils, 0, e, rfl, rfl, h⟩
  · obtain ⟨k1, n1, a1, s1, s2, ea, hs1, hs2⟩ := itCell_shape x
    rw [ea] at h
    exact ⟨k1, n1, a1, s1, s2, _, _, hs1, hs2, h⟩
section
variable (L : List Int) (hL : L.length ≤ 500) (a b : Tm) (τ υ : Ty) (at1 at2 : Nat)
  (d1 : AC Tryd.prog gl 7 [.loc 900 0] (deck L 0) (.ret (.pv (.tuple [.agg a.cells, .agg τ.cells]))) (deck L at1))
  (d2 : AC Tryd.prog gl 7 [.loc 900 0] (deck L at1) (.ret (.pv (.tuple [.agg b.cells, .agg υ.cells]))) (deck L at2))
  (ka kb kc : List (List PV)) (ea eb ec : Int)
  (c1 : AC Tryd.prog gl 9 [.pv (.agg a.cells)] [] (.ret (.pv (.tuple [.slice ka, .int ea]))) [])
  (c2 : AC Tryd.prog gl 9 [.pv (.agg b.cells)] [] (.ret (.pv (.tuple [.slice kb, .int eb]))) [])
  (c3 : AC Tryd.prog gl 9 [.pv (.agg (Tm.pair a b).cells)] [] (.ret (.pv (.tuple [.slice kc, .int ec]))) [])
include hL d1 d2 c1 c2 c3
theorem pairs_c1 (he : ea = 4) : AC Tryd.prog gl 4 [.pv (.slice (ints L))] [] (.ret (.pv (.bool true))) [] := by
  have h1 := awake_ok
  have h2 := few_ok L
  have h3 := new_ok L
  have hn := node_ok a b
  have l4 := limits_4
  have e : decide (L.length ≤ 500) = true := by simp [hL]
  rw [e] at h2
  subst he
  rw [Tm.cells_eq (.pair a b)] at c3 hn
  rw [Tm.cells_eq a] at d1 c1 hn
  rw [Tm.cells_eq b] at d2 c2 hn
  rw [Ty.cells_eq τ] at d1
  rw [Ty.cells_eq υ] at d2
  unfold deck at *
  simp only [Int.cast_ofNat_Int] at d1 h3
  generalize ints L = cc at *
  refine body [] Tryd.func4 Tryd.ntmps4 ?_
  refine gg ?_
  refine call h1 ?_
  refine gg ?_
  refine call h2 ?_
  refine gg ?_
  refine call h3 ?_
  refine gg ?_
  refine call d1 ?_
  refine gg ?_
  refine call d2 ?_
  refine gg ?_
  refine call c1 ?_
  refine gg ?_
  refine call c2 ?_
  refine gg ?_
  refine call hn ?_
  refine gg ?_
  refine call c3 ?_
  refine gg ?_
  refine call l4 ?_
  refine gg ?_
  exact ⟨by simp [retIs, resV, resL, resOne, mkTup, getS, getO, rdV, mkAgg, unL, V.un, TI.isAgg, XX_T, tt30, Tryd.f4], by simp [subO, getO, tt30, Tryd.f4]⟩
theorem pairs_c2 (he : ea = 0) (hf : eb = 4) : AC Tryd.prog gl 4 [.pv (.slice (ints L))] [] (.ret (.pv (.bool true))) [] := by
  have h1 := awake_ok
  have h2 := few_ok L
  have h3 := new_ok L
  have hn := node_ok a b
  have l4 := limits_4
  have l0 := limits_0
  have e : decide (L.length ≤ 500) = true := by simp [hL]
  rw [e] at h2
  subst he hf
  rw [Tm.cells_eq (.pair a b)] at c3 hn
  rw [Tm.cells_eq a] at d1 c1 hn
  rw [Tm.cells_eq b] at d2 c2 hn
  rw [Ty.cells_eq τ] at d1
  rw [Ty.cells_eq υ] at d2
  unfold deck at *
  simp only [Int.cast_ofNat_Int] at d1 h3
  generalize ints L = cc at *
  refine body [] Tryd.func4 Tryd.ntmps4 ?_
  refine gg ?_
  refine call h1 ?_
  refine gg ?_
  refine call h2 ?_
  refine gg ?_
  refine call h3 ?_
  refine gg ?_
  refine call d1 ?_
  refine gg ?_
  refine call d2 ?_
  refine gg ?_
  refine call c1 ?_
  refine gg ?_
  refine call c2 ?_
  refine gg ?_
  refine call hn ?_
  refine gg ?_
  refine call c3 ?_
  refine gg ?_
  refine call l0 ?_
  refine gg ?_
  refine call l4 ?_
  refine gg ?_
  exact ⟨by simp [retIs, resV, resL, resOne, mkTup, getS, getO, rdV, mkAgg, unL, V.un, TI.isAgg, XX_T, tt30, Tryd.f4], by simp [subO, getO, tt30, Tryd.f4]⟩
theorem pairs_c3 (he : ea = 0) (hf : eb = 0) (hg : ec = 4) : AC Tryd.prog gl 4 [.pv (.slice (ints L))] [] (.ret (.pv (.bool true))) [] := by
  have h1 := awake_ok
  have h2 := few_ok L
  have h3 := new_ok L
  have hn := node_ok a b
  have l4 := limits_4
  have l0 := limits_0
  have e : decide (L.length ≤ 500) = true := by simp [hL]
  rw [e] at h2
  subst he hf hg
  rw [Tm.cells_eq (.pair a b)] at c3 hn
  rw [Tm.cells_eq a] at d1 c1 hn
  rw [Tm.cells_eq b] at d2 c2 hn
  rw [Ty.cells_eq τ] at d1
  rw [Ty.cells_eq υ] at d2
  unfold deck at *
  simp only [Int.cast_ofNat_Int] at d1 h3
  generalize ints L = cc at *
  refine body [] Tryd.func4 Tryd.ntmps4 ?_
  refine gg ?_
  refine call h1 ?_
  refine gg ?_
  refine call h2 ?_
  refine gg ?_
  refine call h3 ?_
  refine gg ?_
  refine call d1 ?_
  refine gg ?_
  refine call d2 ?_
  refine gg ?_
  refine call c1 ?_
  refine gg ?_
  refine call c2 ?_
  refine gg ?_
  refine call hn ?_
  refine gg ?_
  refine call c3 ?_
  refine gg ?_
  refine call l0 ?_
  refine gg ?_
  refine call l0 ?_
  refine gg ?_
  refine call l4 ?_
  refine gg ?_
  exact ⟨by simp [retIs, resV, resL, resOne, mkTup, getS, getO, rdV, mkAgg, unL, V.un, TI.isAgg, XX_T, tt30, Tryd.f4], by simp [subO, getO, tt30, Tryd.f4]⟩
section
variable (k1 n1 a1 : Int) (s1 s2 : PV) (i1 j1 : Int) (k2 n2 a2 : Int) (s3 s4 : PV) (i2 j2 : Int) (hs1 : s1.one = true) (hs2 : s2.one = true) (hs3 : s3.one = true) (hs4 : s4.one = true)
  (he : ea = 0) (hf : eb = 0) (hg : ec = 0)
  (r1 : AC Tryd.prog gl 11 [.pv (.slice ka), .pv (.int 20000)] [] (.ret (.pv (.tuple [.agg [.int k1, .int n1, .int a1, s1, s2], .int i1, .int j1]))) [])
  (r2 : AC Tryd.prog gl 11 [.pv (.slice kb), .pv (.int 20000)] [] (.ret (.pv (.tuple [.agg [.int k2, .int n2, .int a2, s3, s4], .int i2, .int j2]))) [])
include hs1 hs2 hs3 hs4 he hf hg r1 r2
theorem pairs_r1 (hj : ¬ j1 = 0) (hl : AC Tryd.prog gl 10 [.pv (.int j1)] [] (.ret (.pv (.bool true))) []) : AC Tryd.prog gl 4 [.pv (.slice (ints L))] [] (.ret (.pv (.bool true))) [] := by
  have h1 := awake_ok
  have h2 := few_ok L
  have h3 := new_ok L
  have hn := node_ok a b
  have e : decide (L.length ≤ 500) = true := by simp [hL]
  rw [e] at h2
  subst he hf hg
  have w1 := vcells_one hs1
  have w2 := vcells_one hs2
  have w3 := vcells_one hs3
  have w4 := vcells_one hs4
  have u1 : (V.pv s1).one = true := by rw [one_pv]; exact hs1
  have u2 : (V.pv s2).one = true := by rw [one_pv]; exact hs2
  have u3 : (V.pv s3).one = true := by rw [one_pv]; exact hs3
  have u4 : (V.pv s4).one = true := by rw [one_pv]; exact hs4
  rw [Tm.cells_eq (.pair a b)] at c3 hn
  rw [Tm.cells_eq a] at d1 c1 hn
  rw [Tm.cells_eq b] at d2 c2 hn
  rw [Ty.cells_eq τ] at d1
  rw [Ty.cells_eq υ] at d2
  unfold deck at *
  simp only [Int.cast_ofNat_Int] at d1 h3
  generalize ints L = cc at *
  refine body [] Tryd.func4 Tryd.ntmps4 ?_
  refine gg ?_
  refine call h1 ?_
  refine gg ?_
  refine call h2 ?_
  refine gg ?_
  refine call h3 ?_
  refine gg ?_
  refine call d1 ?_
  refine gg ?_
  refine call d2 ?_
  refine gg ?_
  refine call c1 ?_
  refine gg ?_
  refine call c2 ?_
  refine gg ?_
  refine call hn ?_
  refine gg ?_
  refine call c3 ?_
  refine gg ?_
  refine call r1 ?_
  refine gg ?_
  refine call r2 ?_
  refine gg ?_
  refine call hl ?_
  refine gg ?_
  exact ⟨by simp [retIs, resV, resL, resOne, mkTup, getS, getO, rdV, mkAgg, unL, V.un, TI.isAgg, XX_T, tt30, Tryd.f4], by simp [subO, getO, tt30, Tryd.f4]⟩
theorem pairs_r2 (hi : j1 = 0) (hj : ¬ j2 = 0) (hl : AC Tryd.prog gl 10 [.pv (.int j2)] [] (.ret (.pv (.bool true))) []) : AC Tryd.prog gl 4 [.pv (.slice (ints L))] [] (.ret (.pv (.bool true))) [] := by
  have h1 := awake_ok
  have h2 := few_ok L
  have h3 := new_ok L
  have hn := node_ok a b
  have l0 := limits_0
  have e : decide (L.length ≤ 500) = true := by simp [hL]
  rw [e] at h2
  subst he hf hg hi
  have w1 := vcells_one hs1
  have w2 := vcells_one hs2
  have w3 := vcells_one hs3
  have w4 := vcells_one hs4
  have u1 : (V.pv s1).one = true := by rw [one_pv]; exact hs1
  have u2 : (V.pv s2).one = true := by rw [one_pv]; exact hs2
  have u3 : (V.pv s3).one = true := by rw [one_pv]; exact hs3
  have u4 : (V.pv s4).one = true := by rw [one_pv]; exact hs4
  rw [Tm.cells_eq (.pair a b)] at c3 hn
  rw [Tm.cells_eq a] at d1 c1 hn
  rw [Tm.cells_eq b] at d2 c2 hn
  rw [Ty.cells_eq τ] at d1
  rw [Ty.cells_eq υ] at d2
  unfold deck at *
  simp only [Int.cast_ofNat_Int] at d1 h3
  generalize ints L = cc at *
  refine body [] Tryd.func4 Tryd.ntmps4 ?_
  refine gg ?_
  refine call h1 ?_
  refine gg ?_
  refine call h2 ?_
  refine gg ?_
  refine call h3 ?_
  refine gg ?_
  refine call d1 ?_
  refine gg ?_
  refine call d2 ?_
  refine gg ?_
  refine call c1 ?_
  refine gg ?_
  refine call c2 ?_
  refine gg ?_
  refine call hn ?_
  refine gg ?_
  refine call c3 ?_
  refine gg ?_
  refine call r1 ?_
  refine gg ?_
  refine call r2 ?_
  refine gg ?_
  refine call l0 ?_
  refine gg ?_
  refine call hl ?_
  refine gg ?_
  exact ⟨by simp [retIs, resV, resL, resOne, mkTup, getS, getO, rdV, mkAgg, unL, V.un, TI.isAgg, XX_T, tt30, Tryd.f4], by simp [subO, getO, tt30, Tryd.f4]⟩
theorem pairs_r4 (hi : j1 = 0) (hj : j2 = 0) (hb : 0 ≤ i1 ∧ i1 ≤ 20000 ∧ 0 ≤ i2 ∧ i2 ≤ 20000) (r3 : AC Tryd.prog gl 11 [.pv (.slice kc), .pv (.int 60000)] [] (.ret (.pv (.tuple [.agg [.int 3, .int 0, .int 0, .nils, .slice [[.int k1, .int n1, .int a1, s1, s2], [.int k2, .int n2, .int a2, s3, s4]]], .int (i1 + i2), .int 0]))) [])
    (m1 : AC Tryd.prog gl 12 [.pv (.agg [.int k1, .int n1, .int a1, s1, s2]), .pv (.agg [.int k1, .int n1, .int a1, s1, s2])] [] (.ret (.pv (.bool true))) [])
    (m2 : AC Tryd.prog gl 12 [.pv (.agg [.int k2, .int n2, .int a2, s3, s4]), .pv (.agg [.int k2, .int n2, .int a2, s3, s4])] [] (.ret (.pv (.bool true))) []) : AC Tryd.prog gl 4 [.pv (.slice (ints L))] [] (.ret (.pv (.bool true))) [] := by
  have h1 := awake_ok
  have h2 := few_ok L
  have h3 := new_ok L
  have hn := node_ok a b
  have l0 := limits_0
  have e : decide (L.length ≤ 500) = true := by simp [hL]
  rw [e] at h2
  subst he hf hg hi hj
  have w1 := vcells_one hs1
  have w2 := vcells_one hs2
  have w3 := vcells_one hs3
  have w4 := vcells_one hs4
  have u1 : (V.pv s1).one = true := by rw [one_pv]; exact hs1
  have u2 : (V.pv s2).one = true := by rw [one_pv]; exact hs2
  have u3 : (V.pv s3).one = true := by rw [one_pv]; exact hs3
  have u4 : (V.pv s4).one = true := by rw [one_pv]; exact hs4
  rw [Tm.cells_eq (.pair a b)] at c3 hn
  rw [Tm.cells_eq a] at d1 c1 hn
  rw [Tm.cells_eq b] at d2 c2 hn
  rw [Ty.cells_eq τ] at d1
  rw [Ty.cells_eq υ] at d2
  unfold deck at *
  simp only [Int.cast_ofNat_Int] at d1 h3
  generalize ints L = cc at *
  refine body [] Tryd.func4 Tryd.ntmps4 ?_
  refine gg ?_
  refine call h1 ?_
  refine gg ?_
  refine call h2 ?_
  refine gg ?_
  refine call h3 ?_
  refine gg ?_
  refine call d1 ?_
  refine gg ?_
  refine call d2 ?_
  refine gg ?_
  refine call c1 ?_
  refine gg ?_
  refine call c2 ?_
  refine gg ?_
  refine call hn ?_
  refine gg ?_
  refine call c3 ?_
  refine gg ?_
  refine call r1 ?_
  refine gg ?_
  refine call r2 ?_
  refine gg ?_
  refine call r3 ?_
  refine gg ?_
  refine call l0 ?_
  refine gg ?_
  refine call m1 ?_
  refine gg ?_
  refine call m2 ?_
  refine gg ?_
  refine ⟨by rfl, ?_⟩
  refine gg ?_
  exact ⟨by simp [retIs, resV, resL, resOne, mkTup, getS, getO, rdV, mkAgg, unL, V.un, TI.isAgg, XX_T, tt30, Tryd.f4], by simp [subO, getO, tt30, Tryd.f4]⟩
end
end
theorem law_pairs (L : List Int) : AC Tryd.prog gl 4 [.pv (.slice (ints L))] [] (.ret (.pv (.bool true))) [] := by
  by_cases hL : L.length ≤ 500
  · obtain ⟨a, τ, at1, ha, d1⟩ := data_ok L hL 0
    obtain ⟨b, υ, at2, hb, d2⟩ := data_ok L hL at1
    have za := ha.size
    have zb := hb.size
    have zc : (Tm.pair a b).size ≤ 4096 := by simp only [Tm.size]; omega
    have wc : (Tm.pair a b).wf = true := by simp only [Tm.wf, ha.wf, hb.wf, Bool.and_self]
    have c1 := compile_ok a ha.wf (by omega)
    have c2 := compile_ok b hb.wf (by omega)
    have c3 := compile_ok (.pair a b) wc zc
    by_cases la : (finC a).code.length ≤ 4096
    · rw [if_pos la, if_pos la] at c1
      by_cases lb : (finC b).code.length ≤ 4096
      · rw [if_pos lb, if_pos lb] at c2
        by_cases lc : (finC (.pair a b)).code.length ≤ 4096
        · rw [if_pos lc, if_pos lc] at c3
          rcases run_out ha la 20000 (by omega) with ⟨e, he, r1⟩ | ⟨m, x, hr, hs, hx, hle, hm, r1⟩
          · obtain ⟨k2, n2, a2, s3, s4, i2, j2, q3, q4, r2⟩ := run_some hb lb 20000 (by omega)
            exact pairs_r1 L hL a b τ υ at1 at2 d1 d2 _ _ _ _ _ _ c1 c2 c3 0 0 0 .nils .nils 0 e k2 n2 a2 s3 s4 i2 j2 rfl rfl q3 q4 rfl rfl rfl r1 r2 (by omega) (lim_ok e he)
          · obtain ⟨k1, n1, a1, s1, s2, ex, q1, q2⟩ := itCell_shape x
            rw [ex] at r1
            rcases run_out hb lb 20000 (by omega) with ⟨e, he, r2⟩ | ⟨m', y, hr', hs', hy, hle', hm', r2⟩
            · exact pairs_r2 L hL a b τ υ at1 at2 d1 d2 _ _ _ _ _ _ c1 c2 c3 k1 n1 a1 s1 s2 m.steps 0 0 0 0 .nils .nils 0 e q1 q2 rfl rfl rfl rfl rfl r1 r2 rfl (by omega) (lim_ok e he)
            · obtain ⟨k2, n2, a2, s3, s4, ey, q3, q4⟩ := itCell_shape y
              rw [ey] at r2
              have hT : HasTy [] (Tm.pair a b) (.pair τ υ) := .pair ha.ty hb.ty
              have hG := goodC hT lc zc
              have hO := fin_okc hT lc zc
              obtain ⟨t1, t2⟩ := fin_TA a
              obtain ⟨t3, t4⟩ := fin_TA b
              obtain ⟨t5, t6⟩ := fin_TA (.pair a b)
              rcases pair_run t1 t2 t3 t4 t5 t6 (l' := 60000) hr hs hx hr' hs' hy (by omega) with ⟨hE, -⟩ | ⟨mm, hR, hS, hN⟩
              · simp only [It.more] at hE
                omega
              · have r3 := run_is_fine _ hG hO 60000 (by omega) mm _ hR hS (.pair hx hy)
                have m1 := cells_same hx (run_bd hr hs)
                have m2 := cells_same hy (run_bd hr' hs')
                rw [ex] at m1
                rw [ey] at m2
                have eN : ((mm.steps : Nat) : Int) = (m.steps : Int) + m'.steps := by omega
                simp only [itCell, ex, ey, eN] at r3
                exact pairs_r4 L hL a b τ υ at1 at2 d1 d2 _ _ _ _ _ _ c1 c2 c3 k1 n1 a1 s1 s2 m.steps 0 k2 n2 a2 s3 s4 m'.steps 0 q1 q2 q3 q4 rfl rfl rfl r1 r2 rfl rfl (by omega) r3 m1 m2
        · rw [if_neg lc, if_neg lc] at c3
          exact pairs_c3 L hL a b τ υ at1 at2 d1 d2 _ _ _ _ _ _ c1 c2 c3 rfl rfl rfl
      · rw [if_neg lb, if_neg lb] at c2
        exact pairs_c2 L hL a b τ υ at1 at2 d1 d2 _ _ _ _ _ _ c1 c2 c3 rfl rfl
    · rw [if_neg la, if_neg la] at c1
      exact pairs_c1 L hL a b τ υ at1 at2 d1 d2 _ _ _ _ _ _ c1 c2 c3 rfl
  · exact many_pairs L hL
end Go.Proofs.YtodjpfpmhjdhbaaDoor
