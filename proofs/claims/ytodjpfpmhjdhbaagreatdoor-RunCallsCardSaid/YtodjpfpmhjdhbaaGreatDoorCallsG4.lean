/- Part of the proof: the contract of the law's own function; no conditions. -/
import Derived.Test.YtodjpfpmhjdhbaaGreatDoorCallsG3
import Derived.Test.YtodjpfpmhjdhbaaGreatDoorCallsF6
set_option linter.unusedVariables false
set_option linter.unusedSimpArgs false
set_option linter.unusedSectionVars false
/- ref06.Call with values (printed by call6.py). -/
namespace Go.Proofs.YtodjpfpmhjdhbaaGreatDoor
open Go.Lg
set_option maxRecDepth 10000
set_option maxHeartbeats 4000000
theorem call6_terr (t : Tm) (most : Nat) (ls : List (List PV)) (hT : AC Tryz.prog gl 47 [.pv (.slice []), .pv (.agg t.cells)] [] (.ret (.pv (.tuple [.agg [.int 0, .slice []], .int 4]))) []) :
    AC Tryz.prog gl 18 [.pv (.agg t.cells), .pv (.slice ls), .pv (.int most)] [] (.ret (.pv (.tuple [.agg [.int 0, .int 0, .nils, .nils], .int 0, .int 4]))) [] := by
  rw [Tm.cells_eq] at *
  generalize t.ty.args.map Ty.cells = ta at *
  generalize t.args.map Tm.cells = tas at *
  refine body [] Tryz.func18 Tryz.ntmps18 ?_
  refine gg ?_
  refine call hT ?_
  refine gg ?_
  exact ⟨by simp [retIs, resV, resL, resOne, mkTup, getS, getO, rdV, mkAgg, unL, V.un, TI.isAgg, XX_T, tt41, Tryz.f18], by simp [subO, getO, tt41, Tryz.f18]⟩
theorem call6_1_0 (tm : Tm) (s1 τ : Ty) (most : Nat) (hm : most ≤ 65536) (v1 : List PV) (sv1 : ∃ k m s q, v1 = [.int k, .int m, s, q] ∧ s.one = true ∧ q.one = true)
    (hT : AC Tryz.prog gl 47 [.pv (.slice []), .pv (.agg tm.cells)] [] (.ret (.pv (.tuple [.agg (Ty.fn s1 τ).cells, .int 0]))) [])
    (hV1 : AC Tryz.prog gl 48 [.pv (.agg v1)] [] (.ret (.pv (.tuple [.agg s1.cells, .int 0]))) []) (hS1 : AC Tryz.prog gl 49 [.pv (.agg s1.cells), .pv (.agg s1.cells)] [] (.ret (.pv (.bool true))) [])
    (hD : AC Tryz.prog gl 50 [.pv (.agg τ.cells)] [] (.ret (.pv (.tuple [.bool true, .int 0]))) [])
    (x0 : List PV) (sx0 : ∃ n l p k i tk ta bs e, x0 = [.int n, .slice l, .slice p, .int k, .int i, .int tk, .slice ta, .slice bs, .slice e]) (u0 : Nat) (hE : AC Tryz.prog gl 51 [.loc 970 0, .pv (.agg tm.cells), .pv (.slice [])] [(970, mc 0 most false)] (.ret (.pv (.agg x0))) [(970, mc u0 most true)]) :
    AC Tryz.prog gl 18 [.pv (.agg tm.cells), .pv (.slice [v1]), .pv (.int most)] [] (.ret (.pv (.tuple [.agg [.int 0, .int 0, .nils, .nils], .int 0, .int 5]))) [] := by
  have g1 : ¬ (most : Int) < 0 := by omega
  have g2 : ¬ (65536 : Int) < most := by omega
  obtain ⟨kv1, mv1, sv1, qv1, rfl, ov1, ov1'⟩ := sv1
  have wv1 := vcells_one ov1
  have wv1' := vcells_one ov1'
  have zv1 : (V.pv sv1).one = true := by rw [one_pv]; exact ov1
  have zv1' : (V.pv qv1).one = true := by rw [one_pv]; exact ov1'
  obtain ⟨nx0, lx0, px0, kx0, ix0, tx0, ax0, bx0, ex0, rfl⟩ := sx0
  unfold mc at *
  simp only [Ty.cells, Int.cast_ofNat_Int] at *
  rw [tm.cells_eq] at *
  rw [τ.cells_eq] at *
  rw [s1.cells_eq] at *
  generalize tm.ty.args.map Ty.cells = tta at *
  generalize tm.args.map Tm.cells = tas at *
  generalize τ.args.map Ty.cells = ta at *
  generalize s1.args.map Ty.cells = sa1 at *
  refine body [(80, .box 970)] Tryz.func18 Tryz.ntmps18 ?_
  refine gg ?_
  refine call hT ?_
  refine gg ?_
  refine ex_loop 2 (ex_round ?_)
  refine gg ?_
  refine call hV1 ?_
  refine gg ?_
  refine call hS1 ?_
  refine gg ?_
  refine ⟨by rfl, ?_⟩
  refine gg ?_
  refine ex_round ?_
  refine kp [1, 2, 3, 6, 7, 8, 9, 10, 30, 31, 32] [6, 9] ?_
  refine gg ?_
  refine call hD ?_
  refine gg ?_
  refine call hE ?_
  refine gg ?_
  refine ex_loop 2 (ex_round ?_)
  refine gg ?_
  refine ex_round ?_
  refine kp [1, 2, 3, 6, 7, 8, 9, 15, 16, 17, 18, 84, 85, 86] [6, 9, 18, 970] ?_
  refine gg ?_
  exact ⟨by simp [retIs, resV, resL, resOne, mkTup, getS, getO, rdV, mkAgg, unL, V.un, TI.isAgg, XX_T, tt41, Tryz.f18], by simp [subO, getO, tt41, Tryz.f18]⟩
theorem call6_1_1 (tm : Tm) (s1 τ : Ty) (most : Nat) (hm : most ≤ 65536) (v1 : List PV) (sv1 : ∃ k m s q, v1 = [.int k, .int m, s, q] ∧ s.one = true ∧ q.one = true)
    (hT : AC Tryz.prog gl 47 [.pv (.slice []), .pv (.agg tm.cells)] [] (.ret (.pv (.tuple [.agg (Ty.fn s1 τ).cells, .int 0]))) [])
    (hV1 : AC Tryz.prog gl 48 [.pv (.agg v1)] [] (.ret (.pv (.tuple [.agg s1.cells, .int 0]))) []) (hS1 : AC Tryz.prog gl 49 [.pv (.agg s1.cells), .pv (.agg s1.cells)] [] (.ret (.pv (.bool true))) [])
    (hD : AC Tryz.prog gl 50 [.pv (.agg τ.cells)] [] (.ret (.pv (.tuple [.bool true, .int 0]))) [])
    (x0 : List PV) (sx0 : ∃ n l p k i tk ta bs e, x0 = [.int n, .slice l, .slice p, .int k, .int i, .int tk, .slice ta, .slice bs, .slice e]) (u0 : Nat) (hE : AC Tryz.prog gl 51 [.loc 970 0, .pv (.agg tm.cells), .pv (.slice [])] [(970, mc 0 most false)] (.ret (.pv (.agg x0))) [(970, mc u0 most false)])
    (y1 : List PV) (sy1 : ∃ n l p k i tk ta bs e, y1 = [.int n, .slice l, .slice p, .int k, .int i, .int tk, .slice ta, .slice bs, .slice e]) (hO1 : AC Tryz.prog gl 53 [.pv (.agg v1)] [] (.ret (.pv (.agg y1))) []) (x1 : List PV) (sx1 : ∃ n l p k i tk ta bs e, x1 = [.int n, .slice l, .slice p, .int k, .int i, .int tk, .slice ta, .slice bs, .slice e]) (u1 : Nat) (hC1 : AC Tryz.prog gl 52 [.loc 970 0, .pv (.agg x0), .pv (.agg y1)] [(970, mc u0 most false)] (.ret (.pv (.agg x1))) [(970, mc u1 most true)]) :
    AC Tryz.prog gl 18 [.pv (.agg tm.cells), .pv (.slice [v1]), .pv (.int most)] [] (.ret (.pv (.tuple [.agg [.int 0, .int 0, .nils, .nils], .int 0, .int 5]))) [] := by
  have g1 : ¬ (most : Int) < 0 := by omega
  have g2 : ¬ (65536 : Int) < most := by omega
  obtain ⟨kv1, mv1, sv1, qv1, rfl, ov1, ov1'⟩ := sv1
  have wv1 := vcells_one ov1
  have wv1' := vcells_one ov1'
  have zv1 : (V.pv sv1).one = true := by rw [one_pv]; exact ov1
  have zv1' : (V.pv qv1).one = true := by rw [one_pv]; exact ov1'
  obtain ⟨nx0, lx0, px0, kx0, ix0, tx0, ax0, bx0, ex0, rfl⟩ := sx0
  obtain ⟨ny1, ly1, py1, ky1, iy1, ty1, ay1, by1, ey1, rfl⟩ := sy1
  obtain ⟨nx1, lx1, px1, kx1, ix1, tx1, ax1, bx1, ex1, rfl⟩ := sx1
  unfold mc at *
  simp only [Ty.cells, Int.cast_ofNat_Int] at *
  rw [tm.cells_eq] at *
  rw [τ.cells_eq] at *
  rw [s1.cells_eq] at *
  generalize tm.ty.args.map Ty.cells = tta at *
  generalize tm.args.map Tm.cells = tas at *
  generalize τ.args.map Ty.cells = ta at *
  generalize s1.args.map Ty.cells = sa1 at *
  refine body [(80, .box 970)] Tryz.func18 Tryz.ntmps18 ?_
  refine gg ?_
  refine call hT ?_
  refine gg ?_
  refine ex_loop 2 (ex_round ?_)
  refine gg ?_
  refine call hV1 ?_
  refine gg ?_
  refine call hS1 ?_
  refine gg ?_
  refine ⟨by rfl, ?_⟩
  refine gg ?_
  refine ex_round ?_
  refine kp [1, 2, 3, 6, 7, 8, 9, 10, 30, 31, 32] [6, 9] ?_
  refine gg ?_
  refine call hD ?_
  refine gg ?_
  refine call hE ?_
  refine gg ?_
  refine ex_loop 2 (ex_round ?_)
  refine gg ?_
  refine call hO1 ?_
  refine gg ?_
  refine call hC1 ?_
  refine gg ?_
  refine ⟨by rfl, ?_⟩
  refine gg ?_
  refine ex_round ?_
  refine kp [1, 2, 3, 6, 7, 8, 9, 15, 16, 17, 18, 84, 85, 86] [6, 9, 18, 970] ?_
  refine gg ?_
  exact ⟨by simp [retIs, resV, resL, resOne, mkTup, getS, getO, rdV, mkAgg, unL, V.un, TI.isAgg, XX_T, tt41, Tryz.f18], by simp [subO, getO, tt41, Tryz.f18]⟩
theorem call6_1_f (tm : Tm) (s1 τ : Ty) (most : Nat) (hm : most ≤ 65536) (v1 : List PV) (sv1 : ∃ k m s q, v1 = [.int k, .int m, s, q] ∧ s.one = true ∧ q.one = true)
    (hT : AC Tryz.prog gl 47 [.pv (.slice []), .pv (.agg tm.cells)] [] (.ret (.pv (.tuple [.agg (Ty.fn s1 τ).cells, .int 0]))) [])
    (hV1 : AC Tryz.prog gl 48 [.pv (.agg v1)] [] (.ret (.pv (.tuple [.agg s1.cells, .int 0]))) []) (hS1 : AC Tryz.prog gl 49 [.pv (.agg s1.cells), .pv (.agg s1.cells)] [] (.ret (.pv (.bool true))) [])
    (hD : AC Tryz.prog gl 50 [.pv (.agg τ.cells)] [] (.ret (.pv (.tuple [.bool true, .int 0]))) [])
    (x0 : List PV) (sx0 : ∃ n l p k i tk ta bs e, x0 = [.int n, .slice l, .slice p, .int k, .int i, .int tk, .slice ta, .slice bs, .slice e]) (u0 : Nat) (hE : AC Tryz.prog gl 51 [.loc 970 0, .pv (.agg tm.cells), .pv (.slice [])] [(970, mc 0 most false)] (.ret (.pv (.agg x0))) [(970, mc u0 most false)])
    (y1 : List PV) (sy1 : ∃ n l p k i tk ta bs e, y1 = [.int n, .slice l, .slice p, .int k, .int i, .int tk, .slice ta, .slice bs, .slice e]) (hO1 : AC Tryz.prog gl 53 [.pv (.agg v1)] [] (.ret (.pv (.agg y1))) []) (x1 : List PV) (sx1 : ∃ n l p k i tk ta bs e, x1 = [.int n, .slice l, .slice p, .int k, .int i, .int tk, .slice ta, .slice bs, .slice e]) (u1 : Nat) (hC1 : AC Tryz.prog gl 52 [.loc 970 0, .pv (.agg x0), .pv (.agg y1)] [(970, mc u0 most false)] (.ret (.pv (.agg x1))) [(970, mc u1 most false)])
    (pr : List PV) (hpr : ∃ k m s q, pr = [.int k, .int m, s, q] ∧ s.one = true ∧ q.one = true) (hP : AC Tryz.prog gl 54 [.pv (.agg x1), .pv (.agg τ.cells)] [] (.ret (.pv (.agg pr))) []) :
    AC Tryz.prog gl 18 [.pv (.agg tm.cells), .pv (.slice [v1]), .pv (.int most)] [] (.ret (.pv (.tuple [.agg pr, .int u1, .int 0]))) [] := by
  have g1 : ¬ (most : Int) < 0 := by omega
  have g2 : ¬ (65536 : Int) < most := by omega
  obtain ⟨kv1, mv1, sv1, qv1, rfl, ov1, ov1'⟩ := sv1
  have wv1 := vcells_one ov1
  have wv1' := vcells_one ov1'
  have zv1 : (V.pv sv1).one = true := by rw [one_pv]; exact ov1
  have zv1' : (V.pv qv1).one = true := by rw [one_pv]; exact ov1'
  obtain ⟨kpr, mpr, spr, qpr, rfl, opr, opr'⟩ := hpr
  have wpr := vcells_one opr
  have wpr' := vcells_one opr'
  have zpr : (V.pv spr).one = true := by rw [one_pv]; exact opr
  have zpr' : (V.pv qpr).one = true := by rw [one_pv]; exact opr'
  obtain ⟨nx0, lx0, px0, kx0, ix0, tx0, ax0, bx0, ex0, rfl⟩ := sx0
  obtain ⟨ny1, ly1, py1, ky1, iy1, ty1, ay1, by1, ey1, rfl⟩ := sy1
  obtain ⟨nx1, lx1, px1, kx1, ix1, tx1, ax1, bx1, ex1, rfl⟩ := sx1
  unfold mc at *
  simp only [Ty.cells, Int.cast_ofNat_Int] at *
  rw [tm.cells_eq] at *
  rw [τ.cells_eq] at *
  rw [s1.cells_eq] at *
  generalize tm.ty.args.map Ty.cells = tta at *
  generalize tm.args.map Tm.cells = tas at *
  generalize τ.args.map Ty.cells = ta at *
  generalize s1.args.map Ty.cells = sa1 at *
  refine body [(80, .box 970)] Tryz.func18 Tryz.ntmps18 ?_
  refine gg ?_
  refine call hT ?_
  refine gg ?_
  refine ex_loop 2 (ex_round ?_)
  refine gg ?_
  refine call hV1 ?_
  refine gg ?_
  refine call hS1 ?_
  refine gg ?_
  refine ⟨by rfl, ?_⟩
  refine gg ?_
  refine ex_round ?_
  refine kp [1, 2, 3, 6, 7, 8, 9, 10, 30, 31, 32] [6, 9] ?_
  refine gg ?_
  refine call hD ?_
  refine gg ?_
  refine call hE ?_
  refine gg ?_
  refine ex_loop 2 (ex_round ?_)
  refine gg ?_
  refine call hO1 ?_
  refine gg ?_
  refine call hC1 ?_
  refine gg ?_
  refine ⟨by rfl, ?_⟩
  refine gg ?_
  refine ex_round ?_
  refine kp [1, 2, 3, 6, 7, 8, 9, 15, 16, 17, 18, 84, 85, 86] [6, 9, 18, 970] ?_
  refine gg ?_
  refine call hP ?_
  refine gg ?_
  refine ⟨by rfl, ?_⟩
  refine gg ?_
  exact ⟨by simp [retIs, resV, resL, resOne, mkTup, getS, getO, rdV, mkAgg, unL, V.un, TI.isAgg, XX_T, tt41, Tryz.f18], by simp [subO, getO, tt41, Tryz.f18]⟩
theorem call6_2_0 (tm : Tm) (s1 s2 τ : Ty) (most : Nat) (hm : most ≤ 65536) (v1 v2 : List PV) (sv1 : ∃ k m s q, v1 = [.int k, .int m, s, q] ∧ s.one = true ∧ q.one = true) (sv2 : ∃ k m s q, v2 = [.int k, .int m, s, q] ∧ s.one = true ∧ q.one = true)
    (hT : AC Tryz.prog gl 47 [.pv (.slice []), .pv (.agg tm.cells)] [] (.ret (.pv (.tuple [.agg (Ty.fn s1 (Ty.fn s2 τ)).cells, .int 0]))) [])
    (hV1 : AC Tryz.prog gl 48 [.pv (.agg v1)] [] (.ret (.pv (.tuple [.agg s1.cells, .int 0]))) []) (hS1 : AC Tryz.prog gl 49 [.pv (.agg s1.cells), .pv (.agg s1.cells)] [] (.ret (.pv (.bool true))) [])
    (hV2 : AC Tryz.prog gl 48 [.pv (.agg v2)] [] (.ret (.pv (.tuple [.agg s2.cells, .int 0]))) []) (hS2 : AC Tryz.prog gl 49 [.pv (.agg s2.cells), .pv (.agg s2.cells)] [] (.ret (.pv (.bool true))) [])
    (hD : AC Tryz.prog gl 50 [.pv (.agg τ.cells)] [] (.ret (.pv (.tuple [.bool true, .int 0]))) [])
    (x0 : List PV) (sx0 : ∃ n l p k i tk ta bs e, x0 = [.int n, .slice l, .slice p, .int k, .int i, .int tk, .slice ta, .slice bs, .slice e]) (u0 : Nat) (hE : AC Tryz.prog gl 51 [.loc 970 0, .pv (.agg tm.cells), .pv (.slice [])] [(970, mc 0 most false)] (.ret (.pv (.agg x0))) [(970, mc u0 most true)]) :
    AC Tryz.prog gl 18 [.pv (.agg tm.cells), .pv (.slice [v1, v2]), .pv (.int most)] [] (.ret (.pv (.tuple [.agg [.int 0, .int 0, .nils, .nils], .int 0, .int 5]))) [] := by
  have g1 : ¬ (most : Int) < 0 := by omega
  have g2 : ¬ (65536 : Int) < most := by omega
  obtain ⟨kv1, mv1, sv1, qv1, rfl, ov1, ov1'⟩ := sv1
  have wv1 := vcells_one ov1
  have wv1' := vcells_one ov1'
  have zv1 : (V.pv sv1).one = true := by rw [one_pv]; exact ov1
  have zv1' : (V.pv qv1).one = true := by rw [one_pv]; exact ov1'
  obtain ⟨kv2, mv2, sv2, qv2, rfl, ov2, ov2'⟩ := sv2
  have wv2 := vcells_one ov2
  have wv2' := vcells_one ov2'
  have zv2 : (V.pv sv2).one = true := by rw [one_pv]; exact ov2
  have zv2' : (V.pv qv2).one = true := by rw [one_pv]; exact ov2'
  obtain ⟨nx0, lx0, px0, kx0, ix0, tx0, ax0, bx0, ex0, rfl⟩ := sx0
  unfold mc at *
  simp only [Ty.cells, Int.cast_ofNat_Int] at *
  rw [tm.cells_eq] at *
  rw [τ.cells_eq] at *
  rw [s1.cells_eq] at *
  rw [s2.cells_eq] at *
  generalize tm.ty.args.map Ty.cells = tta at *
  generalize tm.args.map Tm.cells = tas at *
  generalize τ.args.map Ty.cells = ta at *
  generalize s1.args.map Ty.cells = sa1 at *
  generalize s2.args.map Ty.cells = sa2 at *
  refine body [(80, .box 970)] Tryz.func18 Tryz.ntmps18 ?_
  refine gg ?_
  refine call hT ?_
  refine gg ?_
  refine ex_loop 3 (ex_round ?_)
  refine gg ?_
  refine call hV1 ?_
  refine gg ?_
  refine call hS1 ?_
  refine gg ?_
  refine ⟨by rfl, ?_⟩
  refine gg ?_
  refine ex_round ?_
  refine kp [1, 2, 3, 6, 7, 8, 9, 10, 30, 31, 32] [6, 9] ?_
  refine gg ?_
  refine call hV2 ?_
  refine gg ?_
  refine call hS2 ?_
  refine gg ?_
  refine ⟨by rfl, ?_⟩
  refine gg ?_
  refine ex_round ?_
  refine kp [1, 2, 3, 6, 7, 8, 9, 10, 30, 31, 32] [6, 9] ?_
  refine gg ?_
  refine call hD ?_
  refine gg ?_
  refine call hE ?_
  refine gg ?_
  refine ex_loop 3 (ex_round ?_)
  refine gg ?_
  refine ex_round ?_
  refine kp [1, 2, 3, 6, 7, 8, 9, 15, 16, 17, 18, 84, 85, 86] [6, 9, 18, 970] ?_
  refine gg ?_
  refine ex_round ?_
  refine kp [1, 2, 3, 6, 7, 8, 9, 15, 16, 17, 18, 84, 85, 86] [6, 9, 18, 970] ?_
  refine gg ?_
  exact ⟨by simp [retIs, resV, resL, resOne, mkTup, getS, getO, rdV, mkAgg, unL, V.un, TI.isAgg, XX_T, tt41, Tryz.f18], by simp [subO, getO, tt41, Tryz.f18]⟩
theorem call6_2_1 (tm : Tm) (s1 s2 τ : Ty) (most : Nat) (hm : most ≤ 65536) (v1 v2 : List PV) (sv1 : ∃ k m s q, v1 = [.int k, .int m, s, q] ∧ s.one = true ∧ q.one = true) (sv2 : ∃ k m s q, v2 = [.int k, .int m, s, q] ∧ s.one = true ∧ q.one = true)
    (hT : AC Tryz.prog gl 47 [.pv (.slice []), .pv (.agg tm.cells)] [] (.ret (.pv (.tuple [.agg (Ty.fn s1 (Ty.fn s2 τ)).cells, .int 0]))) [])
    (hV1 : AC Tryz.prog gl 48 [.pv (.agg v1)] [] (.ret (.pv (.tuple [.agg s1.cells, .int 0]))) []) (hS1 : AC Tryz.prog gl 49 [.pv (.agg s1.cells), .pv (.agg s1.cells)] [] (.ret (.pv (.bool true))) [])
    (hV2 : AC Tryz.prog gl 48 [.pv (.agg v2)] [] (.ret (.pv (.tuple [.agg s2.cells, .int 0]))) []) (hS2 : AC Tryz.prog gl 49 [.pv (.agg s2.cells), .pv (.agg s2.cells)] [] (.ret (.pv (.bool true))) [])
    (hD : AC Tryz.prog gl 50 [.pv (.agg τ.cells)] [] (.ret (.pv (.tuple [.bool true, .int 0]))) [])
    (x0 : List PV) (sx0 : ∃ n l p k i tk ta bs e, x0 = [.int n, .slice l, .slice p, .int k, .int i, .int tk, .slice ta, .slice bs, .slice e]) (u0 : Nat) (hE : AC Tryz.prog gl 51 [.loc 970 0, .pv (.agg tm.cells), .pv (.slice [])] [(970, mc 0 most false)] (.ret (.pv (.agg x0))) [(970, mc u0 most false)])
    (y1 : List PV) (sy1 : ∃ n l p k i tk ta bs e, y1 = [.int n, .slice l, .slice p, .int k, .int i, .int tk, .slice ta, .slice bs, .slice e]) (hO1 : AC Tryz.prog gl 53 [.pv (.agg v1)] [] (.ret (.pv (.agg y1))) []) (x1 : List PV) (sx1 : ∃ n l p k i tk ta bs e, x1 = [.int n, .slice l, .slice p, .int k, .int i, .int tk, .slice ta, .slice bs, .slice e]) (u1 : Nat) (hC1 : AC Tryz.prog gl 52 [.loc 970 0, .pv (.agg x0), .pv (.agg y1)] [(970, mc u0 most false)] (.ret (.pv (.agg x1))) [(970, mc u1 most true)]) :
    AC Tryz.prog gl 18 [.pv (.agg tm.cells), .pv (.slice [v1, v2]), .pv (.int most)] [] (.ret (.pv (.tuple [.agg [.int 0, .int 0, .nils, .nils], .int 0, .int 5]))) [] := by
  have g1 : ¬ (most : Int) < 0 := by omega
  have g2 : ¬ (65536 : Int) < most := by omega
  obtain ⟨kv1, mv1, sv1, qv1, rfl, ov1, ov1'⟩ := sv1
  have wv1 := vcells_one ov1
  have wv1' := vcells_one ov1'
  have zv1 : (V.pv sv1).one = true := by rw [one_pv]; exact ov1
  have zv1' : (V.pv qv1).one = true := by rw [one_pv]; exact ov1'
  obtain ⟨kv2, mv2, sv2, qv2, rfl, ov2, ov2'⟩ := sv2
  have wv2 := vcells_one ov2
  have wv2' := vcells_one ov2'
  have zv2 : (V.pv sv2).one = true := by rw [one_pv]; exact ov2
  have zv2' : (V.pv qv2).one = true := by rw [one_pv]; exact ov2'
  obtain ⟨nx0, lx0, px0, kx0, ix0, tx0, ax0, bx0, ex0, rfl⟩ := sx0
  obtain ⟨ny1, ly1, py1, ky1, iy1, ty1, ay1, by1, ey1, rfl⟩ := sy1
  obtain ⟨nx1, lx1, px1, kx1, ix1, tx1, ax1, bx1, ex1, rfl⟩ := sx1
  unfold mc at *
  simp only [Ty.cells, Int.cast_ofNat_Int] at *
  rw [tm.cells_eq] at *
  rw [τ.cells_eq] at *
  rw [s1.cells_eq] at *
  rw [s2.cells_eq] at *
  generalize tm.ty.args.map Ty.cells = tta at *
  generalize tm.args.map Tm.cells = tas at *
  generalize τ.args.map Ty.cells = ta at *
  generalize s1.args.map Ty.cells = sa1 at *
  generalize s2.args.map Ty.cells = sa2 at *
  refine body [(80, .box 970)] Tryz.func18 Tryz.ntmps18 ?_
  refine gg ?_
  refine call hT ?_
  refine gg ?_
  refine ex_loop 3 (ex_round ?_)
  refine gg ?_
  refine call hV1 ?_
  refine gg ?_
  refine call hS1 ?_
  refine gg ?_
  refine ⟨by rfl, ?_⟩
  refine gg ?_
  refine ex_round ?_
  refine kp [1, 2, 3, 6, 7, 8, 9, 10, 30, 31, 32] [6, 9] ?_
  refine gg ?_
  refine call hV2 ?_
  refine gg ?_
  refine call hS2 ?_
  refine gg ?_
  refine ⟨by rfl, ?_⟩
  refine gg ?_
  refine ex_round ?_
  refine kp [1, 2, 3, 6, 7, 8, 9, 10, 30, 31, 32] [6, 9] ?_
  refine gg ?_
  refine call hD ?_
  refine gg ?_
  refine call hE ?_
  refine gg ?_
  refine ex_loop 3 (ex_round ?_)
  refine gg ?_
  refine call hO1 ?_
  refine gg ?_
  refine call hC1 ?_
  refine gg ?_
  refine ⟨by rfl, ?_⟩
  refine gg ?_
  refine ex_round ?_
  refine kp [1, 2, 3, 6, 7, 8, 9, 15, 16, 17, 18, 84, 85, 86] [6, 9, 18, 970] ?_
  refine gg ?_
  refine ex_round ?_
  refine kp [1, 2, 3, 6, 7, 8, 9, 15, 16, 17, 18, 84, 85, 86] [6, 9, 18, 970] ?_
  refine gg ?_
  exact ⟨by simp [retIs, resV, resL, resOne, mkTup, getS, getO, rdV, mkAgg, unL, V.un, TI.isAgg, XX_T, tt41, Tryz.f18], by simp [subO, getO, tt41, Tryz.f18]⟩
theorem call6_2_2 (tm : Tm) (s1 s2 τ : Ty) (most : Nat) (hm : most ≤ 65536) (v1 v2 : List PV) (sv1 : ∃ k m s q, v1 = [.int k, .int m, s, q] ∧ s.one = true ∧ q.one = true) (sv2 : ∃ k m s q, v2 = [.int k, .int m, s, q] ∧ s.one = true ∧ q.one = true)
    (hT : AC Tryz.prog gl 47 [.pv (.slice []), .pv (.agg tm.cells)] [] (.ret (.pv (.tuple [.agg (Ty.fn s1 (Ty.fn s2 τ)).cells, .int 0]))) [])
    (hV1 : AC Tryz.prog gl 48 [.pv (.agg v1)] [] (.ret (.pv (.tuple [.agg s1.cells, .int 0]))) []) (hS1 : AC Tryz.prog gl 49 [.pv (.agg s1.cells), .pv (.agg s1.cells)] [] (.ret (.pv (.bool true))) [])
    (hV2 : AC Tryz.prog gl 48 [.pv (.agg v2)] [] (.ret (.pv (.tuple [.agg s2.cells, .int 0]))) []) (hS2 : AC Tryz.prog gl 49 [.pv (.agg s2.cells), .pv (.agg s2.cells)] [] (.ret (.pv (.bool true))) [])
    (hD : AC Tryz.prog gl 50 [.pv (.agg τ.cells)] [] (.ret (.pv (.tuple [.bool true, .int 0]))) [])
    (x0 : List PV) (sx0 : ∃ n l p k i tk ta bs e, x0 = [.int n, .slice l, .slice p, .int k, .int i, .int tk, .slice ta, .slice bs, .slice e]) (u0 : Nat) (hE : AC Tryz.prog gl 51 [.loc 970 0, .pv (.agg tm.cells), .pv (.slice [])] [(970, mc 0 most false)] (.ret (.pv (.agg x0))) [(970, mc u0 most false)])
    (y1 : List PV) (sy1 : ∃ n l p k i tk ta bs e, y1 = [.int n, .slice l, .slice p, .int k, .int i, .int tk, .slice ta, .slice bs, .slice e]) (hO1 : AC Tryz.prog gl 53 [.pv (.agg v1)] [] (.ret (.pv (.agg y1))) []) (x1 : List PV) (sx1 : ∃ n l p k i tk ta bs e, x1 = [.int n, .slice l, .slice p, .int k, .int i, .int tk, .slice ta, .slice bs, .slice e]) (u1 : Nat) (hC1 : AC Tryz.prog gl 52 [.loc 970 0, .pv (.agg x0), .pv (.agg y1)] [(970, mc u0 most false)] (.ret (.pv (.agg x1))) [(970, mc u1 most false)])
    (y2 : List PV) (sy2 : ∃ n l p k i tk ta bs e, y2 = [.int n, .slice l, .slice p, .int k, .int i, .int tk, .slice ta, .slice bs, .slice e]) (hO2 : AC Tryz.prog gl 53 [.pv (.agg v2)] [] (.ret (.pv (.agg y2))) []) (x2 : List PV) (sx2 : ∃ n l p k i tk ta bs e, x2 = [.int n, .slice l, .slice p, .int k, .int i, .int tk, .slice ta, .slice bs, .slice e]) (u2 : Nat) (hC2 : AC Tryz.prog gl 52 [.loc 970 0, .pv (.agg x1), .pv (.agg y2)] [(970, mc u1 most false)] (.ret (.pv (.agg x2))) [(970, mc u2 most true)]) :
    AC Tryz.prog gl 18 [.pv (.agg tm.cells), .pv (.slice [v1, v2]), .pv (.int most)] [] (.ret (.pv (.tuple [.agg [.int 0, .int 0, .nils, .nils], .int 0, .int 5]))) [] := by
  have g1 : ¬ (most : Int) < 0 := by omega
  have g2 : ¬ (65536 : Int) < most := by omega
  obtain ⟨kv1, mv1, sv1, qv1, rfl, ov1, ov1'⟩ := sv1
  have wv1 := vcells_one ov1
  have wv1' := vcells_one ov1'
  have zv1 : (V.pv sv1).one = true := by rw [one_pv]; exact ov1
  have zv1' : (V.pv qv1).one = true := by rw [one_pv]; exact ov1'
  obtain ⟨kv2, mv2, sv2, qv2, rfl, ov2, ov2'⟩ := sv2
  have wv2 := vcells_one ov2
  have wv2' := vcells_one ov2'
  have zv2 : (V.pv sv2).one = true := by rw [one_pv]; exact ov2
  have zv2' : (V.pv qv2).one = true := by rw [one_pv]; exact ov2'
  obtain ⟨nx0, lx0, px0, kx0, ix0, tx0, ax0, bx0, ex0, rfl⟩ := sx0
  obtain ⟨ny1, ly1, py1, ky1, iy1, ty1, ay1, by1, ey1, rfl⟩ := sy1
  obtain ⟨nx1, lx1, px1, kx1, ix1, tx1, ax1, bx1, ex1, rfl⟩ := sx1
  obtain ⟨ny2, ly2, py2, ky2, iy2, ty2, ay2, by2, ey2, rfl⟩ := sy2
  obtain ⟨nx2, lx2, px2, kx2, ix2, tx2, ax2, bx2, ex2, rfl⟩ := sx2
  unfold mc at *
  simp only [Ty.cells, Int.cast_ofNat_Int] at *
  rw [tm.cells_eq] at *
  rw [τ.cells_eq] at *
  rw [s1.cells_eq] at *
  rw [s2.cells_eq] at *
  generalize tm.ty.args.map Ty.cells = tta at *
  generalize tm.args.map Tm.cells = tas at *
  generalize τ.args.map Ty.cells = ta at *
  generalize s1.args.map Ty.cells = sa1 at *
  generalize s2.args.map Ty.cells = sa2 at *
  refine body [(80, .box 970)] Tryz.func18 Tryz.ntmps18 ?_
  refine gg ?_
  refine call hT ?_
  refine gg ?_
  refine ex_loop 3 (ex_round ?_)
  refine gg ?_
  refine call hV1 ?_
  refine gg ?_
  refine call hS1 ?_
  refine gg ?_
  refine ⟨by rfl, ?_⟩
  refine gg ?_
  refine ex_round ?_
  refine kp [1, 2, 3, 6, 7, 8, 9, 10, 30, 31, 32] [6, 9] ?_
  refine gg ?_
  refine call hV2 ?_
  refine gg ?_
  refine call hS2 ?_
  refine gg ?_
  refine ⟨by rfl, ?_⟩
  refine gg ?_
  refine ex_round ?_
  refine kp [1, 2, 3, 6, 7, 8, 9, 10, 30, 31, 32] [6, 9] ?_
  refine gg ?_
  refine call hD ?_
  refine gg ?_
  refine call hE ?_
  refine gg ?_
  refine ex_loop 3 (ex_round ?_)
  refine gg ?_
  refine call hO1 ?_
  refine gg ?_
  refine call hC1 ?_
  refine gg ?_
  refine ⟨by rfl, ?_⟩
  refine gg ?_
  refine ex_round ?_
  refine kp [1, 2, 3, 6, 7, 8, 9, 15, 16, 17, 18, 84, 85, 86] [6, 9, 18, 970] ?_
  refine gg ?_
  refine call hO2 ?_
  refine gg ?_
  refine call hC2 ?_
  refine gg ?_
  refine ⟨by rfl, ?_⟩
  refine gg ?_
  refine ex_round ?_
  refine kp [1, 2, 3, 6, 7, 8, 9, 15, 16, 17, 18, 84, 85, 86] [6, 9, 18, 970] ?_
  refine gg ?_
  exact ⟨by simp [retIs, resV, resL, resOne, mkTup, getS, getO, rdV, mkAgg, unL, V.un, TI.isAgg, XX_T, tt41, Tryz.f18], by simp [subO, getO, tt41, Tryz.f18]⟩
theorem call6_2_f (tm : Tm) (s1 s2 τ : Ty) (most : Nat) (hm : most ≤ 65536) (v1 v2 : List PV) (sv1 : ∃ k m s q, v1 = [.int k, .int m, s, q] ∧ s.one = true ∧ q.one = true) (sv2 : ∃ k m s q, v2 = [.int k, .int m, s, q] ∧ s.one = true ∧ q.one = true)
    (hT : AC Tryz.prog gl 47 [.pv (.slice []), .pv (.agg tm.cells)] [] (.ret (.pv (.tuple [.agg (Ty.fn s1 (Ty.fn s2 τ)).cells, .int 0]))) [])
    (hV1 : AC Tryz.prog gl 48 [.pv (.agg v1)] [] (.ret (.pv (.tuple [.agg s1.cells, .int 0]))) []) (hS1 : AC Tryz.prog gl 49 [.pv (.agg s1.cells), .pv (.agg s1.cells)] [] (.ret (.pv (.bool true))) [])
    (hV2 : AC Tryz.prog gl 48 [.pv (.agg v2)] [] (.ret (.pv (.tuple [.agg s2.cells, .int 0]))) []) (hS2 : AC Tryz.prog gl 49 [.pv (.agg s2.cells), .pv (.agg s2.cells)] [] (.ret (.pv (.bool true))) [])
    (hD : AC Tryz.prog gl 50 [.pv (.agg τ.cells)] [] (.ret (.pv (.tuple [.bool true, .int 0]))) [])
    (x0 : List PV) (sx0 : ∃ n l p k i tk ta bs e, x0 = [.int n, .slice l, .slice p, .int k, .int i, .int tk, .slice ta, .slice bs, .slice e]) (u0 : Nat) (hE : AC Tryz.prog gl 51 [.loc 970 0, .pv (.agg tm.cells), .pv (.slice [])] [(970, mc 0 most false)] (.ret (.pv (.agg x0))) [(970, mc u0 most false)])
    (y1 : List PV) (sy1 : ∃ n l p k i tk ta bs e, y1 = [.int n, .slice l, .slice p, .int k, .int i, .int tk, .slice ta, .slice bs, .slice e]) (hO1 : AC Tryz.prog gl 53 [.pv (.agg v1)] [] (.ret (.pv (.agg y1))) []) (x1 : List PV) (sx1 : ∃ n l p k i tk ta bs e, x1 = [.int n, .slice l, .slice p, .int k, .int i, .int tk, .slice ta, .slice bs, .slice e]) (u1 : Nat) (hC1 : AC Tryz.prog gl 52 [.loc 970 0, .pv (.agg x0), .pv (.agg y1)] [(970, mc u0 most false)] (.ret (.pv (.agg x1))) [(970, mc u1 most false)])
    (y2 : List PV) (sy2 : ∃ n l p k i tk ta bs e, y2 = [.int n, .slice l, .slice p, .int k, .int i, .int tk, .slice ta, .slice bs, .slice e]) (hO2 : AC Tryz.prog gl 53 [.pv (.agg v2)] [] (.ret (.pv (.agg y2))) []) (x2 : List PV) (sx2 : ∃ n l p k i tk ta bs e, x2 = [.int n, .slice l, .slice p, .int k, .int i, .int tk, .slice ta, .slice bs, .slice e]) (u2 : Nat) (hC2 : AC Tryz.prog gl 52 [.loc 970 0, .pv (.agg x1), .pv (.agg y2)] [(970, mc u1 most false)] (.ret (.pv (.agg x2))) [(970, mc u2 most false)])
    (pr : List PV) (hpr : ∃ k m s q, pr = [.int k, .int m, s, q] ∧ s.one = true ∧ q.one = true) (hP : AC Tryz.prog gl 54 [.pv (.agg x2), .pv (.agg τ.cells)] [] (.ret (.pv (.agg pr))) []) :
    AC Tryz.prog gl 18 [.pv (.agg tm.cells), .pv (.slice [v1, v2]), .pv (.int most)] [] (.ret (.pv (.tuple [.agg pr, .int u2, .int 0]))) [] := by
  have g1 : ¬ (most : Int) < 0 := by omega
  have g2 : ¬ (65536 : Int) < most := by omega
  obtain ⟨kv1, mv1, sv1, qv1, rfl, ov1, ov1'⟩ := sv1
  have wv1 := vcells_one ov1
  have wv1' := vcells_one ov1'
  have zv1 : (V.pv sv1).one = true := by rw [one_pv]; exact ov1
  have zv1' : (V.pv qv1).one = true := by rw [one_pv]; exact ov1'
  obtain ⟨kv2, mv2, sv2, qv2, rfl, ov2, ov2'⟩ := sv2
  have wv2 := vcells_one ov2
  have wv2' := vcells_one ov2'
  have zv2 : (V.pv sv2).one = true := by rw [one_pv]; exact ov2
  have zv2' : (V.pv qv2).one = true := by rw [one_pv]; exact ov2'
  obtain ⟨kpr, mpr, spr, qpr, rfl, opr, opr'⟩ := hpr
  have wpr := vcells_one opr
  have wpr' := vcells_one opr'
  have zpr : (V.pv spr).one = true := by rw [one_pv]; exact opr
  have zpr' : (V.pv qpr).one = true := by rw [one_pv]; exact opr'
  obtain ⟨nx0, lx0, px0, kx0, ix0, tx0, ax0, bx0, ex0, rfl⟩ := sx0
  obtain ⟨ny1, ly1, py1, ky1, iy1, ty1, ay1, by1, ey1, rfl⟩ := sy1
  obtain ⟨nx1, lx1, px1, kx1, ix1, tx1, ax1, bx1, ex1, rfl⟩ := sx1
  obtain ⟨ny2, ly2, py2, ky2, iy2, ty2, ay2, by2, ey2, rfl⟩ := sy2
  obtain ⟨nx2, lx2, px2, kx2, ix2, tx2, ax2, bx2, ex2, rfl⟩ := sx2
  unfold mc at *
  simp only [Ty.cells, Int.cast_ofNat_Int] at *
  rw [tm.cells_eq] at *
  rw [τ.cells_eq] at *
  rw [s1.cells_eq] at *
  rw [s2.cells_eq] at *
  generalize tm.ty.args.map Ty.cells = tta at *
  generalize tm.args.map Tm.cells = tas at *
  generalize τ.args.map Ty.cells = ta at *
  generalize s1.args.map Ty.cells = sa1 at *
  generalize s2.args.map Ty.cells = sa2 at *
  refine body [(80, .box 970)] Tryz.func18 Tryz.ntmps18 ?_
  refine gg ?_
  refine call hT ?_
  refine gg ?_
  refine ex_loop 3 (ex_round ?_)
  refine gg ?_
  refine call hV1 ?_
  refine gg ?_
  refine call hS1 ?_
  refine gg ?_
  refine ⟨by rfl, ?_⟩
  refine gg ?_
  refine ex_round ?_
  refine kp [1, 2, 3, 6, 7, 8, 9, 10, 30, 31, 32] [6, 9] ?_
  refine gg ?_
  refine call hV2 ?_
  refine gg ?_
  refine call hS2 ?_
  refine gg ?_
  refine ⟨by rfl, ?_⟩
  refine gg ?_
  refine ex_round ?_
  refine kp [1, 2, 3, 6, 7, 8, 9, 10, 30, 31, 32] [6, 9] ?_
  refine gg ?_
  refine call hD ?_
  refine gg ?_
  refine call hE ?_
  refine gg ?_
  refine ex_loop 3 (ex_round ?_)
  refine gg ?_
  refine call hO1 ?_
  refine gg ?_
  refine call hC1 ?_
  refine gg ?_
  refine ⟨by rfl, ?_⟩
  refine gg ?_
  refine ex_round ?_
  refine kp [1, 2, 3, 6, 7, 8, 9, 15, 16, 17, 18, 84, 85, 86] [6, 9, 18, 970] ?_
  refine gg ?_
  refine call hO2 ?_
  refine gg ?_
  refine call hC2 ?_
  refine gg ?_
  refine ⟨by rfl, ?_⟩
  refine gg ?_
  refine ex_round ?_
  refine kp [1, 2, 3, 6, 7, 8, 9, 15, 16, 17, 18, 84, 85, 86] [6, 9, 18, 970] ?_
  refine gg ?_
  refine call hP ?_
  refine gg ?_
  refine ⟨by rfl, ?_⟩
  refine gg ?_
  exact ⟨by simp [retIs, resV, resL, resOne, mkTup, getS, getO, rdV, mkAgg, unL, V.un, TI.isAgg, XX_T, tt41, Tryz.f18], by simp [subO, getO, tt41, Tryz.f18]⟩
end Go.Proofs.YtodjpfpmhjdhbaaGreatDoor
