/- Part of the proof: contracts of the evaluator, of values and of the inference of types; no conditions. -/
import Derived.Test.YtodjpfpmhjdhbaaGreatDoorCallsF7
set_option linter.unusedVariables false
set_option linter.unusedSimpArgs false
set_option linter.unusedSectionVars false
/- Types are inferred (ref02.infer): variables, functions. -/
namespace Go.Proofs.YtodjpfpmhjdhbaaGreatDoor
open Go.Lg
set_option maxRecDepth 10000
set_option maxHeartbeats 4000000
theorem fun_ok (a b : Ty) : AC Tryz.prog gl 104 [.pv (.agg a.cells), .pv (.agg b.cells)] [] (.ret (.pv (.agg (Ty.fn a b).cells))) [] := by
  refine body [] Tryz.func104 Tryz.ntmps104 ?_
  have ha := copy_ok a
  have hb := copy_ok b
  simp only [Ty.cells]
  rw [a.cells_eq] at ha ⊢
  rw [b.cells_eq] at hb ⊢
  refine gg ?_
  refine call ha ?_
  refine gg ?_
  refine call hb ?_
  refine gg ?_
  refine ⟨by rfl, ?_⟩
  refine gg ?_
  exact ⟨by simp [retIs, resV, resL, resOne, mkTup, getS, getO, rdV, mkAgg, unL, V.un, TI.isAgg, XX_T, tt27, Tryz.f104, Ty.cells, Ty.cells_eq], by simp [subO, getO, tt27, Tryz.f104, Ty.cells, Ty.cells_eq]⟩
theorem inf_var (g : List Ty) (i : Nat) (τ : Ty) (hi : g.reverse[i]? = some τ) (hl : g.length ≤ 5000) : InC g (.var i) τ := by
  have h := copy_ok τ
  have hil : i < g.length := by have := (List.getElem?_eq_some_iff.1 hi).1; simpa using this
  have ec : (Tm.var i).cells = [.int 1, .int i, .int 0, .slice [], .slice []] := by rw [Tm.cells_eq]; rfl
  have hle : (g.map Ty.cells).length = g.length := by simp
  have hal : ∀ y ∈ g.map Ty.cells, y.length = 2 := by
    intro y hy
    obtain ⟨s, _, rfl⟩ := List.mem_map.1 hy
    rw [Ty.cells_eq]; rfl
  have hg : (g.map Ty.cells).getD (g.length - 1 - i) [] = τ.cells := by
    rw [List.getElem?_reverse (by omega)] at hi
    simp [List.getD, hi]
  have g0 : ¬ (g.length : Int) ≤ i := by omega
  have g1 : ((g.length : Int) - 1 - i).toNat = g.length - 1 - i := by omega
  have g2 : (0 : Int) ≤ (g.length : Int) - 1 - i := by omega
  have g3 : (g.length : Int) - 1 - i < g.length := by omega
  unfold InC
  rw [ec]
  rw [Ty.cells_eq τ] at *
  clear hi ec
  generalize τ.args.map Ty.cells = ts at *
  generalize g.map Ty.cells = gs at *
  generalize g.length = gn at *
  refine body [(8, .arr 973 2 27)] Tryz.func118 Tryz.ntmps118 ?_
  refine gg ?_
  refine call h ?_
  refine gg ?_
  exact ⟨by simp [retIs, resV, resL, resOne, mkTup, getS, getO, rdV, mkAgg, unL, V.un, TI.isAgg, XX_T, tt27, Tryz.f118], by simp [subO, getO, tt27, Tryz.f118]⟩
theorem inf_lam (g : List Ty) (s : Ty) (b : Tm) (t : Ty) (hb : InC (g ++ [s]) b t) (ho : (Ty.fn s t).ok = true) (hz : (Ty.fn s t).size ≤ 64) (hl : g.length ≤ 5000) : InC g (.lam s b) (.fn s t) := by
  have h3 := fun_ok s t
  have h4 := tok_ok (.fn s t) ho hz
  have ec : (Tm.lam s b).cells = [.int 2, .int 0, .int s.kind, .slice (s.args.map Ty.cells), .slice [b.cells]] := by rw [Tm.cells_eq]; rfl
  have hle : (g.map Ty.cells).length = g.length := by simp
  have hal : ∀ y ∈ g.map Ty.cells, y.length = 2 := by
    intro y hy
    obtain ⟨s, _, rfl⟩ := List.mem_map.1 hy
    rw [Ty.cells_eq]; rfl
  unfold InC at *
  rw [ec]
  rw [Tm.cells_eq b] at *
  simp only [Ty.cells, List.map_append, List.map_cons, List.map_nil] at *
  rw [Ty.cells_eq s] at hb
  rw [Ty.cells_eq s, Ty.cells_eq t] at h3 h4 ⊢
  rw [Ty.cells_eq t] at hb
  clear ec
  generalize s.args.map Ty.cells = ss at *
  generalize t.args.map Ty.cells = ts at *
  generalize b.ty.args.map Ty.cells = tb at *
  generalize b.args.map Tm.cells = sb at *
  generalize g.map Ty.cells = gs at *
  refine body [(8, .arr 973 2 27)] Tryz.func118 Tryz.ntmps118 ?_
  refine gg ?_
  refine go ?_ (hc := by simp only [buildC, and_true, true_and, implies_true, true_implies, and_self]; exact ⟨hal, by unfold maxLen; omega, by omega⟩)
  refine gg ?_
  refine call hb ?_
  refine gg ?_
  refine ⟨by rfl, ?_⟩
  refine gg ?_
  refine call h3 ?_
  refine gg ?_
  refine call h4 ?_
  refine gg ?_
  exact ⟨by simp [retIs, resV, resL, resOne, mkTup, getS, getO, rdV, mkAgg, unL, V.un, TI.isAgg, XX_T, tt27, Tryz.f118], by simp [subO, getO, tt27, Tryz.f118]⟩
end Go.Proofs.YtodjpfpmhjdhbaaGreatDoor
/- Types are inferred (ref02.infer): recursion and folds. -/
namespace Go.Proofs.YtodjpfpmhjdhbaaGreatDoor
open Go.Lg
set_option maxRecDepth 10000
set_option maxHeartbeats 4000000
theorem inf_recn (g : List Ty) (s : Ty) (a b d : Tm) (ha : InC g a s) (hb : InC g b (.fn .nat (.fn s s))) (hd : InC g d .nat) : InC g (.recn s a b d) s := by
  have h1 := nat_ok
  have h2 := list_ok
  have m1 := same_ok s s
  have m2 := same_ok (.fn .nat (.fn s s)) (.fn .nat (.fn s s))
  have m3 := same_ok .nat .nat
  have cp := copy_ok s
  have f1 := fun_ok s s
  have f2 := fun_ok .nat (.fn s s)
  have ec : (Tm.recn s a b d).cells = [.int 6, .int 0, .int s.kind, .slice (s.args.map Ty.cells), .slice [a.cells, b.cells, d.cells]] := by rw [Tm.cells_eq]; rfl
  unfold InC at *
  rw [ec]
  rw [Tm.cells_eq a, Tm.cells_eq b, Tm.cells_eq d]
  rw [Tm.cells_eq a] at ha
  rw [Tm.cells_eq b] at hb
  rw [Tm.cells_eq d] at hd
  simp only [Ty.cells, decide_true] at *
  simp only [Ty.cells_eq s] at *
  clear ec
  generalize s.args.map Ty.cells = ss at *
  generalize a.ty.args.map Ty.cells = ta at *
  generalize a.args.map Tm.cells = sa at *
  generalize b.ty.args.map Ty.cells = tb at *
  generalize b.args.map Tm.cells = sb at *
  generalize d.ty.args.map Ty.cells = td at *
  generalize d.args.map Tm.cells = sd at *
  generalize g.map Ty.cells = gs at *
  refine body [(8, .arr 973 2 27)] Tryz.func118 Tryz.ntmps118 ?_
  refine gg ?_
  refine ex_loop 4 (ex_round ?_)
  refine gg ?_
  refine call ha ?_
  refine gg ?_
  refine ex_round ?_
  refine kp [0, 3, 4, 5, 8, 67, 68, 69] [4, 973] ?_
  refine gg ?_
  refine call hb ?_
  refine gg ?_
  refine ex_round ?_
  refine kp [0, 3, 4, 5, 8, 67, 68, 69] [4, 973] ?_
  refine gg ?_
  refine call hd ?_
  refine gg ?_
  refine ex_round ?_
  refine kp [0, 3, 4, 5, 8, 67, 68, 69] [4, 973] ?_
  refine gg ?_
  refine call h1 ?_
  refine gg ?_
  refine call h2 ?_
  refine gg ?_
  refine call m1 ?_
  refine gg ?_
  refine call f1 ?_
  refine gg ?_
  refine call f2 ?_
  refine gg ?_
  refine call m2 ?_
  refine gg ?_
  refine call m3 ?_
  refine gg ?_
  refine ⟨by rfl, ?_⟩
  refine gg ?_
  refine call cp ?_
  refine gg ?_
  exact ⟨by simp [retIs, resV, resL, resOne, mkTup, getS, getO, rdV, mkAgg, unL, V.un, TI.isAgg, XX_T, tt27, Tryz.f118], by simp [subO, getO, tt27, Tryz.f118]⟩
theorem inf_fold (g : List Ty) (s : Ty) (a b d : Tm) (ha : InC g a s) (hb : InC g b (.fn .nat (.fn .list (.fn s s)))) (hd : InC g d .list) : InC g (.fold s a b d) s := by
  have h1 := nat_ok
  have h2 := list_ok
  have m1 := same_ok s s
  have m2 := same_ok (.fn .nat (.fn .list (.fn s s))) (.fn .nat (.fn .list (.fn s s)))
  have m3 := same_ok .list .list
  have cp := copy_ok s
  have f1 := fun_ok s s
  have f2 := fun_ok .list (.fn s s)
  have f3 := fun_ok .nat (.fn .list (.fn s s))
  have ec : (Tm.fold s a b d).cells = [.int 9, .int 0, .int s.kind, .slice (s.args.map Ty.cells), .slice [a.cells, b.cells, d.cells]] := by rw [Tm.cells_eq]; rfl
  unfold InC at *
  rw [ec]
  rw [Tm.cells_eq a, Tm.cells_eq b, Tm.cells_eq d]
  rw [Tm.cells_eq a] at ha
  rw [Tm.cells_eq b] at hb
  rw [Tm.cells_eq d] at hd
  simp only [Ty.cells, decide_true] at *
  simp only [Ty.cells_eq s] at *
  clear ec
  generalize s.args.map Ty.cells = ss at *
  generalize a.ty.args.map Ty.cells = ta at *
  generalize a.args.map Tm.cells = sa at *
  generalize b.ty.args.map Ty.cells = tb at *
  generalize b.args.map Tm.cells = sb at *
  generalize d.ty.args.map Ty.cells = td at *
  generalize d.args.map Tm.cells = sd at *
  generalize g.map Ty.cells = gs at *
  refine body [(8, .arr 973 2 27)] Tryz.func118 Tryz.ntmps118 ?_
  refine gg ?_
  refine ex_loop 4 (ex_round ?_)
  refine gg ?_
  refine call ha ?_
  refine gg ?_
  refine ex_round ?_
  refine kp [0, 3, 4, 5, 8, 67, 68, 69] [4, 973] ?_
  refine gg ?_
  refine call hb ?_
  refine gg ?_
  refine ex_round ?_
  refine kp [0, 3, 4, 5, 8, 67, 68, 69] [4, 973] ?_
  refine gg ?_
  refine call hd ?_
  refine gg ?_
  refine ex_round ?_
  refine kp [0, 3, 4, 5, 8, 67, 68, 69] [4, 973] ?_
  refine gg ?_
  refine call h1 ?_
  refine gg ?_
  refine call h2 ?_
  refine gg ?_
  refine call m1 ?_
  refine gg ?_
  refine call f1 ?_
  refine gg ?_
  refine call f2 ?_
  refine gg ?_
  refine call f3 ?_
  refine gg ?_
  refine call m2 ?_
  refine gg ?_
  refine call m3 ?_
  refine gg ?_
  refine ⟨by rfl, ?_⟩
  refine gg ?_
  refine call cp ?_
  refine gg ?_
  exact ⟨by simp [retIs, resV, resL, resOne, mkTup, getS, getO, rdV, mkAgg, unL, V.un, TI.isAgg, XX_T, tt27, Tryz.f118], by simp [subO, getO, tt27, Tryz.f118]⟩
end Go.Proofs.YtodjpfpmhjdhbaaGreatDoor
/- Types that are too large. -/
namespace Go.Proofs.YtodjpfpmhjdhbaaGreatDoor
open Go.Lg
set_option maxRecDepth 10000
set_option maxHeartbeats 4000000
theorem tycheck_big (t : Ty) (hs : t.ok = true) (hz : 64 < t.size) (hb : t.size ≤ 1000) : AC Tryz.prog gl 89 [.pv (.agg t.cells)] [] (.ret (.pv (.int 4))) [] := by
  have h1 := shape_ok t hs
  have h2 := size_ok t (by omega)
  have h3 : (64 : Int) < t.size := by omega
  refine body [] Tryz.func89 Tryz.ntmps89 ?_
  rw [Ty.cells_eq] at h1 h2 ⊢
  refine gg ?_
  refine call h1 ?_
  refine gg ?_
  refine call h2 ?_
  refine gg ?_
  exact ⟨by simp [retIs, resV, resL, resOne, mkTup, getS, getO, rdV, mkAgg, unL, V.un, TI.isAgg, XX_T, tt27, Tryz.f89], by simp [subO, getO, tt27, Tryz.f89]⟩
theorem tok_big (t : Ty) (hs : t.ok = true) (hz : 64 < t.size) (hb : t.size ≤ 1000) : AC Tryz.prog gl 137 [.pv (.agg t.cells)] [] (.ret (.pv (.tuple [.agg [.int 0, .slice []], .int 4]))) [] := by
  have h := tycheck_big t hs hz hb
  rw [t.cells_eq] at *
  generalize t.args.map Ty.cells = ta at *
  refine body [] Tryz.func137 Tryz.ntmps137 ?_
  refine gg ?_
  refine call h ?_
  refine gg ?_
  exact ⟨by simp [retIs, resV, resL, resOne, mkTup, getS, getO, rdV, mkAgg, unL, V.un, TI.isAgg, XX_T, tt27, Tryz.f137], by simp [subO, getO, tt27, Tryz.f137]⟩
end Go.Proofs.YtodjpfpmhjdhbaaGreatDoor
