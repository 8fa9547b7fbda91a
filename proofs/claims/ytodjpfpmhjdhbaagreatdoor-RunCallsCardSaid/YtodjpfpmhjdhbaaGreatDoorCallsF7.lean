/- Part of the proof: contracts of the evaluator, of values and of the inference of types; no conditions. -/
import Derived.Test.YtodjpfpmhjdhbaaGreatDoorCallsF6
set_option linter.unusedVariables false
set_option linter.unusedSimpArgs false
set_option linter.unusedSectionVars false
/- Types are inferred (ref02.infer): one node. -/
namespace Go.Proofs.YtodjpfpmhjdhbaaGreatDoor
open Go.Lg
set_option maxRecDepth 10000
set_option maxHeartbeats 4000000
/-- the contract of an inference that finds a type -/
def InC (g : List Ty) (t : Tm) (τ : Ty) : Prop := AC Tryz.prog gl 118 [.pv (.slice (g.map Ty.cells)), .pv (.agg t.cells)] [] (.ret (.pv (.tuple [.agg τ.cells, .int 0]))) []
theorem inf_zero (g : List Ty) : InC g .zero .nat := by
  have h1 := nat_ok
  have h2 := list_ok
  have ec : Tm.zero.cells = [.int 4, .int 0, .int 0, .slice [], .slice []] := by rw [Tm.cells_eq]; rfl
  unfold InC
  rw [ec]
  simp only [Ty.cells] at *
  generalize g.map Ty.cells = gs at *
  refine body [(8, .arr 973 2 27)] Tryz.func118 Tryz.ntmps118 ?_
  refine gg ?_
  refine ex_loop 1 (ex_round ?_)
  refine gg ?_
  refine call h1 ?_
  refine gg ?_
  refine call h2 ?_
  refine gg ?_
  exact ⟨by simp [retIs, resV, resL, resOne, mkTup, getS, getO, rdV, mkAgg, unL, V.un, TI.isAgg, XX_T, tt27, Tryz.f118], by simp [subO, getO, tt27, Tryz.f118]⟩
theorem inf_nil (g : List Ty) : InC g .nil .list := by
  have h1 := nat_ok
  have h2 := list_ok
  have ec : Tm.nil.cells = [.int 7, .int 0, .int 0, .slice [], .slice []] := by rw [Tm.cells_eq]; rfl
  unfold InC
  rw [ec]
  simp only [Ty.cells] at *
  generalize g.map Ty.cells = gs at *
  refine body [(8, .arr 973 2 27)] Tryz.func118 Tryz.ntmps118 ?_
  refine gg ?_
  refine ex_loop 1 (ex_round ?_)
  refine gg ?_
  refine call h1 ?_
  refine gg ?_
  refine call h2 ?_
  refine gg ?_
  exact ⟨by simp [retIs, resV, resL, resOne, mkTup, getS, getO, rdV, mkAgg, unL, V.un, TI.isAgg, XX_T, tt27, Tryz.f118], by simp [subO, getO, tt27, Tryz.f118]⟩
theorem inf_succ (g : List Ty) (a : Tm) (h : InC g a .nat) : InC g (.succ a) .nat := by
  have h1 := nat_ok
  have h2 := list_ok
  have h3 := same_ok .nat .nat
  have ec : (Tm.succ a).cells = [.int 5, .int 0, .int 0, .slice [], .slice [a.cells]] := by rw [Tm.cells_eq]; rfl
  unfold InC at *
  rw [ec]
  rw [Tm.cells_eq a] at *
  simp only [Ty.cells, decide_true] at *
  clear ec
  generalize a.ty.args.map Ty.cells = ta at *
  generalize a.args.map Tm.cells = sa at *
  generalize g.map Ty.cells = gs at *
  refine body [(8, .arr 973 2 27)] Tryz.func118 Tryz.ntmps118 ?_
  refine gg ?_
  refine ex_loop 2 (ex_round ?_)
  refine gg ?_
  refine call h ?_
  refine gg ?_
  refine ex_round ?_
  refine kp [0, 3, 4, 5, 8, 67, 68, 69] [4, 973] ?_
  refine gg ?_
  refine call h1 ?_
  refine gg ?_
  refine call h2 ?_
  refine gg ?_
  refine call h3 ?_
  refine gg ?_
  refine ⟨by rfl, ?_⟩
  refine gg ?_
  exact ⟨by simp [retIs, resV, resL, resOne, mkTup, getS, getO, rdV, mkAgg, unL, V.un, TI.isAgg, XX_T, tt27, Tryz.f118], by simp [subO, getO, tt27, Tryz.f118]⟩
theorem inf_unit (g : List Ty) : InC g .unit .unit := by
  have h1 := nat_ok
  have h2 := list_ok
  have h3 := unit_ok
  have ec : Tm.unit.cells = [.int 13, .int 0, .int 0, .slice [], .slice []] := by rw [Tm.cells_eq]; rfl
  unfold InC
  rw [ec]
  simp only [Ty.cells] at *
  generalize g.map Ty.cells = gs at *
  refine body [(8, .arr 973 2 27)] Tryz.func118 Tryz.ntmps118 ?_
  refine gg ?_
  refine ex_loop 1 (ex_round ?_)
  refine gg ?_
  refine call h1 ?_
  refine gg ?_
  refine call h2 ?_
  refine gg ?_
  refine call h3 ?_
  refine gg ?_
  exact ⟨by simp [retIs, resV, resL, resOne, mkTup, getS, getO, rdV, mkAgg, unL, V.un, TI.isAgg, XX_T, tt27, Tryz.f118], by simp [subO, getO, tt27, Tryz.f118]⟩
theorem inf_fst (g : List Ty) (a : Tm) (s t : Ty) (h : InC g a (.pair s t)) : InC g (.fst a) s := by
  have h1 := nat_ok
  have h2 := list_ok
  have ec : (Tm.fst a).cells = [.int 11, .int 0, .int 0, .slice [], .slice [a.cells]] := by rw [Tm.cells_eq]; rfl
  unfold InC at *
  rw [ec]
  rw [Tm.cells_eq a] at *
  simp only [Ty.cells] at *
  rw [Ty.cells_eq s, Ty.cells_eq t] at h
  rw [Ty.cells_eq s]
  clear ec
  generalize s.args.map Ty.cells = ss at *
  generalize t.args.map Ty.cells = tt at *
  generalize a.ty.args.map Ty.cells = ta at *
  generalize a.args.map Tm.cells = sa at *
  generalize g.map Ty.cells = gs at *
  refine body [(8, .arr 973 2 27)] Tryz.func118 Tryz.ntmps118 ?_
  refine gg ?_
  refine ex_loop 2 (ex_round ?_)
  refine gg ?_
  refine call h ?_
  refine gg ?_
  refine ex_round ?_
  refine kp [0, 3, 4, 5, 8, 67, 68, 69] [4, 973] ?_
  refine gg ?_
  refine call h1 ?_
  refine gg ?_
  refine call h2 ?_
  refine gg ?_
  exact ⟨by simp [retIs, resV, resL, resOne, mkTup, getS, getO, rdV, mkAgg, unL, V.un, TI.isAgg, XX_T, tt27, Tryz.f118], by simp [subO, getO, tt27, Tryz.f118]⟩
theorem inf_snd (g : List Ty) (a : Tm) (s t : Ty) (h : InC g a (.pair s t)) : InC g (.snd a) t := by
  have h1 := nat_ok
  have h2 := list_ok
  have ec : (Tm.snd a).cells = [.int 12, .int 0, .int 0, .slice [], .slice [a.cells]] := by rw [Tm.cells_eq]; rfl
  unfold InC at *
  rw [ec]
  rw [Tm.cells_eq a] at *
  simp only [Ty.cells] at *
  rw [Ty.cells_eq s, Ty.cells_eq t] at h
  rw [Ty.cells_eq t]
  clear ec
  generalize s.args.map Ty.cells = ss at *
  generalize t.args.map Ty.cells = tt at *
  generalize a.ty.args.map Ty.cells = ta at *
  generalize a.args.map Tm.cells = sa at *
  generalize g.map Ty.cells = gs at *
  refine body [(8, .arr 973 2 27)] Tryz.func118 Tryz.ntmps118 ?_
  refine gg ?_
  refine ex_loop 2 (ex_round ?_)
  refine gg ?_
  refine call h ?_
  refine gg ?_
  refine ex_round ?_
  refine kp [0, 3, 4, 5, 8, 67, 68, 69] [4, 973] ?_
  refine gg ?_
  refine call h1 ?_
  refine gg ?_
  refine call h2 ?_
  refine gg ?_
  exact ⟨by simp [retIs, resV, resL, resOne, mkTup, getS, getO, rdV, mkAgg, unL, V.un, TI.isAgg, XX_T, tt27, Tryz.f118], by simp [subO, getO, tt27, Tryz.f118]⟩
theorem inf_cons (g : List Ty) (a b : Tm) (ha : InC g a .nat) (hb : InC g b .list) : InC g (.cons a b) .list := by
  have h1 := nat_ok
  have h2 := list_ok
  have h3 := same_ok .nat .nat
  have h4 := same_ok .list .list
  have ec : (Tm.cons a b).cells = [.int 8, .int 0, .int 0, .slice [], .slice [a.cells, b.cells]] := by rw [Tm.cells_eq]; rfl
  unfold InC at *
  rw [ec]
  rw [Tm.cells_eq a, Tm.cells_eq b]
  rw [Tm.cells_eq a] at ha
  rw [Tm.cells_eq b] at hb
  simp only [Ty.cells, decide_true] at *
  clear ec
  generalize a.ty.args.map Ty.cells = ta at *
  generalize a.args.map Tm.cells = sa at *
  generalize b.ty.args.map Ty.cells = tb at *
  generalize b.args.map Tm.cells = sb at *
  generalize g.map Ty.cells = gs at *
  refine body [(8, .arr 973 2 27)] Tryz.func118 Tryz.ntmps118 ?_
  refine gg ?_
  refine ex_loop 3 (ex_round ?_)
  refine gg ?_
  refine call ha ?_
  refine gg ?_
  refine ex_round ?_
  refine kp [0, 3, 4, 5, 8, 67, 68, 69] [4, 973] ?_
  refine gg ?_
  refine call hb ?_
  refine gg ?_
  refine ex_round ?_
  refine kp [0, 3, 4, 5, 8, 67, 68, 69] [4, 973] ?_
  refine gg ?_
  refine call h1 ?_
  refine gg ?_
  refine call h2 ?_
  refine gg ?_
  refine call h3 ?_
  refine gg ?_
  refine call h4 ?_
  refine gg ?_
  refine ⟨by rfl, ?_⟩
  refine gg ?_
  exact ⟨by simp [retIs, resV, resL, resOne, mkTup, getS, getO, rdV, mkAgg, unL, V.un, TI.isAgg, XX_T, tt27, Tryz.f118], by simp [subO, getO, tt27, Tryz.f118]⟩
end Go.Proofs.YtodjpfpmhjdhbaaGreatDoor
/- Types are inferred (ref02.infer): applications, pairs, variables. -/
namespace Go.Proofs.YtodjpfpmhjdhbaaGreatDoor
open Go.Lg
set_option maxRecDepth 10000
set_option maxHeartbeats 4000000
theorem inf_app (g : List Ty) (a b : Tm) (s t : Ty) (ha : InC g a (.fn s t)) (hb : InC g b s) : InC g (.app a b) t := by
  have h1 := nat_ok
  have h2 := list_ok
  have h3 := same_ok s s
  have ec : (Tm.app a b).cells = [.int 3, .int 0, .int 0, .slice [], .slice [a.cells, b.cells]] := by rw [Tm.cells_eq]; rfl
  unfold InC at *
  rw [ec]
  rw [Tm.cells_eq a, Tm.cells_eq b]
  rw [Tm.cells_eq a] at ha
  rw [Tm.cells_eq b] at hb
  simp only [Ty.cells, decide_true] at *
  rw [Ty.cells_eq s, Ty.cells_eq t] at ha
  rw [Ty.cells_eq s] at hb h3
  rw [Ty.cells_eq t]
  clear ec
  generalize s.args.map Ty.cells = ss at *
  generalize t.args.map Ty.cells = tq at *
  generalize a.ty.args.map Ty.cells = ta at *
  generalize a.args.map Tm.cells = sa at *
  generalize b.ty.args.map Ty.cells = tb at *
  generalize b.args.map Tm.cells = sb at *
  generalize g.map Ty.cells = gs at *
  refine body [(8, .arr 973 2 27)] Tryz.func118 Tryz.ntmps118 ?_
  refine gg ?_
  refine ex_loop 3 (ex_round ?_)
  refine gg ?_
  refine call ha ?_
  refine gg ?_
  refine ex_round ?_
  refine kp [0, 3, 4, 5, 8, 67, 68, 69] [4, 973] ?_
  refine gg ?_
  refine call hb ?_
  refine gg ?_
  refine ex_round ?_
  refine kp [0, 3, 4, 5, 8, 67, 68, 69] [4, 973] ?_
  refine gg ?_
  refine call h1 ?_
  refine gg ?_
  refine call h2 ?_
  refine gg ?_
  refine call h3 ?_
  refine gg ?_
  refine ⟨by rfl, ?_⟩
  refine gg ?_
  exact ⟨by simp [retIs, resV, resL, resOne, mkTup, getS, getO, rdV, mkAgg, unL, V.un, TI.isAgg, XX_T, tt27, Tryz.f118], by simp [subO, getO, tt27, Tryz.f118]⟩
theorem inf_pair (g : List Ty) (a b : Tm) (s t : Ty) (ha : InC g a s) (hb : InC g b t) (ho : (Ty.pair s t).ok = true) (hz : (Ty.pair s t).size ≤ 64) : InC g (.pair a b) (.pair s t) := by
  have h1 := nat_ok
  have h2 := list_ok
  have h3 := two_ok s t
  have h4 := tok_ok (.pair s t) ho hz
  have ec : (Tm.pair a b).cells = [.int 10, .int 0, .int 0, .slice [], .slice [a.cells, b.cells]] := by rw [Tm.cells_eq]; rfl
  unfold InC at *
  rw [ec]
  rw [Tm.cells_eq a, Tm.cells_eq b]
  rw [Tm.cells_eq a] at ha
  rw [Tm.cells_eq b] at hb
  simp only [Ty.cells] at *
  rw [Ty.cells_eq s, Ty.cells_eq t] at h3 h4 ⊢
  rw [Ty.cells_eq s] at ha
  rw [Ty.cells_eq t] at hb
  clear ec
  generalize s.args.map Ty.cells = ss at *
  generalize t.args.map Ty.cells = tq at *
  generalize a.ty.args.map Ty.cells = ta at *
  generalize a.args.map Tm.cells = sa at *
  generalize b.ty.args.map Ty.cells = tb at *
  generalize b.args.map Tm.cells = sb at *
  generalize g.map Ty.cells = gs at *
  refine body [(8, .arr 973 2 27)] Tryz.func118 Tryz.ntmps118 ?_
  refine gg ?_
  refine ex_loop 3 (ex_round ?_)
  refine gg ?_
  refine call ha ?_
  refine gg ?_
  refine ex_round ?_
  refine kp [0, 3, 4, 5, 8, 67, 68, 69] [4, 973] ?_
  refine gg ?_
  refine call hb ?_
  refine gg ?_
  refine ex_round ?_
  refine kp [0, 3, 4, 5, 8, 67, 68, 69] [4, 973] ?_
  refine gg ?_
  refine call h1 ?_
  refine gg ?_
  refine call h2 ?_
  refine gg ?_
  refine call h3 ?_
  refine gg ?_
  refine call h4 ?_
  refine gg ?_
  refine ⟨by rfl, ?_⟩
  refine gg ?_
  exact ⟨by simp [retIs, resV, resL, resOne, mkTup, getS, getO, rdV, mkAgg, unL, V.un, TI.isAgg, XX_T, tt27, Tryz.f118], by simp [subO, getO, tt27, Tryz.f118]⟩
end Go.Proofs.YtodjpfpmhjdhbaaGreatDoor
