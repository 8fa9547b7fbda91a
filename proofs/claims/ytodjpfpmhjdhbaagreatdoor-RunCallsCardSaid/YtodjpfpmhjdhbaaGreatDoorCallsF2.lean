/- Part of the proof: contracts of the evaluator, of values and of the inference of types; no conditions. -/
import Derived.Test.YtodjpfpmhjdhbaaGreatDoorCallsF1
set_option linter.unusedVariables false
set_option linter.unusedSimpArgs false
set_option linter.unusedSectionVars false
/- The evaluator of ref06: one node. -/
namespace Go.Proofs.YtodjpfpmhjdhbaaGreatDoor
open Go.Lg
set_option maxRecDepth 10000
set_option maxHeartbeats 4000000
/-- the contract of an evaluation -/
def EvC (t : Tm) (env : List Rs) (u most : Nat) (y : List PV) (u' : Nat) (out : Bool) : Prop :=
  AC Tryz.prog gl 51 [.loc 970 0, .pv (.agg t.cells), .pv (.slice (rsE env))] [(970, mc u most false)] (.ret (.pv (.agg y))) [(970, mc u' most out)]
theorem eval_out0 (t : Tm) (env : List Rs) (most : Nat) : EvC t env most most (rsC (.num 0)) most true := by
  unfold EvC mc
  rw [Tm.cells_eq]
  simp only [rsC, Int.cast_ofNat_Int]
  generalize rsE env = ev at *
  generalize t.ty.args.map Ty.cells = ta at *
  generalize t.args.map Tm.cells = tas at *
  refine body [(7, .arr 971 9 109)] Tryz.func51 Tryz.ntmps51 ?_
  refine gg ?_
  refine ⟨by rfl, ?_⟩
  refine gg ?_
  exact ⟨by simp [retIs, resV, resL, resOne, mkTup, getS, getO, rdV, mkAgg, unL, V.un, TI.isAgg, XX_T, tt109, Tryz.f51], by simp [subO, getO, tt109, Tryz.f51]⟩
theorem eval_succ (a : Tm) (env : List Rs) (u u1 most n : Nat) (hu : u < most) (hm : most ≤ 65536) (hn : n ≤ 100000) (h : EvC a env (u + 1) most (rsC (.num n)) u1 false) : EvC (.succ a) env u most (rsC (.num (n + 1))) u1 false := by
  have hu' : ¬ (u : Int) = most := by omega
  have e1 : ((u + 1 : Nat) : Int) = (u : Int) + 1 := by omega
  have e2 : ((n + 1 : Nat) : Int) = (n : Int) + 1 := by omega
  unfold EvC mc at *
  rw [Tm.cells_eq (.succ a)]
  simp only [Tm.kind, Tm.idx, Tm.ty, Tm.args, Ty.kind, Ty.args, List.map_cons, List.map_nil, rsC, e1, e2] at *
  rw [Tm.cells_eq a] at *
  generalize rsE env = ev at *
  generalize a.ty.args.map Ty.cells = ta at *
  generalize a.args.map Tm.cells = tas at *
  refine body [(7, .arr 971 9 109)] Tryz.func51 Tryz.ntmps51 ?_
  refine gg ?_
  refine ⟨by rfl, ?_⟩
  refine gg ?_
  refine ex_loop 2 (ex_round ?_)
  refine gg ?_
  refine call h ?_
  refine gg ?_
  refine ex_round ?_
  refine kp [0, 2, 4, 6, 7, 64, 65, 66] [6, 970, 971] ?_
  refine gg ?_
  exact ⟨by simp [retIs, resV, resL, resOne, mkTup, getS, getO, rdV, mkAgg, unL, V.un, TI.isAgg, XX_T, tt109, Tryz.f51], by simp [subO, getO, tt109, Tryz.f51]⟩
theorem eval_zero (env : List Rs) (u most : Nat) (hu : u < most) (hm : most ≤ 65536) : EvC .zero env u most (rsC (.num 0)) (u + 1) false := by
  have hu' : ¬ (u : Int) = most := by omega
  have e1 : ((u + 1 : Nat) : Int) = (u : Int) + 1 := by omega
  unfold EvC mc
  rw [Tm.cells_eq]
  simp only [Tm.kind, Tm.idx, Tm.ty, Tm.args, Ty.kind, Ty.args, List.map_cons, List.map_nil, rsC, numsR, e1, Int.cast_ofNat_Int]
  generalize rsE env = ev at *
  refine body [(7, .arr 971 9 109)] Tryz.func51 Tryz.ntmps51 ?_
  refine gg ?_
  refine ⟨by rfl, ?_⟩
  refine gg ?_
  refine ex_loop 1 (ex_round ?_)
  refine gg ?_
  exact ⟨by simp [retIs, resV, resL, resOne, mkTup, getS, getO, rdV, mkAgg, unL, V.un, TI.isAgg, XX_T, tt109, Tryz.f51], by simp [subO, getO, tt109, Tryz.f51]⟩
theorem eval_nil (env : List Rs) (u most : Nat) (hu : u < most) (hm : most ≤ 65536) : EvC .nil env u most (rsC (.list [])) (u + 1) false := by
  have hu' : ¬ (u : Int) = most := by omega
  have e1 : ((u + 1 : Nat) : Int) = (u : Int) + 1 := by omega
  unfold EvC mc
  rw [Tm.cells_eq]
  simp only [Tm.kind, Tm.idx, Tm.ty, Tm.args, Ty.kind, Ty.args, List.map_cons, List.map_nil, rsC, numsR, e1, Int.cast_ofNat_Int]
  generalize rsE env = ev at *
  refine body [(7, .arr 971 9 109)] Tryz.func51 Tryz.ntmps51 ?_
  refine gg ?_
  refine ⟨by rfl, ?_⟩
  refine gg ?_
  refine ex_loop 1 (ex_round ?_)
  refine gg ?_
  exact ⟨by simp [retIs, resV, resL, resOne, mkTup, getS, getO, rdV, mkAgg, unL, V.un, TI.isAgg, XX_T, tt109, Tryz.f51], by simp [subO, getO, tt109, Tryz.f51]⟩
theorem eval_unit (env : List Rs) (u most : Nat) (hu : u < most) (hm : most ≤ 65536) : EvC .unit env u most (rsC (.unit)) (u + 1) false := by
  have hu' : ¬ (u : Int) = most := by omega
  have e1 : ((u + 1 : Nat) : Int) = (u : Int) + 1 := by omega
  unfold EvC mc
  rw [Tm.cells_eq]
  simp only [Tm.kind, Tm.idx, Tm.ty, Tm.args, Ty.kind, Ty.args, List.map_cons, List.map_nil, rsC, numsR, e1, Int.cast_ofNat_Int]
  generalize rsE env = ev at *
  refine body [(7, .arr 971 9 109)] Tryz.func51 Tryz.ntmps51 ?_
  refine gg ?_
  refine ⟨by rfl, ?_⟩
  refine gg ?_
  refine ex_loop 1 (ex_round ?_)
  refine gg ?_
  exact ⟨by simp [retIs, resV, resL, resOne, mkTup, getS, getO, rdV, mkAgg, unL, V.un, TI.isAgg, XX_T, tt109, Tryz.f51], by simp [subO, getO, tt109, Tryz.f51]⟩
theorem eval_var (i : Nat) (env : List Rs) (r : Rs) (u most : Nat) (hu : u < most) (hm : most ≤ 65536) (hi : env[i]? = some r) (hl : env.length ≤ 100000) : EvC (.var i) env u most (rsC r) (u + 1) false := by
  have hu' : ¬ (u : Int) = most := by omega
  have e1 : ((u + 1 : Nat) : Int) = (u : Int) + 1 := by omega
  have hil : i < env.length := (List.getElem?_eq_some_iff.1 hi).1
  have hle := rsE_len env
  have hal := rsE_all env
  have hg : (rsE env).getD (env.length - 1 - i) [] = rsC r := by
    rw [rsE_eq, List.getD, List.getElem?_reverse (by simp; omega)]
    have : (env.map rsC).length - 1 - (env.length - 1 - i) = i := by simp; omega
    rw [this]
    simp [hi]
  have g1 : ((env.length : Int) - 1 - i).toNat = env.length - 1 - i := by omega
  have g2 : (0 : Int) ≤ (env.length : Int) - 1 - i := by omega
  have g3 : (env.length : Int) - 1 - i < env.length := by omega
  obtain ⟨n1, l1, p1, k1, i1, tk1, ta1, bs1, e1', ex⟩ := rsC_shape r
  unfold EvC mc
  rw [Tm.cells_eq]
  simp only [Tm.kind, Tm.idx, Tm.ty, Tm.args, Ty.kind, Ty.args, List.map_cons, List.map_nil, e1]
  rw [ex] at hg ⊢
  clear hi ex
  generalize rsE env = ev at *
  generalize env.length = el at *
  refine body [(7, .arr 971 9 109)] Tryz.func51 Tryz.ntmps51 ?_
  refine gg ?_
  refine ⟨by rfl, ?_⟩
  refine gg ?_
  exact ⟨by simp [retIs, resV, resL, resOne, mkTup, getS, getO, rdV, mkAgg, unL, V.un, TI.isAgg, XX_T, tt109, Tryz.f51], by simp [subO, getO, tt109, Tryz.f51]⟩
theorem eval_lam (s : Ty) (b : Tm) (env : List Rs) (u most : Nat) (hu : u < most) (hm : most ≤ 65536) : EvC (.lam s b) env u most (rsC (.clo b env)) (u + 1) false := by
  have hu' : ¬ (u : Int) = most := by omega
  have e1 : ((u + 1 : Nat) : Int) = (u : Int) + 1 := by omega
  unfold EvC mc
  have ec : (Tm.lam s b).cells = [.int 2, .int 0, .int s.kind, .slice (s.args.map Ty.cells), .slice [b.cells]] := by rw [Tm.cells_eq]; rfl
  rw [ec]
  simp only [rsC, e1]
  rw [Tm.cells_eq b]
  clear ec
  generalize rsE env = ev at *
  generalize b.ty.args.map Ty.cells = tb at *
  generalize b.args.map Tm.cells = sb at *
  generalize s.args.map Ty.cells = ss at *
  refine body [(7, .arr 971 9 109)] Tryz.func51 Tryz.ntmps51 ?_
  refine gg ?_
  refine ⟨by rfl, ?_⟩
  refine gg ?_
  exact ⟨by simp [retIs, resV, resL, resOne, mkTup, getS, getO, rdV, mkAgg, unL, V.un, TI.isAgg, XX_T, tt109, Tryz.f51], by simp [subO, getO, tt109, Tryz.f51]⟩
theorem eval_fst (t : Tm) (env : List Rs) (a b : Rs) (u u1 most : Nat) (hu : u < most) (hm : most ≤ 65536) (h : EvC t env (u + 1) most (rsC (.pair a b)) u1 false) : EvC (.fst t) env u most (rsC a) u1 false := by
  have hu' : ¬ (u : Int) = most := by omega
  have e1 : ((u + 1 : Nat) : Int) = (u : Int) + 1 := by omega
  unfold EvC mc at *
  rw [Tm.cells_eq (.fst t)]
  simp only [Tm.kind, Tm.idx, Tm.ty, Tm.args, Ty.kind, Ty.args, List.map_cons, List.map_nil, rsC, e1, Int.cast_ofNat_Int] at *
  rw [Tm.cells_eq t] at *
  obtain ⟨n1, l1, p1, k1, i1, tk1, ta1, bs1, f1, ea⟩ := rsC_shape a
  obtain ⟨n2, l2, p2, k2, i2, tk2, ta2, bs2, f2, eb⟩ := rsC_shape b
  simp only [ea, eb] at h ⊢
  clear ea eb
  generalize rsE env = ev at *
  generalize t.ty.args.map Ty.cells = tt at *
  generalize t.args.map Tm.cells = st at *
  refine body [(7, .arr 971 9 109)] Tryz.func51 Tryz.ntmps51 ?_
  refine gg ?_
  refine ⟨by rfl, ?_⟩
  refine gg ?_
  refine ex_loop 2 (ex_round ?_)
  refine gg ?_
  refine call h ?_
  refine gg ?_
  refine ex_round ?_
  refine kp [0, 2, 4, 6, 7, 64, 65, 66] [6, 970, 971] ?_
  refine gg ?_
  exact ⟨by simp [retIs, resV, resL, resOne, mkTup, getS, getO, rdV, mkAgg, unL, V.un, TI.isAgg, XX_T, tt109, Tryz.f51], by simp [subO, getO, tt109, Tryz.f51]⟩
theorem eval_snd (t : Tm) (env : List Rs) (a b : Rs) (u u1 most : Nat) (hu : u < most) (hm : most ≤ 65536) (h : EvC t env (u + 1) most (rsC (.pair a b)) u1 false) : EvC (.snd t) env u most (rsC b) u1 false := by
  have hu' : ¬ (u : Int) = most := by omega
  have e1 : ((u + 1 : Nat) : Int) = (u : Int) + 1 := by omega
  unfold EvC mc at *
  rw [Tm.cells_eq (.snd t)]
  simp only [Tm.kind, Tm.idx, Tm.ty, Tm.args, Ty.kind, Ty.args, List.map_cons, List.map_nil, rsC, e1, Int.cast_ofNat_Int] at *
  rw [Tm.cells_eq t] at *
  obtain ⟨n1, l1, p1, k1, i1, tk1, ta1, bs1, f1, ea⟩ := rsC_shape a
  obtain ⟨n2, l2, p2, k2, i2, tk2, ta2, bs2, f2, eb⟩ := rsC_shape b
  simp only [ea, eb] at h ⊢
  clear ea eb
  generalize rsE env = ev at *
  generalize t.ty.args.map Ty.cells = tt at *
  generalize t.args.map Tm.cells = st at *
  refine body [(7, .arr 971 9 109)] Tryz.func51 Tryz.ntmps51 ?_
  refine gg ?_
  refine ⟨by rfl, ?_⟩
  refine gg ?_
  refine ex_loop 2 (ex_round ?_)
  refine gg ?_
  refine call h ?_
  refine gg ?_
  refine ex_round ?_
  refine kp [0, 2, 4, 6, 7, 64, 65, 66] [6, 970, 971] ?_
  refine gg ?_
  exact ⟨by simp [retIs, resV, resL, resOne, mkTup, getS, getO, rdV, mkAgg, unL, V.un, TI.isAgg, XX_T, tt109, Tryz.f51], by simp [subO, getO, tt109, Tryz.f51]⟩
theorem eval_pair (x y : Tm) (env : List Rs) (a b : Rs) (u u1 u2 most : Nat) (hu : u < most) (hm : most ≤ 65536) (ha : EvC x env (u + 1) most (rsC a) u1 false) (hb : EvC y env u1 most (rsC b) u2 false) : EvC (.pair x y) env u most (rsC (.pair a b)) u2 false := by
  have hu' : ¬ (u : Int) = most := by omega
  have e1 : ((u + 1 : Nat) : Int) = (u : Int) + 1 := by omega
  unfold EvC mc at *
  rw [Tm.cells_eq (.pair x y)]
  simp only [Tm.kind, Tm.idx, Tm.ty, Tm.args, Ty.kind, Ty.args, List.map_cons, List.map_nil, rsC, e1, Int.cast_ofNat_Int] at *
  rw [Tm.cells_eq x] at *
  rw [Tm.cells_eq y] at *
  obtain ⟨n1, l1, p1, k1, i1, tk1, ta1, bs1, f1, ea⟩ := rsC_shape a
  obtain ⟨n2, l2, p2, k2, i2, tk2, ta2, bs2, f2, eb⟩ := rsC_shape b
  simp only [ea, eb] at ha hb ⊢
  clear ea eb
  generalize rsE env = ev at *
  generalize x.ty.args.map Ty.cells = tx at *
  generalize x.args.map Tm.cells = sx at *
  generalize y.ty.args.map Ty.cells = ty at *
  generalize y.args.map Tm.cells = sy at *
  refine body [(7, .arr 971 9 109)] Tryz.func51 Tryz.ntmps51 ?_
  refine gg ?_
  refine ⟨by rfl, ?_⟩
  refine gg ?_
  refine ex_loop 3 (ex_round ?_)
  refine gg ?_
  refine call ha ?_
  refine gg ?_
  refine ex_round ?_
  refine kp [0, 2, 4, 6, 7, 64, 65, 66] [6, 970, 971] ?_
  refine gg ?_
  refine call hb ?_
  refine gg ?_
  refine ex_round ?_
  refine kp [0, 2, 4, 6, 7, 64, 65, 66] [6, 970, 971] ?_
  refine frz 971 (es := [[.int n1, .slice l1, .slice p1, .int k1, .int i1, .int tk1, .slice ta1, .slice bs1, .slice f1], [.int n2, .slice l2, .slice p2, .int k2, .int i2, .int tk2, .slice ta2, .slice bs2, .slice f2]]) ?_
  refine gg ?_
  exact ⟨by simp [retIs, resV, resL, resOne, mkTup, getS, getO, rdV, mkAgg, unL, V.un, TI.isAgg, XX_T, tt109, Tryz.f51], by simp [subO, getO, tt109, Tryz.f51]⟩
theorem eval_app (x y : Tm) (env : List Rs) (a b : Rs) (z : List PV) (u u1 u2 u3 most : Nat) (out : Bool) (hu : u < most) (hm : most ≤ 65536) (ha : EvC x env (u + 1) most (rsC a) u1 false) (hb : EvC y env u1 most (rsC b) u2 false) (hz : ∃ r, z = rsC r)
    (hc : AC Tryz.prog gl 52 [.loc 970 0, .pv (.agg (rsC a)), .pv (.agg (rsC b))] [(970, mc u2 most false)] (.ret (.pv (.agg z))) [(970, mc u3 most out)]) : EvC (.app x y) env u most z u3 out := by
  have hu' : ¬ (u : Int) = most := by omega
  have e1 : ((u + 1 : Nat) : Int) = (u : Int) + 1 := by omega
  unfold EvC mc at *
  rw [Tm.cells_eq (.app x y)]
  simp only [Tm.kind, Tm.idx, Tm.ty, Tm.args, Ty.kind, Ty.args, List.map_cons, List.map_nil, rsC, e1, Int.cast_ofNat_Int] at *
  rw [Tm.cells_eq x] at *
  rw [Tm.cells_eq y] at *
  obtain ⟨r, rfl⟩ := hz
  obtain ⟨n1, l1, p1, k1, i1, tk1, ta1, bs1, f1, ea⟩ := rsC_shape a
  obtain ⟨n2, l2, p2, k2, i2, tk2, ta2, bs2, f2, eb⟩ := rsC_shape b
  obtain ⟨n3, l3, p3, k3, i3, tk3, ta3, bs3, f3, er⟩ := rsC_shape r
  simp only [ea, eb, er] at ha hb hc ⊢
  clear ea eb er
  generalize rsE env = ev at *
  generalize x.ty.args.map Ty.cells = tx at *
  generalize x.args.map Tm.cells = sx at *
  generalize y.ty.args.map Ty.cells = ty at *
  generalize y.args.map Tm.cells = sy at *
  refine body [(7, .arr 971 9 109)] Tryz.func51 Tryz.ntmps51 ?_
  refine gg ?_
  refine ⟨by rfl, ?_⟩
  refine gg ?_
  refine ex_loop 3 (ex_round ?_)
  refine gg ?_
  refine call ha ?_
  refine gg ?_
  refine ex_round ?_
  refine kp [0, 2, 4, 6, 7, 64, 65, 66] [6, 970, 971] ?_
  refine gg ?_
  refine call hb ?_
  refine gg ?_
  refine ex_round ?_
  refine kp [0, 2, 4, 6, 7, 64, 65, 66] [6, 970, 971] ?_
  refine gg ?_
  refine call hc ?_
  refine gg ?_
  refine ⟨by rfl, ?_⟩
  refine gg ?_
  exact ⟨by simp [retIs, resV, resL, resOne, mkTup, getS, getO, rdV, mkAgg, unL, V.un, TI.isAgg, XX_T, tt109, Tryz.f51], by simp [subO, getO, tt109, Tryz.f51]⟩
theorem eval_cons (x y : Tm) (env : List Rs) (n : Nat) (zs : List Nat) (u u1 u2 most : Nat) (hu : u < most) (hm : most ≤ 65536) (hz : zs.length ≤ 100000) (ha : EvC x env (u + 1) most (rsC (.num n)) u1 false) (hb : EvC y env u1 most (rsC (.list zs)) u2 false) : EvC (.cons x y) env u most (rsC (.list (n :: zs))) u2 false := by
  have hu' : ¬ (u : Int) = most := by omega
  have e1 : ((u + 1 : Nat) : Int) = (u : Int) + 1 := by omega
  have hall : ∀ q ∈ numsR zs, q.length = 1 := by
    intro q hq
    simp only [numsR, List.mem_map] at hq
    obtain ⟨k, _, rfl⟩ := hq
    rfl
  have hone : ∀ q ∈ numsR zs, q.all PV.one = true := by
    intro q hq
    simp only [numsR, List.mem_map] at hq
    obtain ⟨k, _, rfl⟩ := hq
    rfl
  have hlz : (numsR zs).length ≤ 100000 := by simpa [numsR] using hz
  have enz : numsR (n :: zs) = [[.int n]] ++ numsR zs := rfl
  unfold EvC mc at *
  rw [Tm.cells_eq (.cons x y)]
  simp only [Tm.kind, Tm.idx, Tm.ty, Tm.args, Ty.kind, Ty.args, List.map_cons, List.map_nil, rsC, e1, enz] at *
  rw [Tm.cells_eq x] at *
  rw [Tm.cells_eq y] at *
  generalize numsR zs = qs at *
  have htk : List.take (1 + qs.length) ([PV.int n] :: qs) = [PV.int n] :: qs := List.take_of_length_le (by simp; omega)
  generalize rsE env = ev at *
  generalize x.ty.args.map Ty.cells = tx at *
  generalize x.args.map Tm.cells = sx at *
  generalize y.ty.args.map Ty.cells = ty at *
  generalize y.args.map Tm.cells = sy at *
  refine body [(7, .arr 971 9 109), (146, .arr 972 1 3)] Tryz.func51 Tryz.ntmps51 ?_
  refine gg ?_
  refine ⟨by rfl, ?_⟩
  refine gg ?_
  refine ex_loop 3 (ex_round ?_)
  refine gg ?_
  refine call ha ?_
  refine gg ?_
  refine ex_round ?_
  refine kp [0, 2, 4, 6, 7, 64, 65, 66] [6, 970, 971] ?_
  refine gg ?_
  refine call hb ?_
  refine gg ?_
  refine ex_round ?_
  refine kp [0, 2, 4, 6, 7, 64, 65, 66] [6, 970, 971] ?_
  (repeat (first | with_reducible refine ex_seq ?_ | with_reducible refine ex_block ?_ | with_reducible refine ex_draw ?_ | with_reducible refine q_normal ?_ | with_reducible refine b_normal ?_ | with_reducible refine runOps_nil ?_ | with_reducible refine ex_reg ?_ | with_reducible refine ex_skip ?_ | with_reducible refine ex_exit ?_ | with_reducible refine q_exit ?_ | with_reducible refine q_ret ?_ | with_reducible refine q_panic ?_ | with_reducible refine b_same ?_ | with_reducible refine b_ret ?_ | with_reducible refine b_panic ?_ | refine b_other rfl ?_ | refine go ?_ | refine cskip ?_ | refine cdt ?_ | refine cdf ?_ | fail))
  refine go ?_ (hc := by simp only [buildC, and_true, true_and, implies_true, true_implies, and_self]; exact ⟨hall, hone, by unfold maxLen; omega, by omega⟩)
  (repeat (first | with_reducible refine ex_seq ?_ | with_reducible refine ex_block ?_ | with_reducible refine ex_draw ?_ | with_reducible refine q_normal ?_ | with_reducible refine b_normal ?_ | with_reducible refine runOps_nil ?_ | with_reducible refine ex_reg ?_ | with_reducible refine ex_skip ?_ | with_reducible refine ex_exit ?_ | with_reducible refine q_exit ?_ | with_reducible refine q_ret ?_ | with_reducible refine q_panic ?_ | with_reducible refine b_same ?_ | with_reducible refine b_ret ?_ | with_reducible refine b_panic ?_ | refine b_other rfl ?_ | refine go ?_ | refine cskip ?_ | refine cdt ?_ | refine cdf ?_ | fail))
  refine ⟨by rfl, ?_⟩
  (repeat (first | with_reducible refine ex_seq ?_ | with_reducible refine ex_block ?_ | with_reducible refine ex_draw ?_ | with_reducible refine q_normal ?_ | with_reducible refine b_normal ?_ | with_reducible refine runOps_nil ?_ | with_reducible refine ex_reg ?_ | with_reducible refine ex_skip ?_ | with_reducible refine ex_exit ?_ | with_reducible refine q_exit ?_ | with_reducible refine q_ret ?_ | with_reducible refine q_panic ?_ | with_reducible refine b_same ?_ | with_reducible refine b_ret ?_ | with_reducible refine b_panic ?_ | refine b_other rfl ?_ | refine go ?_ | refine cskip ?_ | refine cdt ?_ | refine cdf ?_ | fail))
  refine frz 972 (es := [[.int n]] ++ qs) ?_
  refine gg ?_
  exact ⟨by simp [retIs, resV, resL, resOne, mkTup, getS, getO, rdV, mkAgg, unL, V.un, TI.isAgg, XX_T, tt109, Tryz.f51, htk], by simp [subO, getO, tt109, Tryz.f51, htk]⟩
end Go.Proofs.YtodjpfpmhjdhbaaGreatDoor
