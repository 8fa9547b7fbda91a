/- Part of the proof: the contract of the law's own function; no conditions. -/
import Derived.Test.YtodjpfpmhjdhbaaGreatDoorCallsG2
import Derived.Test.YtodjpfpmhjdhbaaGreatDoorCallsE4
import Derived.Test.YtodjpfpmhjdhbaaGreatDoorCallsF1
import Derived.Test.YtodjpfpmhjdhbaaGreatDoorCallsE3
import Derived.Test.YtodjpfpmhjdhbaaGreatDoorCallsE5
set_option linter.unusedVariables false
set_option linter.unusedSimpArgs false
set_option linter.unusedSectionVars false
/- Values as results of the evaluator (ref06.of) and as cells on the way (run.from). -/
namespace Go.Lg
theorem AC.leO {P : Program} {gl : Nat → Option (List PV)} {f : Nat} {args : List V} {objs objs' : List (Nat × Ob)} {p q : PV} (h : AC P gl f args objs (.ret (.pv p)) objs') (hr : ∀ H v, RepP H p v → RepP H q v) : AC P gl f args objs (.ret (.pv q)) objs' := by
  refine ⟨h.direct, h.names, h.namesO, fun E w vs hB hv hR => (h.calls E w vs hB hv hR).mono ?_⟩
  rintro e w' ⟨E', hd, v, he, hv⟩
  exact ⟨E', hd, v, he, hr _ _ hv⟩
theorem repL_cons {H : Hp} {p q : PV} {ps qs : List PV} (h1 : ∀ v, RepP H p v → RepP H q v) (h2 : ∀ vs, RepL H ps vs → RepL H qs vs) : ∀ vs, RepL H (p :: ps) vs → RepL H (q :: qs) vs
  | [], h => h
  | v :: vs, h => ⟨h1 v h.1, h2 vs h.2⟩
theorem repP_agg {H : Hp} {ps qs : List PV} (hl : ps.length = qs.length) (h : ∀ vs, RepL H ps vs → RepL H qs vs) : ∀ v, RepP H (.agg ps) v → RepP H (.agg qs) v := by
  intro v hr
  simp only [RepP] at hr ⊢
  obtain ⟨vs, e1, e2, e3⟩ := hr
  exact ⟨vs, e1, by omega, h vs e3⟩
end Go.Lg
namespace Go.Proofs.YtodjpfpmhjdhbaaGreatDoor
open Go.Lg
set_option maxRecDepth 10000
set_option maxHeartbeats 4000000
theorem ti109n : TIOK Tryz.prog 109 ⟨.struct [(0, 1), (1, 1), (2, 1), (3, 5), (8, 1)], 9, 152, (.agg #[(.int .i64 0), (.slice none 0 0), (.slice none 0 0), (.int .i64 0), (.int .i64 0), (.int .i64 0), (.slice none 0 0), (.slice none 0 0), (.slice none 0 0)]), [.int 0, .nils, .nils, .int 0, .int 0, .int 0, .nils, .nils, .nils]⟩ :=
  TIOK.mk' (by kernel_rfl) Tryz.underlying109 ⟨_, rfl, by kernel_rfl⟩ rfl (by simp [RepL, RepP, Value.cells, maxLen]) rfl (.inr (by kernel_rfl))
/-- the types, the zero results known better -/
def ttN (t : Nat) : Option TI := if t = 109 then some ⟨.struct [(0, 1), (1, 1), (2, 1), (3, 5), (8, 1)], 9, 152, (.agg #[(.int .i64 0), (.slice none 0 0), (.slice none 0 0), (.int .i64 0), (.int .i64 0), (.int .i64 0), (.slice none 0 0), (.slice none 0 0), (.slice none 0 0)]), [.int 0, .nils, .nils, .int 0, .int 0, .int 0, .nils, .nils, .nils]⟩ else tt t
theorem ttNOK : TOK Tryz.prog ttN := by
  intro t ti h
  unfold ttN at h
  split at h
  · rename_i e
    subst e
    cases h
    exact ti109n
  · exact ttOK t ti h
noncomputable def XN (nm : List (Nat × Note)) (nt : Nat) (given : List Nat) : Env1 := ⟨Tryz.prog, ttN, gl, nm, nt, given, ttNOK, mixed⟩
theorem XN_T {nm : List (Nat × Note)} {nt : Nat} {given : List Nat} : (XN nm nt given).T = ttN := rfl
theorem XN_gl {nm : List (Nat × Note)} {nt : Nat} {given : List Nat} : (XN nm nt given).gl = gl := rfl
theorem XN_nm {nm : List (Nat × Note)} {nt : Nat} {given : List Nat} : (XN nm nt given).nm = nm := rfl
theorem XN_nt {nm : List (Nat × Note)} {nt : Nat} {given : List Nat} : (XN nm nt given).nt = nt := rfl
theorem ttN109 : ttN 109 = some ⟨.struct [(0, 1), (1, 1), (2, 1), (3, 5), (8, 1)], 9, 152, (.agg #[(.int .i64 0), (.slice none 0 0), (.slice none 0 0), (.int .i64 0), (.int .i64 0), (.int .i64 0), (.slice none 0 0), (.slice none 0 0), (.slice none 0 0)]), [.int 0, .nils, .nils, .int 0, .int 0, .int 0, .nils, .nils, .nils]⟩ := rfl
theorem ttN41 : ttN 41 = tt 41 := rfl
theorem ttN3 : ttN 3 = tt 3 := rfl
theorem ttN22 : ttN 22 = tt 22 := rfl
theorem toN {nm : List (Nat × Note)} {nt : Nat} {given : List Nat} {c : Code} {σ : St} {Q : AEx → St → Prop} (h : AWP (XN nm nt given) c σ Q) : AWP (XX nm nt given) c σ Q :=
  fun C E a w hC hG => h C E a w ⟨hC.glob, hC.nt, hC.given, hC.ms, hC.defs⟩ hG
theorem of_flat (k n : Int) (s : List (List PV)) : AC Tryz.prog gl 53 [.pv (.agg [.int k, .int n, .slice s, .nils])] [] (.ret (.pv (.agg [.int n, .slice s, .nils, .int 0, .int 0, .int 0, .nils, .nils, .nils]))) [] := by
  refine body [] Tryz.func53 Tryz.ntmps53 ?_
  with_reducible refine ex_seq ?_
  (repeat (first | with_reducible refine ex_block ?_ | with_reducible refine ex_draw ?_ | with_reducible refine q_normal ?_ | with_reducible refine b_normal ?_ | with_reducible refine runOps_nil ?_ | with_reducible refine ex_reg ?_ | with_reducible refine ex_skip ?_ | with_reducible refine ex_exit ?_ | with_reducible refine ex_ret ?_ | with_reducible refine q_exit ?_ | with_reducible refine q_ret ?_ | with_reducible refine q_panic ?_ | with_reducible refine b_same ?_ | with_reducible refine b_ret ?_ | with_reducible refine b_panic ?_ | refine b_other rfl ?_ | refine go ?_ | refine cskip ?_ | refine cdt ?_ | refine cdf ?_ | fail))
  with_reducible refine ex_seq ?_
  refine toN ?_
  with_reducible refine ex_reg ?_
  (repeat (first | with_reducible refine ex_seq ?_ | with_reducible refine ex_block ?_ | with_reducible refine ex_draw ?_ | with_reducible refine q_normal ?_ | with_reducible refine b_normal ?_ | with_reducible refine runOps_nil ?_ | with_reducible refine ex_reg ?_ | with_reducible refine ex_skip ?_ | with_reducible refine ex_exit ?_ | with_reducible refine ex_ret ?_ | with_reducible refine q_exit ?_ | with_reducible refine q_ret ?_ | with_reducible refine q_panic ?_ | with_reducible refine b_same ?_ | with_reducible refine b_ret ?_ | with_reducible refine b_panic ?_ | refine b_other rfl ?_ | refine runOps_ev rfl (by simp only [↓evalSeq, ↓evalR_some, ↓evalO_call, ↓evalO_none, ↓evalO_some, ↓evalG_tt, ↓evalG_ff, ↓evalG_tf, ↓evalG_ft, ↓evalG_sk, isCall, ↓cond_true, ↓cond_false, gv, stepOp, stepMove, stepLoad, stepStore, stepIndex, stepLen, stepAppend, stepSlice, stepBin, stepInt, stepEq, srcOf, addrOff, TK.isIface, stepRow, stepUpdate, placesA, PV.nonint, List.any_cons, List.any_nil, Bool.or_true, Bool.true_or, Bool.or_false, Bool.false_or, rdP, rdV, TI.isAgg, boolR, mkAgg, mkSlice, unL, unE, V.un, vc_int, vo_int, po_int, vc_bool, vo_bool, po_bool, vc_nil, vo_nil, po_nil, vc_nils, vo_nils, po_nils, vc_nilfn, vo_nilfn, po_nilfn, vc_nilm, vo_nilm, po_nilm, vc_nilif, vo_nilif, po_nilif, vc_ptr, vo_ptr, po_ptr, vc_slice, vo_slice, po_slice, vc_iface, vo_iface, po_iface, vc_loc, vo_loc, vc_eloc, vo_eloc, vc_arr, vo_arr, vc_map, vo_map, vc_vsl, vo_vsl, vc_fn, vo_fn, vc_agg, vc_aggv, pc_int, pc_bool, pc_nil, pc_nils, pc_nilfn, pc_nilm, pc_nilif, pc_ptr, pc_slice, pc_iface, pc_agg, fillV, sliceParts, putL, St.val, getS, getO, setO, delO, updAll, updO, St.eff, R.eff, R.of, R.ofIf, Env1.note, cst, putS, dstOK, freshL, zipArgs, pvL, skipE, ↓reduceIte, Nat.reduceEqDiff, Nat.reduceLT, Nat.reduceLeDiff, Nat.reduceAdd, Nat.reduceSub, Nat.reduceMul, Int.reduceToNat, Int.toNat_natCast, and_true, true_and, false_and, and_self, forall_const, true_implies, implies_true, not_false_eq_true, not_true_eq_false, List.mem_cons, List.not_mem_nil, or_false, or_self, false_or, List.length_cons, List.length_nil, List.map_cons, List.map_nil, List.nil_append, List.cons_append, List.append_nil, List.take_zero, List.take_succ_cons, List.drop_zero, List.drop_succ_cons, List.take_nil, List.drop_nil, List.getElem?_cons_zero, List.getElem?_cons_succ, List.getElem?_nil, Option.map_some, Option.map_none, Bool.not_true, Bool.not_false, List.all_cons, List.all_nil, Bool.and_self, Bool.true_and, Bool.and_true, reduceCtorEq, Option.some.injEq, List.getD_cons_zero, List.getD_cons_succ, decide_true, decide_false, Nat.succ_ne_self, Nat.zero_add, Nat.add_zero, pvE_take, pvE_get, pvE_app, pvE_len, pvE_all, pvE_one, unE_pvE, List.forall_mem_cons, List.mem_singleton, forall_eq, List.mem_nil_iff, false_implies, XN_T, XN_gl, gl0, XN_nm, XN_nt, noteD, noteOf, ttN109, ttN41, ttN3, ttN22, tt41, tt3, tt22]; rfl) (by first | (simp only [buildC, and_true, true_and, implies_true, true_implies, and_self]; done) | (simp only [buildC, and_true, true_and, implies_true, true_implies, and_self]; unfold inI; omega)) ?_))
  refine gg ?_
  refine ex_loop 1 (ex_round ?_)
  refine gg ?_
  exact ⟨by simp [retIs, resV, resL, resOne, mkTup, getS, getO, rdV, mkAgg, unL, V.un, TI.isAgg, XX_T, tt109, Tryz.f53], by simp [subO, getO, tt109, Tryz.f53]⟩
theorem rep_nilsS {H : Hp} : ∀ v, RepP H .nils v → RepP H (.slice []) v := fun _ h => rep_nils h
theorem of_base6 {B : Nat} {r : Rs} {t : Ty} (h : RsT B r t) (hp : t = .nat ∨ t = .list ∨ t = .unit) : AC Tryz.prog gl 53 [.pv (.agg (valW r))] [] (.ret (.pv (.agg (rsC r)))) [] := by
  rcases hp with rfl | rfl | rfl <;> cases h
  all_goals simp only [valW, rsC]
  all_goals refine (of_flat _ _ _).leO (fun H => repP_agg rfl ?_)
  all_goals exact repL_cons (fun _ h => h) (repL_cons (fun _ h => h) (repL_cons rep_nilsS (repL_cons (fun _ h => h) (repL_cons (fun _ h => h) (repL_cons (fun _ h => h) (repL_cons rep_nilsS (repL_cons rep_nilsS (repL_cons rep_nilsS (fun _ h => h)))))))))
theorem of_two (a b x y : List PV) (sa : ∃ k n s, a = [.int k, .int n, s, .nils] ∧ s.one = true) (sb : ∃ k n s, b = [.int k, .int n, s, .nils] ∧ s.one = true)
    (sx : ∃ n l p k i tk ta bs e, x = [.int n, .slice l, .slice p, .int k, .int i, .int tk, .slice ta, .slice bs, .slice e]) (sy : ∃ n l p k i tk ta bs e, y = [.int n, .slice l, .slice p, .int k, .int i, .int tk, .slice ta, .slice bs, .slice e])
    (h1 : AC Tryz.prog gl 53 [.pv (.agg a)] [] (.ret (.pv (.agg x))) []) (h2 : AC Tryz.prog gl 53 [.pv (.agg b)] [] (.ret (.pv (.agg y))) []) :
    AC Tryz.prog gl 53 [.pv (.agg [.int 3, .int 0, .slice [], .slice [a, b]])] [] (.ret (.pv (.agg [.int 0, .slice [], .slice [x, y], .int 0, .int 0, .int 0, .nils, .nils, .nils]))) [] := by
  obtain ⟨k5, n5, s5, rfl, o5⟩ := sa
  obtain ⟨k6, n6, s6, rfl, o6⟩ := sb
  obtain ⟨m1, l1, p1, j1, i1, u1, ta1, bs1, f1, rfl⟩ := sx
  obtain ⟨m2, l2, p2, j2, i2, u2, ta2, bs2, f2, rfl⟩ := sy
  have w5 := vcells_one o5
  have w6 := vcells_one o6
  have v5 : (V.pv s5).one = true := by rw [one_pv]; exact o5
  have v6 : (V.pv s6).one = true := by rw [one_pv]; exact o6
  refine body [] Tryz.func53 Tryz.ntmps53 ?_
  with_reducible refine ex_seq ?_
  (repeat (first | with_reducible refine ex_block ?_ | with_reducible refine ex_draw ?_ | with_reducible refine q_normal ?_ | with_reducible refine b_normal ?_ | with_reducible refine runOps_nil ?_ | with_reducible refine ex_reg ?_ | with_reducible refine ex_skip ?_ | with_reducible refine ex_exit ?_ | with_reducible refine ex_ret ?_ | with_reducible refine q_exit ?_ | with_reducible refine q_ret ?_ | with_reducible refine q_panic ?_ | with_reducible refine b_same ?_ | with_reducible refine b_ret ?_ | with_reducible refine b_panic ?_ | refine b_other rfl ?_ | refine go ?_ | refine cskip ?_ | refine cdt ?_ | refine cdf ?_ | fail))
  with_reducible refine ex_seq ?_
  refine toN ?_
  with_reducible refine ex_reg ?_
  (repeat (first | with_reducible refine ex_seq ?_ | with_reducible refine ex_block ?_ | with_reducible refine ex_draw ?_ | with_reducible refine q_normal ?_ | with_reducible refine b_normal ?_ | with_reducible refine runOps_nil ?_ | with_reducible refine ex_reg ?_ | with_reducible refine ex_skip ?_ | with_reducible refine ex_exit ?_ | with_reducible refine ex_ret ?_ | with_reducible refine q_exit ?_ | with_reducible refine q_ret ?_ | with_reducible refine q_panic ?_ | with_reducible refine b_same ?_ | with_reducible refine b_ret ?_ | with_reducible refine b_panic ?_ | refine b_other rfl ?_ | refine runOps_ev rfl (by simp only [↓evalSeq, ↓evalR_some, ↓evalO_call, ↓evalO_none, ↓evalO_some, ↓evalG_tt, ↓evalG_ff, ↓evalG_tf, ↓evalG_ft, ↓evalG_sk, isCall, ↓cond_true, ↓cond_false, gv, stepOp, stepMove, stepLoad, stepStore, stepIndex, stepLen, stepAppend, stepSlice, stepBin, stepInt, stepEq, srcOf, addrOff, TK.isIface, stepRow, stepUpdate, placesA, PV.nonint, List.any_cons, List.any_nil, Bool.or_true, Bool.true_or, Bool.or_false, Bool.false_or, rdP, rdV, TI.isAgg, boolR, mkAgg, mkSlice, unL, unE, V.un, vc_int, vo_int, po_int, vc_bool, vo_bool, po_bool, vc_nil, vo_nil, po_nil, vc_nils, vo_nils, po_nils, vc_nilfn, vo_nilfn, po_nilfn, vc_nilm, vo_nilm, po_nilm, vc_nilif, vo_nilif, po_nilif, vc_ptr, vo_ptr, po_ptr, vc_slice, vo_slice, po_slice, vc_iface, vo_iface, po_iface, vc_loc, vo_loc, vc_eloc, vo_eloc, vc_arr, vo_arr, vc_map, vo_map, vc_vsl, vo_vsl, vc_fn, vo_fn, vc_agg, vc_aggv, pc_int, pc_bool, pc_nil, pc_nils, pc_nilfn, pc_nilm, pc_nilif, pc_ptr, pc_slice, pc_iface, pc_agg, fillV, sliceParts, putL, St.val, getS, getO, setO, delO, updAll, updO, St.eff, R.eff, R.of, R.ofIf, Env1.note, cst, putS, dstOK, freshL, zipArgs, pvL, skipE, ↓reduceIte, Nat.reduceEqDiff, Nat.reduceLT, Nat.reduceLeDiff, Nat.reduceAdd, Nat.reduceSub, Nat.reduceMul, Int.reduceToNat, Int.toNat_natCast, and_true, true_and, false_and, and_self, forall_const, true_implies, implies_true, not_false_eq_true, not_true_eq_false, List.mem_cons, List.not_mem_nil, or_false, or_self, false_or, List.length_cons, List.length_nil, List.map_cons, List.map_nil, List.nil_append, List.cons_append, List.append_nil, List.take_zero, List.take_succ_cons, List.drop_zero, List.drop_succ_cons, List.take_nil, List.drop_nil, List.getElem?_cons_zero, List.getElem?_cons_succ, List.getElem?_nil, Option.map_some, Option.map_none, Bool.not_true, Bool.not_false, List.all_cons, List.all_nil, Bool.and_self, Bool.true_and, Bool.and_true, reduceCtorEq, Option.some.injEq, List.getD_cons_zero, List.getD_cons_succ, decide_true, decide_false, Nat.succ_ne_self, Nat.zero_add, Nat.add_zero, pvE_take, pvE_get, pvE_app, pvE_len, pvE_all, pvE_one, unE_pvE, List.forall_mem_cons, List.mem_singleton, forall_eq, List.mem_nil_iff, false_implies, XN_T, XN_gl, gl0, XN_nm, XN_nt, noteD, noteOf, ttN109, ttN41, ttN3, ttN22, tt41, tt3, tt22]; rfl) (by first | (simp only [buildC, and_true, true_and, implies_true, true_implies, and_self]; done) | (simp only [buildC, and_true, true_and, implies_true, true_implies, and_self]; unfold inI; omega)) ?_))
  refine gg ?_
  refine th 3 2 972 9 109 ?_
  refine ex_loop 3 (ex_round ?_)
  refine gg ?_
  refine call h1 ?_
  refine gg ?_
  refine ⟨by rfl, ?_⟩
  refine gg ?_
  refine ex_round ?_
  refine kp [1, 2, 3, 12, 13, 14] [2, 3, 972] ?_
  refine gg ?_
  refine call h2 ?_
  refine gg ?_
  refine ⟨by rfl, ?_⟩
  refine gg ?_
  refine ex_round ?_
  refine frz 972 (es := [[.int m1, .slice l1, .slice p1, .int j1, .int i1, .int u1, .slice ta1, .slice bs1, .slice f1], [.int m2, .slice l2, .slice p2, .int j2, .int i2, .int u2, .slice ta2, .slice bs2, .slice f2]]) ?_
  refine gg ?_
  exact ⟨by simp [retIs, resV, resL, resOne, mkTup, getS, getO, rdV, mkAgg, unL, V.un, TI.isAgg, XX_T, tt109, Tryz.f53], by simp [subO, getO, tt109, Tryz.f53]⟩
/-- ref06.of of a value -/
theorem of6_ok {B : Nat} {r : Rs} {t : Ty} (h : RsT B r t) (hp : t.plain) : AC Tryz.prog gl 53 [.pv (.agg (valW r))] [] (.ret (.pv (.agg (rsC r)))) [] := by
  rcases plain_cases hp with hb | ⟨s, hb, rfl⟩
  · exact of_base6 h hb
  · cases h with
    | @pair a b _ _ ha hb' =>
      have hb2 : s = .nat ∨ s = .list ∨ s = .unit := by rcases hb with rfl | rfl <;> simp
      have h1 := of_two _ _ _ _ (valW_shape ha (.inl rfl)) (valW_shape hb' hb2) (rsC_shape a) (rsC_shape b) (of_base6 ha (.inl rfl)) (of_base6 hb' hb2)
      simp only [valW, rsC]
      refine h1.leO (fun H => repP_agg rfl ?_)
      exact repL_cons (fun _ h => h) (repL_cons (fun _ h => h) (repL_cons (fun _ h => h) (repL_cons (fun _ h => h) (repL_cons (fun _ h => h) (repL_cons (fun _ h => h) (repL_cons rep_nilsS (repL_cons rep_nilsS (repL_cons rep_nilsS (fun _ h => h)))))))))
/-- the cell of a value -/
def itOf : Rs → It
  | .num n => .num n
  | .list l => .list l
  | .unit => .unit
  | .pair a b => .pair (itOf a) (itOf b)
  | .clo _ _ => .unit
theorem from_num (n : Nat) : AC Tryz.prog gl 66 [.pv (.agg (valW (.num n)))] [] (.ret (.pv (itP (.num n)))) [] := by
  simp only [itP, valW]
  refine body [(12, .box 905)] Tryz.func66 Tryz.ntmps66 ?_
  refine gg ?_
  refine ex_loop 1 (ex_round ?_)
  refine gg ?_
  refine ex_loop 1 (ex_round ?_)
  refine fb 905 (ps := [.int 1, .int n, .nil, .nil, .nil, .int 0, .nil, .int 0, .bool false]) ?_
  refine gg ?_
  exact ⟨by simp [retIs, resV, resL, resOne, mkTup, getS, getO, rdV, mkAgg, unL, V.un, TI.isAgg, XX_T, tt30, Tryz.f66], by simp [subO, getO, tt30, Tryz.f66]⟩
theorem from_unit : AC Tryz.prog gl 66 [.pv (.agg (valW .unit))] [] (.ret (.pv (itP .unit))) [] := by
  simp only [itP, valW]
  refine body [(12, .box 905)] Tryz.func66 Tryz.ntmps66 ?_
  refine gg ?_
  refine ex_loop 1 (ex_round ?_)
  refine gg ?_
  refine ex_loop 1 (ex_round ?_)
  refine fb 905 (ps := [.int 4, .int 0, .nil, .nil, .nil, .int 0, .nil, .int 0, .bool false]) ?_
  refine gg ?_
  exact ⟨by simp [retIs, resV, resL, resOne, mkTup, getS, getO, rdV, mkAgg, unL, V.un, TI.isAgg, XX_T, tt30, Tryz.f66], by simp [subO, getO, tt30, Tryz.f66]⟩
noncomputable def frI (l : List Nat) (cc : List (List PV)) (k : Nat) : St := ⟨[(1, .pv (.ptr [.int 2, .int 0, .slice cc, .nils])), (2, .pv .nil), (3, .loc 905 0), (4, .pv (.int ((cc.length : Int) - 1 - k)))],
  [(905, .box [.pv (.int 2), .pv (.int 0), .pv (linkP (l.drop (l.length - k))), .pv .nil, .pv .nil, .pv (.int 0), .pv .nil, .pv (.int 0), .pv (.bool false)])], [905]⟩
theorem from_list (l : List Nat) (hl : l.length ≤ 100000) : AC Tryz.prog gl 66 [.pv (.agg (valW (.list l)))] [] (.ret (.pv (itP (.list l)))) [] := by
  have hal := numsR_all l
  have hlen : (numsR l).length = l.length := by simp [numsR]
  have hg : ∀ k (hk : k < l.length), (numsR l).getD k [] = [.int (l[k] : Nat)] := by
    intro k hk
    simp [numsR, List.getD, hk]
  simp only [valW, itP]
  generalize numsR l = cc at *
  refine body [(12, .box 905)] Tryz.func66 Tryz.ntmps66 ?_
  refine gg ?_
  refine AWP.loopN cc.length (frI l cc) ?_ ?_
  · refine ⟨by simp [frI, slotsLe, getS, hlen], by simp [frI, subO, getO, linkP], by simp [frI, subL, namesSl, V.names, namesL, namesOb, Ob.names, XX_given]⟩
  intro k hkn
  unfold frI
  by_cases hk : k < cc.length
  · have hi : ((cc.length : Int) - 1 - k).toNat = l.length - (k + 1) := by omega
    have hlt : l.length - (k + 1) < l.length := by omega
    have ha := hg _ hlt
    have hd : l.drop (l.length - (k + 1)) = l[l.length - (k + 1)] :: l.drop (l.length - k) := by
      rw [List.drop_eq_getElem_cons hlt]
      congr 2
      omega
    have hz := lsize_ok (l.drop (l.length - k))
    have hzl : (l.drop (l.length - k)).length = k := by rw [List.length_drop]; omega
    have e1 : linkP (l.drop (l.length - (k + 1))) = .ptr [.int (l[l.length - (k + 1)] : Nat), .int ((k : Int) + 1), linkP (l.drop (l.length - k))] := by
      rw [hd, linkP, hzl]
      simp
    rw [hzl] at hz
    have hvt := vcells_one (linkP_one (l.drop (l.length - k)))
    have hvo : (V.pv (linkP (l.drop (l.length - k)))).one = true := by rw [one_pv]; exact linkP_one _
    have k1 : (0 : Int) ≤ (cc.length : Int) - 1 - k := by omega
    have k2 : (cc.length : Int) - 1 - k < cc.length := by omega
    have k3 : ((cc.length : Int) - 1 - k) - 1 = (cc.length : Int) - 1 - ((k + 1 : Nat) : Int) := by omega
    rw [e1]
    generalize linkP (l.drop (l.length - k)) = lk at *
    generalize l[l.length - (k + 1)] = a at *
    clear hg hd e1
    rw [← k3]
    rw [← hlen] at hi ha
    have k4 : k ≤ 100000 := by omega
    have k5 : cc.length ≤ 100000 := by omega
    clear k3 hlt hzl hlen hl
    refine gg ?_
    refine call hz ?_
    refine gg ?_
    refine ⟨by rfl, ?_⟩
    refine gg ?_
    refine ⟨hk, ?_, ?_, ?_⟩
    · simp [slotsLe, getS]
    · simp [subO, getO]
    · simp [subL, namesSl, V.names, namesL, namesOb, Ob.names, XX_given]
  · obtain rfl : k = cc.length := by omega
    have k1 : ¬ (0 : Int) ≤ (cc.length : Int) - 1 - cc.length := by omega
    have hd : l.drop (l.length - cc.length) = l := by rw [hlen]; simp
    rw [hd]
    have hvt := vcells_one (linkP_one l)
    have hvo : (V.pv (linkP l)).one = true := by rw [one_pv]; exact linkP_one _
    generalize linkP l = lk at *
    clear hg hd
    rw [hlen] at *
    clear hlen
    refine gg ?_
    refine ex_loop 1 (ex_round ?_)
    refine fb 905 (ps := [.int 2, .int 0, lk, .nil, .nil, .int 0, .nil, .int 0, .bool false]) ?_
    refine gg ?_
    exact ⟨by simp [retIs, resV, resL, resOne, mkTup, getS, getO, rdV, mkAgg, unL, V.un, TI.isAgg, XX_T, tt30, Tryz.f66], by simp [subO, getO, tt30, Tryz.f66]⟩
theorem from_base {B : Nat} (hB : B ≤ 100000) {r : Rs} {t : Ty} (h : RsT B r t) (hp : t = .nat ∨ t = .list ∨ t = .unit) : AC Tryz.prog gl 66 [.pv (.agg (valW r))] [] (.ret (.pv (itP (itOf r)))) [] := by
  rcases hp with rfl | rfl | rfl
  · cases h; exact from_num _
  · cases h with
    | list h1 h2 => exact from_list _ (by omega)
  · cases h; exact from_unit
theorem it_flat {B : Nat} {r : Rs} {t : Ty} (h : RsT B r t) (hp : t = .nat ∨ t = .list ∨ t = .unit) : (itOf r).more = 0 ∧ (itOf r).func = false := by
  rcases hp with rfl | rfl | rfl <;> cases h <;> exact ⟨rfl, rfl⟩
end Go.Proofs.YtodjpfpmhjdhbaaGreatDoor
/- Programs that are called with values, plainly. -/
namespace Go.Proofs.YtodjpfpmhjdhbaaGreatDoor
open Go.Lg
/-- below all frames lies that of a call from outside -/
def Bot (m : Ms) : Prop := ∃ fr fs, m.frames = fr :: fs ∧ fr.at_ = -1 ∧ fr.rd = none
def BotR : Res → Prop
  | .go m => Bot m
  | _ => True
theorem Bot.pop {m m' : Ms} {x : It} (hb : Bot m) (h : m.pop = some (x, m')) : Bot m' := by
  obtain ⟨s, -, rfl⟩ := pop_inv h
  exact hb
theorem Bot.enter {m : Ms} (hb : Bot m) (f a : It) (rd : Option (Nat × Rd)) : BotR (m.enter f a rd) := by
  obtain ⟨fr, fs, h1, h2, h3⟩ := hb
  unfold Ms.enter
  split
  · split
    · trivial
    · exact ⟨fr, fs ++ [_], by simp only [h1]; rfl, h2, h3⟩
  · trivial
theorem Bot.stopIf {m : Ms} (hb : Bot m) : BotR (stopIf m) := by
  unfold Go.Lg.stopIf
  split
  · exact hb
  · trivial
theorem Bot.leave {m : Ms} {r : Res} (hb : Bot m) (h : m.leave = some r) : BotR r := by
  unfold Ms.leave at h
  split at h
  · cases h
  · rename_i x m1 h1
    have hb1 := hb.pop h1
    split at h
    · cases h; trivial
    · rename_i fr m2 h2
      unfold Ms.popF at h2
      split at h2
      · rename_i y hy
        cases h2
        obtain ⟨f0, fs, e1, e2, e3⟩ := hb1
        cases fs with
        | nil =>
          rw [e1] at hy
          simp at hy
          subst hy
          rw [e3] at h
          simp only [Option.some.injEq] at h
          subst h
          unfold Go.Lg.stopIf
          rw [if_neg (by simp only [Ms.push, e2]; omega)]
          trivial
        | cons f1 fs =>
          have hb2 : ∀ x : It, Bot (Ms.push { m1 with frames := m1.frames.dropLast, fg := fr :: m1.fg, at_ := fr.at_, vars := fr.vars } x) := fun x => ⟨f0, (f1 :: fs).dropLast, by simp only [Ms.push, e1]; rfl, e2, e3⟩
          have hb3 : Bot { m1 with frames := m1.frames.dropLast, fg := fr :: m1.fg, at_ := fr.at_, vars := fr.vars } := ⟨f0, (f1 :: fs).dropLast, by simp only [e1]; rfl, e2, e3⟩
          split at h
          · cases h; exact (hb2 x).stopIf
          · split at h
            · cases h
            · cases h; exact (hb2 x).stopIf
            · cases h; exact hb3.enter _ _ _
      · cases h2
theorem Bot.recursion {m : Ms} {n : Nat} {b : Bool} {r : Res} (hb : Bot m) (h : m.recursion n b = some r) : BotR r := by
  unfold Ms.recursion at h
  split at h
  · cases h
  · rename_i x m1 h1
    split at h
    · cases h
    · rename_i f m2 h2
      split at h
      · cases h
      · rename_i b m3 h3
        have hb3 := ((hb.pop h1).pop h2).pop h3
        split at h
        · split at h
          · cases h; trivial
          · split at h
            · cases h; exact hb3
            · split at h
              · cases h; exact hb3.enter _ _ _
              · cases h
        · cases h; trivial
theorem Bot.made {m : Ms} (hb : Bot m) (x : It) : BotR (made m x) := by
  unfold Go.Lg.made
  split
  · trivial
  · exact hb
theorem Bot.exec {m : Ms} {n op a : Nat} {r : Res} (hb : Bot m) (h : m.exec n op a = some r) : BotR r := by
  unfold Ms.exec at h
  split at h
  · split at h <;> cases h
    · exact hb
    · trivial
  · cases h; exact hb.made _
  · split at h
    · cases h
    · rename_i x m1 h1
      split at h
      · cases h
      · rename_i f m2 h2
        cases h
        exact ((hb.pop h1).pop h2).enter _ _ _
  · cases h; exact hb
  · split at h
    · cases h
    · rename_i k m1 h1
      cases h; have h3 := hb.pop h1; exact h3
    · cases h; trivial
  · exact hb.recursion h
  · exact hb.recursion h
  · cases h; exact hb
  · split at h
    · cases h
    · rename_i x m1 h1
      split at h
      · cases h
      · rename_i f m2 h2
        split at h
        · split at h <;> cases h
          · trivial
          · have h3 := (hb.pop h1).pop h2; exact h3
        · cases h; trivial
  · split at h
    · cases h
    · rename_i x m1 h1
      split at h
      · cases h
      · rename_i f m2 h2
        cases h
        exact ((hb.pop h1).pop h2).made _
  · split at h
    · cases h
    · rename_i k _ m1 h1
      cases h; have h3 := hb.pop h1; exact h3
    · cases h; trivial
  · split at h
    · cases h
    · rename_i k _ m1 h1
      cases h; have h3 := hb.pop h1; exact h3
    · cases h; trivial
  · cases h; exact hb
  · exact hb.leave h
theorem Bot.step {m : Ms} {c : List Ins} {l n : Nat} {r : Res} (hb : Bot m) (h : m.step c l n = some r) : BotR r := by
  unfold Ms.step at h
  split at h
  · cases h; trivial
  · split at h
    · cases h
    · split at h
      · cases h
      · exact Bot.exec (m := { m with steps := m.steps + 1, at_ := m.at_ + 1 }) hb h
theorem Bot.ne {m : Ms} (hb : Bot m) : m.frames ≠ [] := by
  obtain ⟨fr, fs, h, -, -⟩ := hb
  rw [h]
  exact List.cons_ne_nil _ _
theorem drains_err {c : List Ins} {l e : Nat} {m : Ms} {r : Res} (h : Runs c l m r) : r = .err e → Bot m → Drains c l m (.err e) := by
  induction h with
  | stop _ => intro h; cases h
  | err hs => intro he hb; cases he; exact .err hb.ne hs
  | go hs _ ih => intro he hb; exact .go hb.ne hs (ih he (hb.step hs))
theorem drains_gos {c : List Ins} {l : Nat} {m m' : Ms} {r : Res} (h : Gos c l m m') : Bot m → (Bot m' → Drains c l m' r) → Drains c l m r := by
  induction h with
  | refl => intro hb h; exact h hb
  | step hs _ ih => intro hb h; exact .go hb.ne hs (ih (hb.step hs) h)
/-- a result is called with values, one after the other -/
inductive Apps : Rs → List Rs → Rs → Prop
  | nil {f} : Apps f [] f
  | cons {f r rs g q} : Ev (.ap f r) g → Apps g rs q → Apps f (r :: rs) q
/-- what comes of one call from outside -/
theorem ent_means {c : List Ins} {l : Nat} {F X : It} {f x r : Rs} (h : Ev (.ap f x) r) (m : Ms) (hs : m.stack = [F]) (hf : m.frames = []) (hF : VR c F f) (hX : VR c X x) :
    ∃ m1 m2, m.pop = some (F, m1) ∧ ({ m1 with at_ := -1 } : Ms).enter F X none = .go m2 ∧ ((∃ e, (e = 4 ∨ e = 5) ∧ Drains c l m2 (.err e)) ∨ ∃ m3 Y, Drains c l m2 (.stop m3) ∧ m3.stack = [Y] ∧ m3.frames = [] ∧ VR c Y r) := by
  have hm : Means c l (.ap f x) r := means h
  have hp := pop_eq (m := m) (s := []) (x := F) (by simpa using hs)
  cases h with
  | @ap b env x r hb =>
    cases hF with
    | @fn A e vs env b h1 h2 h3 h4 =>
      have hm2 := hm { m with stack := [], sg := .fn A vs :: m.sg, at_ := -1 } (.fn A vs) X none (.fn h1 h2 h3 h4) hX
      have hen : Ms.enter { m with stack := [], sg := .fn A vs :: m.sg, at_ := -1 } (.fn A vs) X none = .go { m with stack := [], sg := .fn A vs :: m.sg, frames := m.frames ++ [⟨-1, m.vars, .fn A vs, X, none⟩], fg := [], fv := m.fv + 1, at_ := A, vars := X :: vs } := by
        unfold Ms.enter
        dsimp only
        rw [if_neg (by simp [hf])]
      rw [hen] at hm2
      have hbot : Bot { m with stack := [], sg := .fn A vs :: m.sg, frames := m.frames ++ [⟨-1, m.vars, .fn A vs, X, none⟩], fg := [], fv := m.fv + 1, at_ := A, vars := X :: vs } := ⟨⟨-1, m.vars, .fn A vs, X, none⟩, [], by simp [hf], rfl, rfl⟩
      refine ⟨_, _, hp, hen, ?_⟩
      rcases hm2 with ⟨e, hr, he⟩ | ⟨m', g, hc⟩
      · exact .inl ⟨e, he, drains_err hr rfl hbot⟩
      · obtain ⟨Y, e', hY, hs', ha, hce, hf'⟩ := hc
        simp only [hf, List.nil_append] at hf' hs'
        by_cases hst : m'.steps = l
        · refine .inl ⟨5, .inr rfl, drains_gos g hbot (fun hb => .err hb.ne ?_)⟩
          unfold Ms.step
          rw [if_pos hst]
        · refine .inr ⟨_, Y, drains_gos g hbot (fun hb => .stop hb.ne (m' := Ms.push ⟨m'.steps + 1, [], Y :: m'.sg, m'.sv, [], ⟨-1, m.vars, .fn A vs, X, none⟩ :: m'.fg, m'.fv, -1, m.vars⟩ Y) ?_ (.done rfl)), rfl, rfl, hY⟩
          unfold Ms.step
          rw [if_neg hst, if_neg (by omega), ha, Int.toNat_natCast, hce]
          simp only [Ms.exec, Ms.leave]
          rw [pop_mk (s := []) (by simpa using hs')]
          simp only [Ms.popF, hf', List.getLast?_singleton]
          rfl
theorem ents_means {c : List Ins} {l : Nat} {f q : Rs} {rs : List Rs} (h : Apps f rs q) : ∀ (zs : List It) (m : Ms) (F : It), zs.length = rs.length → (∀ (i : Nat) (z : It) (r : Rs), zs[i]? = some z → rs[i]? = some r → VR c z r) → m.stack = [F] → m.frames = [] → VR c F f →
    (∃ e, (e = 4 ∨ e = 5) ∧ Ents c l m zs (.err e)) ∨ ∃ m1 Y, Ents c l m zs (.stop m1) ∧ m1.stack = [Y] ∧ VR c Y q := by
  induction h with
  | nil =>
    intro zs m F hz _ hs _ hF
    obtain rfl : zs = [] := List.eq_nil_of_length_eq_zero (by simpa using hz)
    exact .inr ⟨m, F, .nil, hs, hF⟩
  | cons h1 _ ih =>
    intro zs m F hz hv hs hf hF
    match zs, hz with
    | z :: zs, hz =>
      obtain ⟨m1, m2, e1, e2, h3⟩ := ent_means (l := l) h1 m hs hf hF (hv 0 z _ rfl rfl)
      rcases h3 with ⟨e, he, hd⟩ | ⟨m3, Y, hd, hs3, hf3, hY⟩
      · exact .inl ⟨e, he, .bad e1 e2 hd⟩
      · rcases ih zs m3 Y (by simpa using hz) (fun i z r h1 h2 => hv (i + 1) z r (by simpa using h1) (by simpa using h2)) hs3 hf3 hY with ⟨e, he, h⟩ | ⟨m4, Z, h4, h5, h6⟩
        · exact .inl ⟨e, he, .cons e1 e2 hd h⟩
        · exact .inr ⟨m4, Z, .cons e1 e2 hd h4, h5, h6⟩
/-- what comes of a program that is called with values -/
theorem calls_means {t : Tm} {f q : Rs} {rs : List Rs} (ht : Ev (.ev [] t) f) (h : Apps f rs q) (l : Nat) (zs : List It) (hz : zs.length = rs.length) (hv : ∀ (i : Nat) (z : It) (r : Rs), zs[i]? = some z → rs[i]? = some r → VR (finC t).code z r) :
    (∃ e, (e = 4 ∨ e = 5) ∧ (Runs (finC t).code l ms0 (.err e) ∨ ∃ m, Runs (finC t).code l ms0 (.stop m) ∧ Ents (finC t).code l m zs (.err e))) ∨
    ∃ m m1 Y, Runs (finC t).code l ms0 (.stop m) ∧ Ents (finC t).code l m zs (.stop m1) ∧ m1.stack = [Y] ∧ VR (finC t).code Y q := by
  obtain ⟨h1, h2⟩ := fin_TA t
  have hm : Means (finC t).code l (.ev [] t) f := means ht
  rcases hm 0 _ ms0 h1 rfl ⟨rfl, by intro i x r h; simp [ms0] at h⟩ with ⟨e, hr, he⟩ | ⟨m', g, x, hx, hs, ha, hva, hf⟩
  · exact .inl ⟨e, he, .inl hr⟩
  have hs' : m'.stack = [] ++ [x] := hs
  have hf' : m'.frames = [] := hf
  by_cases hl : m'.steps = l
  · refine .inl ⟨5, .inr rfl, .inl (g.runs (.err ?_))⟩
    unfold Ms.step
    rw [if_pos hl]
  · have hstep : m'.step (finC t).code l (1000 + m'.steps) = some (.stop (Ms.push ⟨m'.steps + 1, [], x :: m'.sg, m'.sv, m'.frames, m'.fg, m'.fv, m'.at_ + 1, m'.vars⟩ x)) := by
      unfold Ms.step
      rw [if_neg hl, if_neg (by omega), ha, Int.toNat_natCast, h2]
      simp only [Ms.exec, Ms.leave]
      rw [pop_mk hs']
      simp only [Ms.popF, hf', List.getLast?_nil]
    rcases ents_means (l := l) h zs (Ms.push ⟨m'.steps + 1, [], x :: m'.sg, m'.sv, m'.frames, m'.fg, m'.fv, m'.at_ + 1, m'.vars⟩ x) x hz hv rfl hf' hx with ⟨e, he, h3⟩ | ⟨m1, Y, h3, h4, h5⟩
    · exact .inl ⟨e, he, .inr ⟨_, g.runs (.stop hstep), h3⟩⟩
    · exact .inr ⟨_, m1, Y, g.runs (.stop hstep), h3, h4, h5⟩
/-- bounds along calls -/
theorem drains_okm {c : List Ins} {l b : Nat} {m : Ms} {r : Res} (h : Drains c l m r) : ∀ m', r = .stop m' → Okm (b + m.steps) m → Okm (b + m'.steps) m' := by
  have aux : ∀ {m m1 : Ms}, Okm (b + m.steps) m → (m.step c l (1000 + m.steps) = some (.go m1) ∨ m.step c l (1000 + m.steps) = some (.stop m1)) → Okm (b + m1.steps) m1 := by
    intro m m1 ho hs
    rcases hs with hs | hs
    all_goals
      have h1 := (step_steps hs).1
      simp only [Sts] at h1
      have := ho.step hs
      simp only [Okr] at this
      rw [h1]
      exact this
  induction h with
  | done _ => intro m' e ho; cases e; exact ho
  | err _ _ => intro m' e; cases e
  | go _ hs _ ih => intro m' e ho; exact ih m' e (aux ho (.inl hs))
  | stop _ hs _ ih => intro m' e ho; exact ih m' e (aux ho (.inr hs))
theorem ents_okm {c : List Ins} {l b : Nat} {m : Ms} {zs : List It} {r : Res} (h : Ents c l m zs r) : ∀ m', r = .stop m' → (∀ a ∈ zs, Bd b a) → Okm (b + m.steps) m → Okm (b + m'.steps) m' := by
  induction h with
  | nil => intro m' e _ ho; cases e; exact ho
  | bad _ _ _ => intro m' e; cases e
  | @cons m m1 m2 m3 f a zs r hp he hd _ ih =>
    intro m' e ha ho
    refine ih m' e (fun x hx => ha x (List.mem_cons_of_mem _ hx)) ?_
    have h1 := ho.pop hp
    have e1 := Sts.pop hp
    have ho1 : Okm (b + m.steps) ({ m1 with at_ := -1 } : Ms) := ⟨h1.2.1.stack, h1.2.1.len, h1.2.1.vars, h1.2.1.inside, h1.2.1.frames, h1.2.1.few⟩
    have ho2 := ho1.enter h1.1 ((ha a (List.mem_cons_self ..)).mono (by omega)) (fun n r h => by cases h) he
    have e2 := Sts.enter ({ m1 with at_ := -1 } : Ms) f a none
    rw [he] at e2
    simp only [Sts] at e2
    refine drains_okm hd m3 rfl ?_
    rw [e2, e1]
    exact ho2
end Go.Proofs.YtodjpfpmhjdhbaaGreatDoor
/- run.Check, run.Returned and run.Call with one or two values. -/
namespace Go.Proofs.YtodjpfpmhjdhbaaGreatDoor
open Go.Lg
set_option maxRecDepth 10000
set_option maxHeartbeats 4000000
theorem from_two (a b : List PV) (x y : It) (hx : x.more = 0 ∧ x.func = false) (hy : y.more = 0 ∧ y.func = false) (sa : ∃ k n s, a = [.int k, .int n, s, .nils] ∧ s.one = true) (sb : ∃ k n s, b = [.int k, .int n, s, .nils] ∧ s.one = true)
    (h1 : AC Tryz.prog gl 66 [.pv (.agg a)] [] (.ret (.pv (itP x))) []) (h2 : AC Tryz.prog gl 66 [.pv (.agg b)] [] (.ret (.pv (itP y))) []) :
    AC Tryz.prog gl 66 [.pv (.agg [.int 3, .int 0, .slice [], .slice [a, b]])] [] (.ret (.pv (itP (.pair x y)))) [] := by
  obtain ⟨k5, n5, s5, rfl, o5⟩ := sa
  obtain ⟨k6, n6, s6, rfl, o6⟩ := sb
  have w5 := vcells_one o5
  have w6 := vcells_one o6
  have v5 : (V.pv s5).one = true := by rw [one_pv]; exact o5
  have v6 : (V.pv s6).one = true := by rw [one_pv]; exact o6
  rw [itP_eq x] at h1
  rw [itP_eq y] at h2
  simp only [itP]
  rw [itP_eq x, itP_eq y]
  simp only [hx.1, hx.2, hy.1, hy.2, Nat.add_zero, Bool.or_self, Int.cast_ofNat_Int] at *
  have a1 := vcells_one (list0_one x)
  have a2 := vcells_one (fst0_one x)
  have a3 := vcells_one (snd0_one x)
  have a4 := vcells_one (vars0_one x)
  have b1 := vcells_one (list0_one y)
  have b2 := vcells_one (fst0_one y)
  have b3 := vcells_one (snd0_one y)
  have b4 := vcells_one (vars0_one y)
  generalize x.list0 = xl at *
  generalize x.fst0 = xf at *
  generalize x.snd0 = xs at *
  generalize x.vars0 = xv at *
  generalize y.list0 = yl at *
  generalize y.fst0 = yf at *
  generalize y.snd0 = ys at *
  generalize y.vars0 = yv at *
  refine body [(12, .box 905)] Tryz.func66 Tryz.ntmps66 ?_
  refine gg ?_
  refine ex_loop 1 (ex_round ?_)
  refine gg ?_
  refine ex_loop 3 (ex_round ?_)
  refine gg ?_
  refine call h1 ?_
  refine gg ?_
  refine ⟨by rfl, ?_⟩
  refine gg ?_
  refine ⟨by rfl, ?_⟩
  refine gg ?_
  refine ex_round ?_
  refine kp [1, 2, 3, 42, 43, 44] [905] ?_
  refine gg ?_
  refine call h2 ?_
  refine gg ?_
  refine ⟨by rfl, ?_⟩
  refine gg ?_
  refine ⟨by rfl, ?_⟩
  refine gg ?_
  refine ex_round ?_
  refine fb 905 (ps := [.int 3, .int 0, .nil, .ptr [.int x.kind, .int x.num0, xl, xf, xs, .int x.at0, xv, .int 0, .bool false], .ptr [.int y.kind, .int y.num0, yl, yf, ys, .int y.at0, yv, .int 0, .bool false], .int 0, .nil, .int 2, .bool false]) ?_
  refine gg ?_
  exact ⟨by simp [retIs, resV, resL, resOne, mkTup, getS, getO, rdV, mkAgg, unL, V.un, TI.isAgg, XX_T, tt30, Tryz.f66], by simp [subO, getO, tt30, Tryz.f66]⟩
/-- run.from of a value -/
theorem from_ok {B : Nat} (hB : B ≤ 100000) {r : Rs} {t : Ty} (h : RsT B r t) (hp : t.plain) : AC Tryz.prog gl 66 [.pv (.agg (valW r))] [] (.ret (.pv (itP (itOf r)))) [] := by
  rcases plain_cases hp with hb | ⟨s, hb, rfl⟩
  · exact from_base hB h hb
  · cases h with
    | @pair a b _ _ ha hb' =>
      have hb2 : s = .nat ∨ s = .list ∨ s = .unit := by rcases hb with rfl | rfl <;> simp
      exact from_two _ _ _ _ (it_flat ha (.inl rfl)) (it_flat hb' hb2) (valW_shape ha (.inl rfl)) (valW_shape hb' hb2) (from_base hB ha (.inl rfl)) (from_base hB hb' hb2)
end Go.Proofs.YtodjpfpmhjdhbaaGreatDoor
