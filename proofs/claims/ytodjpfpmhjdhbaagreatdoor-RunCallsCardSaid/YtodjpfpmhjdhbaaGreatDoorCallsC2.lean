/- Part of the proof: contracts of the types, terms, the generator and the compiler; no conditions. -/
import Derived.Test.YtodjpfpmhjdhbaaGreatDoorCallsC1
set_option linter.unusedVariables false
set_option linter.unusedSimpArgs false
set_option linter.unusedSectionVars false
namespace Go.Proofs.YtodjpfpmhjdhbaaGreatDoor
open Go.Lg
inductive Ty where
  | zero | nat | list | unit
  | pair (a b : Ty)
  | fn (a b : Ty)
deriving DecidableEq
def Ty.kind : Ty → Int
  | .zero => 0 | .nat => 1 | .list => 2 | .unit => 5 | .pair _ _ => 3 | .fn _ _ => 4
def Ty.args : Ty → List Ty
  | .pair a b => [a, b]
  | .fn a b => [a, b]
  | _ => []
def Ty.cells : Ty → List PV
  | .zero => [.int 0, .slice []]
  | .nat => [.int 1, .slice []]
  | .list => [.int 2, .slice []]
  | .unit => [.int 5, .slice []]
  | .pair a b => [.int 3, .slice [a.cells, b.cells]]
  | .fn a b => [.int 4, .slice [a.cells, b.cells]]
theorem Ty.cells_eq (t : Ty) : t.cells = [.int t.kind, .slice (t.args.map Ty.cells)] := by cases t <;> rfl
theorem Ty.ind {P : Ty → Prop} (h : ∀ t, (∀ a ∈ t.args, P a) → P t) (t : Ty) : P t := by
  induction t with
  | pair a b ha hb => exact h _ (by simp [Ty.args, ha, hb])
  | fn a b ha hb => exact h _ (by simp [Ty.args, ha, hb])
  | _ => exact h _ (by simp [Ty.args])
theorem Ty.args_le (t : Ty) : t.args.length ≤ 2 := by cases t <;> simp [Ty.args]
theorem Ty.cells_len (t : Ty) : t.cells.length = 2 := by cases t <;> rfl
theorem Ty.all_len (l : List Ty) : ∀ y ∈ l.map Ty.cells, y.length = 2 := by
  intro y hy
  obtain ⟨t, _, rfl⟩ := List.mem_map.1 hy
  exact t.cells_len
set_option maxRecDepth 10000 in
theorem copy_ok (t : Ty) : AC Tryz.prog gl 103 [.pv (.agg t.cells)] [] (.ret (.pv (.agg t.cells))) [] := by
  induction t using Ty.ind with
  | _ t ih =>
    refine body [(3, .arr 3 2 27)] Tryz.func103 Tryz.ntmps103 ?_
    rw [Ty.cells_eq]
    refine gg ?_
    refine AWP.loopN t.args.length (fun k => ⟨[(1, .pv (.ptr [.int t.kind, .slice (t.args.map Ty.cells)])), (2, .loc 2 0), (3, .arr 3 k k), (7, .pv (.slice (t.args.map Ty.cells))), (8, .pv (.int t.args.length)), (9, .pv (.int k))],
      [(2, .box [.pv (.int 0), .pv (.slice [])]), (3, .arr k 2 27 (pvE ((t.args.take k).map Ty.cells)))], [2, 3]⟩) ⟨by simp [slotsLe, getS, pvE], by simp [subO, getO, pvE], by simp [subL, namesSl, V.names, namesOb, Ob.names, namesL, namesE, namesE_pvE, XX_given, pvE]⟩ ?_
    intro k hk
    have hl := t.args_le
    refine gg ?_
    refine cd ?_
    refine caseB_dec (fun h => ?_) (fun h => ?_)
    · have hk : k < t.args.length := by omega
      have hget : (t.args.map Ty.cells).getD k [] = (t.args[k]).cells := by simp [List.getD, hk]
      have hmem : t.args[k] ∈ t.args := List.getElem_mem hk
      have hsn : t.args.take (k + 1) = t.args.take k ++ [t.args[k]] := by simp
      generalize t.args[k] = a at hget hmem hsn
      rw [Ty.cells_eq] at hget
      refine gg ?_
      (refine runOps_ev rfl (by simp only [↓evalSeq, ↓evalR_some, ↓evalO_call, ↓evalO_none, ↓evalO_some, ↓evalG_tt, ↓evalG_ff, ↓evalG_tf, ↓evalG_ft, ↓evalG_sk, isCall, ↓cond_true, ↓cond_false, gv, stepOp, stepMove, stepLoad, stepStore, stepIndex, stepLen, stepAppend, stepSlice, stepBin, stepInt, stepEq, srcOf, addrOff, TK.isIface, stepRow, stepUpdate, placesA, PV.nonint, List.any_cons, List.any_nil, Bool.or_true, Bool.true_or, Bool.or_false, Bool.false_or, rdP, rdV, TI.isAgg, boolR, mkAgg, mkSlice, unL, unE, V.un, vc_int, vo_int, po_int, vc_bool, vo_bool, po_bool, vc_nil, vo_nil, po_nil, vc_nils, vo_nils, po_nils, vc_nilfn, vo_nilfn, po_nilfn, vc_nilm, vo_nilm, po_nilm, vc_nilif, vo_nilif, po_nilif, vc_ptr, vo_ptr, po_ptr, vc_slice, vo_slice, po_slice, vc_iface, vo_iface, po_iface, vc_loc, vo_loc, vc_eloc, vo_eloc, vc_arr, vo_arr, vc_map, vo_map, vc_vsl, vo_vsl, vc_fn, vo_fn, vc_agg, vc_aggv, pc_int, pc_bool, pc_nil, pc_nils, pc_nilfn, pc_nilm, pc_nilif, pc_ptr, pc_slice, pc_iface, pc_agg, fillV, sliceParts, putL, St.val, getS, getO, setO, delO, updAll, updO, St.eff, R.eff, R.of, R.ofIf, Env1.note, cst, putS, dstOK, freshL, zipArgs, pvL, skipE, ↓reduceIte, Nat.reduceEqDiff, Nat.reduceLT, Nat.reduceLeDiff, Nat.reduceAdd, Nat.reduceSub, Nat.reduceMul, Int.reduceToNat, Int.toNat_natCast, and_true, true_and, false_and, and_self, forall_const, true_implies, implies_true, not_false_eq_true, not_true_eq_false, List.mem_cons, List.not_mem_nil, or_false, or_self, false_or, List.length_cons, List.length_nil, List.map_cons, List.map_nil, List.nil_append, List.cons_append, List.append_nil, List.take_zero, List.take_succ_cons, List.drop_zero, List.drop_succ_cons, List.take_nil, List.drop_nil, List.getElem?_cons_zero, List.getElem?_cons_succ, List.getElem?_nil, Option.map_some, Option.map_none, Bool.not_true, Bool.not_false, List.all_cons, List.all_nil, Bool.and_self, Bool.true_and, Bool.and_true, reduceCtorEq, Option.some.injEq, List.getD_cons_zero, List.getD_cons_succ, decide_true, decide_false, Nat.succ_ne_self, Nat.zero_add, Nat.add_zero, pvE_take, pvE_get, pvE_app, pvE_len, pvE_all, pvE_one, unE_pvE, List.forall_mem_cons, List.mem_singleton, forall_eq, List.mem_nil_iff, false_implies, hget, XX_T, XX_gl, XX_nm, XX_nt, noteD, noteOf, tt27, tt25, tt3]; rfl) ?_ ?_; simp only [buildC, and_true, true_and, implies_true, true_implies, and_self])
      · exact ⟨by omega, by simpa using h, Ty.all_len _⟩
      refine gg ?_
      have := ih a hmem
      rw [Ty.cells_eq] at this
      refine call this ?_
      (refine ev ?_ ?_; simp only [buildC, and_true, true_and, implies_true, true_implies, and_self])
      · simp [maxLen]; omega
      refine gg ?_
      exact ⟨hk, ⟨by simp [slotsLe, getS, hsn, Ty.cells_eq, List.take_take], by simp [subO, getO, hsn, Ty.cells_eq, List.take_take], by simp [subL, namesSl, V.names, namesOb, Ob.names, namesL, namesE, namesE_pvE, XX_given, hsn, Ty.cells_eq, List.take_take]⟩⟩
    · (repeat (first | refine ex_exit ?_ | refine q_exit ?_ | refine b_same ?_ | refine q_normal ?_))
      refine frz 3 ?_
      refine gg ?_
      have hkk : k = t.args.length := by omega
      subst hkk
      have e : (t.args.map Ty.cells).take t.args.length = t.args.map Ty.cells := by rw [← List.map_take, List.take_length]
      exact ⟨by simp [retIs, resV, resL, resOne, mkTup, getS, getO, rdV, mkAgg, unL, V.un, TI.isAgg, XX_T, tt27, Tryz.f103, e], by simp [subO, getO, tt27, Tryz.f103, e]⟩
end Go.Proofs.YtodjpfpmhjdhbaaGreatDoor
namespace Go.Proofs.YtodjpfpmhjdhbaaGreatDoor
open Go.Lg
set_option maxRecDepth 10000
theorem nat_ok : AC Tryz.prog gl 67 [] [] (.ret (.pv (.agg Ty.nat.cells))) [] := by
  refine body [] Tryz.func67 Tryz.ntmps67 ?_
  refine gg ?_
  exact ⟨by simp [retIs, resV, resL, resOne, mkTup, getS, getO, rdV, mkAgg, unL, V.un, TI.isAgg, XX_T, tt27, Tryz.f67, Ty.cells], by simp [subO, getO, tt27, Tryz.f67, Ty.cells]⟩
theorem two_ok (a b : Ty) : AC Tryz.prog gl 70 [.pv (.agg a.cells), .pv (.agg b.cells)] [] (.ret (.pv (.agg (Ty.pair a b).cells))) [] := by
  refine body [] Tryz.func70 Tryz.ntmps70 ?_
  have ha := copy_ok a
  have hb := copy_ok b
  simp only [Ty.cells]
  rw [a.cells_eq] at ha ⊢
  rw [b.cells_eq] at hb ⊢
  refine gg ?_
  refine call ha ?_
  refine gg ?_
  refine call hb ?_
  refine gg ?_
  refine ⟨by rfl, ?_⟩
  refine gg ?_
  exact ⟨by simp [retIs, resV, resL, resOne, mkTup, getS, getO, rdV, mkAgg, unL, V.un, TI.isAgg, XX_T, tt27, Tryz.f70, Ty.cells, Ty.cells_eq], by simp [subO, getO, tt27, Tryz.f70, Ty.cells, Ty.cells_eq]⟩
theorem list_ok : AC Tryz.prog gl 68 [] [] (.ret (.pv (.agg Ty.list.cells))) [] := by
  refine body [] Tryz.func68 Tryz.ntmps68 ?_
  refine gg ?_
  exact ⟨by simp [retIs, resV, resL, resOne, mkTup, getS, getO, rdV, mkAgg, unL, V.un, TI.isAgg, XX_T, tt27, Tryz.f68, Ty.cells], by simp [subO, getO, tt27, Tryz.f68, Ty.cells]⟩
theorem unit_ok : AC Tryz.prog gl 69 [] [] (.ret (.pv (.agg Ty.unit.cells))) [] := by
  refine body [] Tryz.func69 Tryz.ntmps69 ?_
  refine gg ?_
  exact ⟨by simp [retIs, resV, resL, resOne, mkTup, getS, getO, rdV, mkAgg, unL, V.un, TI.isAgg, XX_T, tt27, Tryz.f69, Ty.cells], by simp [subO, getO, tt27, Tryz.f69, Ty.cells]⟩
theorem zero_ok (t : Ty) : AC Tryz.prog gl 110 [.pv (.agg t.cells)] [] (.ret (.pv (.bool (decide (t = .zero))))) [] := by
  refine body [] Tryz.func110 Tryz.ntmps110 ?_
  rw [Ty.cells_eq]
  cases t <;> simp only [Ty.kind, Ty.args, List.map_cons, List.map_nil]
  all_goals refine gg ?_
  all_goals exact ⟨by simp [retIs, resV, resL, resOne, mkTup, getS, getO, rdV, mkAgg, unL, V.un, TI.isAgg, XX_T, tt27, tt3, tt4, Tryz.f110, Ty.cells], by simp [subO, getO, tt27, tt3, tt4, Tryz.f110, Ty.cells]⟩
end Go.Proofs.YtodjpfpmhjdhbaaGreatDoor
namespace Go.Proofs.YtodjpfpmhjdhbaaGreatDoor
open Go.Lg
set_option maxRecDepth 10000
def Ty.ok : Ty → Bool
  | .zero => false
  | .pair a b => a.ok && b.ok
  | .fn a b => a.ok && b.ok
  | _ => true
def Ty.size : Ty → Nat
  | .pair a b => 1 + a.size + b.size
  | .fn a b => 1 + a.size + b.size
  | _ => 1
def Ty.sizes (l : List Ty) : Nat := (l.map Ty.size).sum
theorem Ty.size_eq (t : Ty) : t.size = 1 + Ty.sizes t.args := by cases t <;> simp [Ty.size, Ty.sizes, Ty.args] <;> omega
theorem getD_map {α β : Type} {l : List α} {f : α → β} {d : β} {k : Nat} {a : α} (h : l[k]? = some a) : (l.map f).getD k d = f a := by
  simp [List.getD, h]
theorem take_snoc {α : Type} {l : List α} {k : Nat} {a : α} (h : l[k]? = some a) : l.take (k + 1) = l.take k ++ [a] := by
  rw [List.take_add_one, h]; rfl

theorem sizes_le (l : List Ty) (k : Nat) : Ty.sizes (l.take k) ≤ Ty.sizes l := by
  conv => rhs; rw [← List.take_append_drop k l]
  simp only [Ty.sizes, List.map_append, List.sum_append]; omega
theorem size_ok (t : Ty) (hs : t.size ≤ 1000) : AC Tryz.prog gl 120 [.pv (.agg t.cells)] [] (.ret (.pv (.int t.size))) [] := by
  induction t using Ty.ind with
  | _ t ih =>
    refine body [] Tryz.func120 Tryz.ntmps120 ?_
    rw [Ty.cells_eq]
    refine gg ?_
    refine AWP.loopN t.args.length (fun k => ⟨[(3, .pv (.int (1 + Ty.sizes (t.args.take k)))), (7, .pv (.slice (t.args.map Ty.cells))), (8, .pv (.int t.args.length)), (9, .pv (.int k))],
      [], []⟩) ⟨by simp [slotsLe, getS, Ty.sizes], by simp [subO, getO, Ty.sizes], by simp [subL, namesSl, V.names, namesOb, Ob.names, namesL, namesE, namesE_pvE, XX_given, Ty.sizes]⟩ ?_
    intro k hk
    have hl := t.args_le
    refine gg ?_
    refine cd ?_
    refine caseB_dec (fun h => ?_) (fun h => ?_)
    · obtain ⟨a, hka⟩ : ∃ a, t.args[k]? = some a := ⟨_, List.getElem?_eq_getElem (by omega)⟩
      have hget := getD_map (f := Ty.cells) (d := []) hka
      have hsn := take_snoc hka
      have hmem := List.mem_of_getElem? hka
      have hsz : Ty.sizes (t.args.take (k + 1)) = Ty.sizes (t.args.take k) + a.size := by rw [hsn]; simp [Ty.sizes]
      have hle := sizes_le t.args (k + 1)
      have hh := t.size_eq
      have := ih a hmem (by omega)
      rw [Ty.cells_eq] at this hget
      clear ih
      refine gg ?_
      (refine ev ?_ ?_; simp only [buildC, and_true, true_and, implies_true, true_implies, and_self])
      · exact ⟨by omega, by simpa using h, Ty.all_len _⟩
      refine gg ?_
      refine call this ?_
      refine gg ?_
      exact ⟨by omega, ⟨by simp [slotsLe, getS, hsz, Int.add_assoc], by simp [subO, getO, hsz, Int.add_assoc], by simp [subL, namesSl, V.names, namesOb, Ob.names, namesL, namesE, namesE_pvE, XX_given, hsz, Int.add_assoc]⟩⟩
    · have hkk : k = t.args.length := by omega
      subst hkk
      have hh := t.size_eq
      refine gg ?_
      exact ⟨by simp [retIs, resV, resL, resOne, mkTup, getS, getO, rdV, mkAgg, unL, V.un, TI.isAgg, XX_T, tt27, Tryz.f120, hh], by simp [subO, getO, tt27, Tryz.f120, hh]⟩
theorem shape_ok (t : Ty) (hs : t.ok = true) : AC Tryz.prog gl 119 [.pv (.agg t.cells)] [] (.ret (.pv (.bool true))) [] := by
  induction t with
  | zero => simp [Ty.ok] at hs
  | pair a b iha ihb | fn a b iha ihb =>
    simp only [Ty.ok, Bool.and_eq_true] at hs
    have ha := iha hs.1
    have hb := ihb hs.2
    clear iha ihb hs
    refine body [] Tryz.func119 Tryz.ntmps119 ?_
    simp only [Ty.cells]
    rw [a.cells_eq] at ha ⊢
    rw [b.cells_eq] at hb ⊢
    refine gg ?_
    refine ex_loop 3 (ex_round (kp [2, 21, 22, 23] [] ?_))
    refine gg ?_
    refine call ha ?_
    refine gg ?_
    refine ex_round (kp [2, 21, 22, 23] [] ?_)
    refine gg ?_
    refine call hb ?_
    refine gg ?_
    refine ex_round (kp [2, 21, 22, 23] [] ?_)
    refine gg ?_
    exact ⟨by simp [retIs, resV, resL, resOne, mkTup, getS, getO, rdV, mkAgg, unL, V.un, TI.isAgg, XX_T, tt27, Tryz.f119], by simp [subO, getO, tt27, Tryz.f119]⟩
  | _ =>
    refine body [] Tryz.func119 Tryz.ntmps119 ?_
    simp only [Ty.cells]
    refine gg ?_
    refine ex_loop 3 (ex_round ?_)
    refine gg ?_
    exact ⟨by simp [retIs, resV, resL, resOne, mkTup, getS, getO, rdV, mkAgg, unL, V.un, TI.isAgg, XX_T, tt27, Tryz.f119], by simp [subO, getO, tt27, Tryz.f119]⟩
theorem tycheck_ok (t : Ty) (hs : t.ok = true) (hz : t.size ≤ 64) : AC Tryz.prog gl 89 [.pv (.agg t.cells)] [] (.ret (.pv (.int 0))) [] := by
  have h1 := shape_ok t hs
  have h2 := size_ok t (by omega)
  refine body [] Tryz.func89 Tryz.ntmps89 ?_
  rw [Ty.cells_eq] at h1 h2 ⊢
  refine gg ?_
  refine call h1 ?_
  refine gg ?_
  refine call h2 ?_
  have h3 : ¬ (64 : Int) < t.size := by omega
  refine gg ?_
  exact ⟨by simp [retIs, resV, resL, resOne, mkTup, getS, getO, rdV, mkAgg, unL, V.un, TI.isAgg, XX_T, tt27, Tryz.f89], by simp [subO, getO, tt27, Tryz.f89]⟩
end Go.Proofs.YtodjpfpmhjdhbaaGreatDoor
namespace Go.Proofs.YtodjpfpmhjdhbaaGreatDoor
open Go.Lg
set_option maxRecDepth 10000
theorem same_base (k : Int) : AC Tryz.prog gl 49 [.pv (.agg [.int k, .slice []]), .pv (.agg [.int k, .slice []])] [] (.ret (.pv (.bool true))) [] := by
  refine body [] Tryz.func49 Tryz.ntmps49 ?_
  refine gg ?_
  refine ex_loop 3 (ex_round ?_)
  refine gg ?_
  exact ⟨by simp [retIs, resV, resL, resOne, mkTup, getS, getO, rdV, mkAgg, unL, V.un, TI.isAgg, XX_T, tt27, Tryz.f49], by simp [subO, getO, tt27, Tryz.f49]⟩
theorem same_kinds (k m : Int) (x y : List (List PV)) (h : ¬ k = m) : AC Tryz.prog gl 49 [.pv (.agg [.int k, .slice x]), .pv (.agg [.int m, .slice y])] [] (.ret (.pv (.bool false))) [] := by
  refine body [] Tryz.func49 Tryz.ntmps49 ?_
  refine gg ?_
  exact ⟨by simp [retIs, resV, resL, resOne, mkTup, getS, getO, rdV, mkAgg, unL, V.un, TI.isAgg, XX_T, tt27, Tryz.f49], by simp [subO, getO, tt27, Tryz.f49]⟩
theorem same_two (k : Int) (a b c d : Ty) (h1 : AC Tryz.prog gl 49 [.pv (.agg a.cells), .pv (.agg c.cells)] [] (.ret (.pv (.bool (decide (a = c))))) [])
    (h2 : AC Tryz.prog gl 49 [.pv (.agg b.cells), .pv (.agg d.cells)] [] (.ret (.pv (.bool (decide (b = d))))) []) :
    AC Tryz.prog gl 49 [.pv (.agg [.int k, .slice [a.cells, b.cells]]), .pv (.agg [.int k, .slice [c.cells, d.cells]])] [] (.ret (.pv (.bool (decide (a = c ∧ b = d))))) [] := by
  refine body [] Tryz.func49 Tryz.ntmps49 ?_
  rw [a.cells_eq, c.cells_eq] at h1
  rw [b.cells_eq, d.cells_eq] at h2
  rw [a.cells_eq, b.cells_eq, c.cells_eq, d.cells_eq]
  refine gg ?_
  refine ex_loop 3 (ex_round (kp [2, 3, 4, 22, 23] [] ?_))
  refine gg ?_
  refine call h1 ?_
  by_cases e1 : a = c
  · simp only [e1, decide_true]
    refine gg ?_
    refine ⟨by rfl, ?_⟩
    refine gg ?_
    refine ex_round (kp [2, 3, 4, 22, 23] [] ?_)
    refine gg ?_
    refine call h2 ?_
    by_cases e2 : b = d
    · simp only [e2, decide_true]
      refine gg ?_
      refine ⟨by rfl, ?_⟩
      refine gg ?_
      refine ex_round (kp [2, 3, 4, 22, 23] [] ?_)
      refine gg ?_
      exact ⟨by simp [retIs, resV, resL, resOne, mkTup, getS, getO, rdV, mkAgg, unL, V.un, TI.isAgg, XX_T, tt27, Tryz.f49], by simp [subO, getO, tt27, Tryz.f49]⟩
    · simp only [e2, decide_false]
      refine gg ?_
      refine ⟨by rfl, ?_⟩
      refine gg ?_
      exact ⟨by simp [retIs, resV, resL, resOne, mkTup, getS, getO, rdV, mkAgg, unL, V.un, TI.isAgg, XX_T, tt27, Tryz.f49], by simp [subO, getO, tt27, Tryz.f49]⟩
  · simp only [e1, decide_false]
    refine gg ?_
    refine ⟨by rfl, ?_⟩
    refine gg ?_
    exact ⟨by simp [retIs, resV, resL, resOne, mkTup, getS, getO, rdV, mkAgg, unL, V.un, TI.isAgg, XX_T, tt27, Tryz.f49], by simp [subO, getO, tt27, Tryz.f49]⟩
theorem same_ok (t : Ty) : ∀ (u : Ty), AC Tryz.prog gl 49 [.pv (.agg t.cells), .pv (.agg u.cells)] [] (.ret (.pv (.bool (decide (t = u))))) [] := by
  induction t with
  | pair a b iha ihb =>
    intro u
    cases u with
    | pair c d => simpa [Ty.cells] using same_two 3 a b c d (iha c) (ihb d)
    | _ => simpa [Ty.cells] using same_kinds _ _ _ _ (by decide)
  | fn a b iha ihb =>
    intro u
    cases u with
    | fn c d => simpa [Ty.cells] using same_two 4 a b c d (iha c) (ihb d)
    | _ => simpa [Ty.cells] using same_kinds _ _ _ _ (by decide)
  | _ =>
    intro u
    cases u <;> first | (simpa [Ty.cells] using same_base _) | (simpa [Ty.cells] using same_kinds _ _ _ _ (by decide))
end Go.Proofs.YtodjpfpmhjdhbaaGreatDoor
