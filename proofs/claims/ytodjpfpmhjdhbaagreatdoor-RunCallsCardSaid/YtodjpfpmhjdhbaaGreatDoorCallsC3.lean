/- Part of the proof: contracts of the types, terms, the generator and the compiler; no conditions. -/
import Derived.Test.YtodjpfpmhjdhbaaGreatDoorCallsC2
set_option linter.unusedVariables false
set_option linter.unusedSimpArgs false
set_option linter.unusedSectionVars false
namespace Go.Proofs.YtodjpfpmhjdhbaaGreatDoor
open Go.Lg
set_option maxRecDepth 10000
/-- terms -/
inductive Tm where
  | var (i : Nat)
  | lam (s : Ty) (b : Tm)
  | app (f a : Tm)
  | zero
  | succ (a : Tm)
  | recn (s : Ty) (a b c : Tm)
  | nil
  | cons (a b : Tm)
  | fold (s : Ty) (a b c : Tm)
  | pair (a b : Tm)
  | fst (a : Tm)
  | snd (a : Tm)
  | unit
namespace Tm
def kind : Tm → Int
  | var _ => 1 | lam _ _ => 2 | app _ _ => 3 | zero => 4 | succ _ => 5 | recn _ _ _ _ => 6 | nil => 7 | cons _ _ => 8 | fold _ _ _ _ => 9 | pair _ _ => 10 | fst _ => 11 | snd _ => 12 | unit => 13
def idx : Tm → Int
  | var i => i | _ => 0
def ty : Tm → Ty
  | lam s _ => s | recn s _ _ _ => s | fold s _ _ _ => s | _ => .zero
def args : Tm → List Tm
  | lam _ b => [b] | app f a => [f, a] | succ a => [a] | recn _ a b c => [a, b, c] | cons a b => [a, b] | fold _ a b c => [a, b, c] | pair a b => [a, b] | fst a => [a] | snd a => [a] | _ => []
def node (k i : Int) (s : Ty) (l : List (List PV)) : List PV := [.int k, .int i, .int s.kind, .slice (s.args.map Ty.cells), .slice l]
def cells : Tm → List PV
  | var i => node 1 i .zero []
  | lam s b => node 2 0 s [b.cells]
  | app f a => node 3 0 .zero [f.cells, a.cells]
  | zero => node 4 0 .zero []
  | succ a => node 5 0 .zero [a.cells]
  | recn s a b c => node 6 0 s [a.cells, b.cells, c.cells]
  | nil => node 7 0 .zero []
  | cons a b => node 8 0 .zero [a.cells, b.cells]
  | fold s a b c => node 9 0 s [a.cells, b.cells, c.cells]
  | pair a b => node 10 0 .zero [a.cells, b.cells]
  | fst a => node 11 0 .zero [a.cells]
  | snd a => node 12 0 .zero [a.cells]
  | unit => node 13 0 .zero []
theorem cells_eq (t : Tm) : t.cells = [.int t.kind, .int t.idx, .int t.ty.kind, .slice (t.ty.args.map Ty.cells), .slice (t.args.map Tm.cells)] := by cases t <;> rfl
theorem ind {P : Tm → Prop} (h : ∀ t, (∀ a ∈ t.args, P a) → P t) (t : Tm) : P t := by
  induction t with
  | _ => exact h _ (by simp_all [args])
theorem args_le (t : Tm) : t.args.length ≤ 3 := by cases t <;> simp [args]
theorem cells_len (t : Tm) : t.cells.length = 5 := by cases t <;> rfl
theorem all_len (l : List Tm) : ∀ y ∈ l.map Tm.cells, y.length = 5 := by
  intro y hy
  obtain ⟨t, _, rfl⟩ := List.mem_map.1 hy
  exact t.cells_len
end Tm
theorem one_ty (s : Ty) : ∀ x ∈ s.cells, x.one = true := by cases s <;> simp [Ty.cells, PV.one]
theorem one_tm (s : Tm) : ∀ x ∈ s.cells, x.one = true := by cases s <;> simp [Tm.cells, Tm.node, PV.one]

theorem tcopy_ok (t : Tm) : AC Tryz.prog gl 105 [.pv (.agg t.cells)] [] (.ret (.pv (.agg t.cells))) [] := by
  induction t using Tm.ind with
  | _ t ih =>
    refine body [(3, .arr 3 5 30)] Tryz.func105 Tryz.ntmps105 ?_
    rw [Tm.cells_eq]
    refine gg ?_
    refine AWP.loopN t.args.length (fun k => ⟨[(1, .pv (.ptr [.int t.kind, .int t.idx, .int t.ty.kind, .slice (t.ty.args.map Ty.cells), .slice (t.args.map Tm.cells)])), (2, .loc 2 0), (3, .arr 3 k k), (7, .pv (.slice (t.args.map Tm.cells))), (8, .pv (.int t.args.length)), (9, .pv (.int k))],
      [(2, .box [.pv (.int 0), .pv (.int 0), .pv (.int 0), .pv (.slice []), .pv (.slice [])]), (3, .arr k 5 30 (pvE ((t.args.take k).map Tm.cells)))], [2, 3]⟩) ⟨by simp [slotsLe, getS, pvE], by simp [subO, getO, pvE], by simp [subL, namesSl, V.names, namesOb, Ob.names, namesL, namesE, namesE_pvE, XX_given, pvE]⟩ ?_
    intro k hk
    have hl := t.args_le
    refine gg ?_
    refine cd ?_
    refine caseB_dec (fun h => ?_) (fun h => ?_)
    · obtain ⟨a, hka⟩ : ∃ a, t.args[k]? = some a := ⟨_, List.getElem?_eq_getElem (by omega)⟩
      have hget := getD_map (f := Tm.cells) (d := []) hka
      have hsn := take_snoc hka
      have this := ih a (List.mem_of_getElem? hka)
      clear ih hka
      rw [Tm.cells_eq] at hget this
      refine gg ?_
      (refine ev ?_ ?_; simp only [buildC, and_true, true_and, implies_true, true_implies, and_self])
      · exact ⟨by omega, by simpa using h, Tm.all_len _⟩
      refine gg ?_
      refine call this ?_
      refine gg ?_
      exact ⟨by omega, ⟨by simp [slotsLe, getS, hsn, Tm.cells_eq, List.take_take], by simp [subO, getO, hsn, Tm.cells_eq, List.take_take], by simp [subL, namesSl, V.names, namesOb, Ob.names, namesL, namesE, namesE_pvE, XX_given, hsn, Tm.cells_eq, List.take_take]⟩⟩
    · (repeat (first | with_reducible refine ex_exit ?_ | with_reducible refine q_exit ?_ | with_reducible refine b_same ?_ | refine b_other rfl ?_ | with_reducible refine b_normal ?_ | with_reducible refine q_normal ?_ | with_reducible refine ex_skip ?_))
      refine frz 3 ?_
      have hkk : k = t.args.length := by omega
      subst hkk
      have e : (t.args.map Tm.cells).take t.args.length = t.args.map Tm.cells := by rw [← List.map_take, List.take_length]
      have hc := copy_ok t.ty
      rw [Ty.cells_eq] at hc
      refine gg ?_
      refine call hc ?_
      refine gg ?_
      refine ⟨by rfl, ?_⟩
      refine gg ?_
      exact ⟨by simp [retIs, resV, resL, resOne, mkTup, getS, getO, rdV, mkAgg, unL, V.un, TI.isAgg, XX_T, tt30, Tryz.f105, e], by simp [subO, getO, tt30, Tryz.f105, e]⟩
theorem var_ok (i : Nat) : AC Tryz.prog gl 72 [.pv (.int i)] [] (.ret (.pv (.agg (Tm.var i).cells))) [] := by
  refine body [] Tryz.func72 Tryz.ntmps72 ?_
  refine gg ?_
  exact ⟨by simp [retIs, resV, resL, resOne, mkTup, getS, getO, rdV, mkAgg, unL, V.un, TI.isAgg, XX_T, tt30, Tryz.f72, Tm.cells, Tm.node, Ty.kind, Ty.args], by simp [subO, getO, tt30, Tryz.f72, Tm.cells, Tm.node, Ty.kind, Ty.args]⟩
theorem nraw_ok (k0 : Int) (l : List Tm) (hl : l.length ≤ 3) : AC Tryz.prog gl 74 [.pv (.int k0), .pv (.slice (l.map Tm.cells))] [] (.ret (.pv (.agg [.int k0, .int 0, .int 0, .slice [], .slice (l.map Tm.cells)]))) [] := by
  refine body [(5, .arr 5 5 30)] Tryz.func74 Tryz.ntmps74 ?_
  refine gg ?_
  refine AWP.loopN l.length (fun k => ⟨[(0, .pv (.int k0)), (4, .loc 4 0), (5, .arr 5 k k), (8, .pv (.slice (l.map Tm.cells))), (9, .pv (.int l.length)), (10, .pv (.int k))],
      [(4, .box [.pv (.int 0), .pv (.int 0), .pv (.int 0), .pv (.slice []), .pv (.slice [])]), (5, .arr k 5 30 (pvE ((l.take k).map Tm.cells)))], [4, 5]⟩) ⟨by simp [slotsLe, getS, pvE], by simp [subO, getO, pvE], by simp [subL, namesSl, V.names, namesOb, Ob.names, namesL, namesE, namesE_pvE, XX_given, pvE]⟩ ?_
  intro k hk
  refine gg ?_
  refine cd ?_
  refine caseB_dec (fun h => ?_) (fun h => ?_)
  · obtain ⟨a, hka⟩ : ∃ a, l[k]? = some a := ⟨_, List.getElem?_eq_getElem (by omega)⟩
    have hget := getD_map (f := Tm.cells) (d := []) hka
    have hsn := take_snoc hka
    have this := tcopy_ok a
    clear hka
    rw [Tm.cells_eq] at hget this
    refine gg ?_
    (refine ev ?_ ?_; simp only [buildC, and_true, true_and, implies_true, true_implies, and_self])
    · exact ⟨by omega, by simpa using h, Tm.all_len _⟩
    refine gg ?_
    refine call this ?_
    refine gg ?_
    exact ⟨by omega, ⟨by simp [slotsLe, getS, hsn, Tm.cells_eq, List.take_take], by simp [subO, getO, hsn, Tm.cells_eq, List.take_take], by simp [subL, namesSl, V.names, namesOb, Ob.names, namesL, namesE, namesE_pvE, XX_given, hsn, Tm.cells_eq, List.take_take]⟩⟩
  · (repeat (first | with_reducible refine ex_exit ?_ | with_reducible refine q_exit ?_ | with_reducible refine b_same ?_ | refine b_other rfl ?_ | with_reducible refine b_normal ?_ | with_reducible refine q_normal ?_ | with_reducible refine ex_skip ?_))
    refine frz 5 ?_
    have hkk : k = l.length := by omega
    subst hkk
    have e : (l.map Tm.cells).take l.length = l.map Tm.cells := by rw [← List.map_take, List.take_length]
    refine gg ?_
    exact ⟨by simp [retIs, resV, resL, resOne, mkTup, getS, getO, rdV, mkAgg, unL, V.un, TI.isAgg, XX_T, tt30, Tryz.f74, e], by simp [subO, getO, tt30, Tryz.f74, e]⟩
/-- a node without a type -/
theorem nn_ok (t : Tm) (h0 : t.idx = 0) (hz : t.ty = .zero) : AC Tryz.prog gl 74 [.pv (.int t.kind), .pv (.slice (t.args.map Tm.cells))] [] (.ret (.pv (.agg t.cells))) [] := by
  have hc : t.cells = [.int t.kind, .int 0, .int 0, .slice [], .slice (t.args.map Tm.cells)] := by rw [Tm.cells_eq, h0, hz]; rfl
  rw [hc]
  exact nraw_ok _ _ t.args_le
/-- a node with a type -/
theorem tn_ok (t : Tm) (h0 : t.idx = 0) : AC Tryz.prog gl 75 [.pv (.int t.kind), .pv (.agg t.ty.cells), .pv (.slice (t.args.map Tm.cells))] [] (.ret (.pv (.agg t.cells))) [] := by
  have h1 := nraw_ok t.kind t.args t.args_le
  have h2 := copy_ok t.ty
  rw [Tm.cells_eq, h0]
  rw [Ty.cells_eq] at h2 ⊢
  clear h0
  refine body [] Tryz.func75 Tryz.ntmps75 ?_
  refine gg ?_
  refine call h1 ?_
  refine gg ?_
  refine call h2 ?_
  refine gg ?_
  exact ⟨by simp [retIs, resV, resL, resOne, mkTup, getS, getO, rdV, mkAgg, unL, V.un, TI.isAgg, XX_T, tt30, Tryz.f75], by simp [subO, getO, tt30, Tryz.f75]⟩
/-- how many nodes -/
def Tm.size : Tm → Nat
  | .lam _ b => 1 + b.size
  | .app f a => 1 + (f.size + a.size)
  | .succ a => 1 + a.size
  | .recn _ a b c => 1 + (a.size + b.size + c.size)
  | .cons a b => 1 + (a.size + b.size)
  | .fold _ a b c => 1 + (a.size + b.size + c.size)
  | .pair a b => 1 + (a.size + b.size)
  | .fst a => 1 + a.size
  | .snd a => 1 + a.size
  | _ => 1
def Tm.sizes (l : List Tm) : Nat := (l.map Tm.size).sum
theorem Tm.size_eq (t : Tm) : t.size = 1 + Tm.sizes t.args := by cases t <;> simp [Tm.size, Tm.sizes, Tm.args] <;> omega
theorem tsizes_le (l : List Tm) (k : Nat) : Tm.sizes (l.take k) ≤ Tm.sizes l := by
  conv => rhs; rw [← List.take_append_drop k l]
  simp only [Tm.sizes, List.map_append, List.sum_append]; omega
theorem count_ok (t : Tm) (hs : t.size ≤ 1000000000) : AC Tryz.prog gl 81 [.pv (.agg t.cells)] [] (.ret (.pv (.int t.size))) [] := by
  induction t using Tm.ind with
  | _ t ih =>
    refine body [] Tryz.func81 Tryz.ntmps81 ?_
    rw [Tm.cells_eq]
    refine gg ?_
    refine AWP.loopN t.args.length (fun k => ⟨[(3, .pv (.int (1 + Tm.sizes (t.args.take k)))), (7, .pv (.slice (t.args.map Tm.cells))), (8, .pv (.int t.args.length)), (9, .pv (.int k))],
      [], []⟩) ⟨by simp [slotsLe, getS, Tm.sizes], by simp [subO, getO, Tm.sizes], by simp [subL, namesSl, V.names, namesOb, Ob.names, namesL, namesE, namesE_pvE, XX_given, Tm.sizes]⟩ ?_
    intro k hk
    have hl := t.args_le
    refine gg ?_
    refine cd ?_
    refine caseB_dec (fun h => ?_) (fun h => ?_)
    · obtain ⟨a, hka⟩ : ∃ a, t.args[k]? = some a := ⟨_, List.getElem?_eq_getElem (by omega)⟩
      have hget := getD_map (f := Tm.cells) (d := []) hka
      have hsn := take_snoc hka
      have hmem := List.mem_of_getElem? hka
      have hsz : Tm.sizes (t.args.take (k + 1)) = Tm.sizes (t.args.take k) + a.size := by rw [hsn]; simp [Tm.sizes]
      have hle := tsizes_le t.args (k + 1)
      have hh := t.size_eq
      have := ih a hmem (by omega)
      rw [Tm.cells_eq] at this hget
      clear ih
      refine gg ?_
      (refine ev ?_ ?_; simp only [buildC, and_true, true_and, implies_true, true_implies, and_self])
      · exact ⟨by omega, by simpa using h, Tm.all_len _⟩
      refine gg ?_
      refine call this ?_
      refine gg ?_
      exact ⟨by omega, ⟨by simp [slotsLe, getS, hsz, Int.add_assoc], by simp [subO, getO, hsz, Int.add_assoc], by simp [subL, namesSl, V.names, namesOb, Ob.names, namesL, namesE, namesE_pvE, XX_given, hsz, Int.add_assoc]⟩⟩
    · have hkk : k = t.args.length := by omega
      subst hkk
      have hh := t.size_eq
      refine gg ?_
      exact ⟨by simp [retIs, resV, resL, resOne, mkTup, getS, getO, rdV, mkAgg, unL, V.un, TI.isAgg, XX_T, tt30, Tryz.f81, hh], by simp [subO, getO, tt30, Tryz.f81, hh]⟩
theorem args_ok (t : Tm) : AC Tryz.prog gl 109 [.pv (.int t.kind)] [] (.ret (.pv (.int t.args.length))) [] := by
  refine body [] Tryz.func109 Tryz.ntmps109 ?_
  cases t <;> simp only [Tm.kind, Tm.args, List.length_cons, List.length_nil]
  all_goals refine gg ?_
  all_goals exact ⟨by simp [retIs, resV, resL, resOne, mkTup, getS, getO, rdV, mkAgg, unL, V.un, TI.isAgg, XX_T, tt30, Tryz.f109], by simp [subO, getO, tt30, Tryz.f109]⟩
end Go.Proofs.YtodjpfpmhjdhbaaGreatDoor
namespace Go.Proofs.YtodjpfpmhjdhbaaGreatDoor
open Go.Lg
set_option maxRecDepth 10000
set_option maxHeartbeats 4000000
def Ty.good (t : Ty) : Bool := t.ok && decide (t.size ≤ 64)
def Tm.wf : Tm → Bool
  | .lam s b => s.good && b.wf
  | .app f a => f.wf && a.wf
  | .succ a => a.wf
  | .recn s a b c => s.good && (a.wf && (b.wf && c.wf))
  | .cons a b => a.wf && b.wf
  | .fold s a b c => s.good && (a.wf && (b.wf && c.wf))
  | .pair a b => a.wf && b.wf
  | .fst a => a.wf
  | .snd a => a.wf
  | _ => true
theorem Tm.wf_args {t : Tm} (h : t.wf = true) : ∀ a ∈ t.args, a.wf = true := by cases t <;> simp_all [Tm.wf, Tm.args]
theorem Tm.wf_kind {t : Tm} (h : t.wf = true) : (∃ i, t = .var i) ∨ ((t.kind = 2 ∨ t.kind = 6 ∨ t.kind = 9) ∧ t.idx = 0 ∧ t.ty.ok = true ∧ t.ty.size ≤ 64) ∨ (¬ t.kind = 1 ∧ ¬ t.kind = 2 ∧ ¬ t.kind = 6 ∧ ¬ t.kind = 9 ∧ t.idx = 0 ∧ t.ty = .zero) := by
  cases t <;> simp_all [Tm.wf, Tm.kind, Tm.idx, Tm.ty, Ty.good]
theorem shapes_ok (t : Tm) (hw : t.wf = true) : AC Tryz.prog gl 80 [.pv (.agg t.cells)] [] (.ret (.pv (.bool true))) [] := by
  induction t using Tm.ind with
  | _ t ih =>
    refine body [] Tryz.func80 Tryz.ntmps80 ?_
    have ha := args_ok t
    have hlen : (t.args.map Tm.cells).length = t.args.length := by simp
    have hl := t.args_le
    rw [Tm.cells_eq]
    rcases Tm.wf_kind hw with ⟨i, rfl⟩ | ⟨h1, h2, h3, h4⟩ | ⟨h1, h2, h3, h4, h5, h6⟩
    · have hi : ¬ (i : Int) < 0 := by omega
      simp only [Tm.kind, Tm.idx, Tm.ty, Tm.args, Ty.kind, Ty.args, List.map_nil, List.length_nil] at ha ⊢
      have hz := zero_ok .zero
      simp only [Ty.cells, decide_true] at hz
      refine gg ?_
      refine call ha ?_
      refine gg ?_
      refine ⟨by rfl, ?_⟩
      refine gg ?_
      refine call hz ?_
      refine gg ?_
      refine ex_loop 1 (ex_round ?_)
      refine gg ?_
      exact ⟨by simp [retIs, resV, resL, resOne, mkTup, getS, getO, rdV, mkAgg, unL, V.un, TI.isAgg, XX_T, tt30, Tryz.f80], by simp [subO, getO, tt30, Tryz.f80]⟩
    · have hz := tycheck_ok t.ty h3 h4
      rw [Ty.cells_eq] at hz
      rcases h1 with h1 | h1 | h1
      all_goals rw [h1] at ha
      all_goals refine gg ?_
      all_goals refine call ha ?_
      all_goals refine gg ?_
      all_goals refine ⟨by rfl, ?_⟩
      all_goals refine gg ?_
      all_goals refine call hz ?_
      all_goals refine gg ?_
      all_goals refine AWP.loopN t.args.length (fun k => ⟨[(42, .pv (.slice (t.args.map Tm.cells))), (43, .pv (.int t.args.length)), (44, .pv (.int k))], [], []⟩) ⟨by simp [slotsLe, getS], by simp [subO, getO], by simp [subL, namesSl, V.names, namesOb, Ob.names, namesL, namesE, namesE_pvE, XX_given]⟩ ?_
      all_goals clear hz ha
      all_goals intro k hk
      all_goals refine gg ?_
      all_goals refine cd ?_
      all_goals
        refine caseB_dec (fun h => ?_) (fun h => ?_)
        · obtain ⟨a, hka⟩ : ∃ a, t.args[k]? = some a := ⟨_, List.getElem?_eq_getElem (by omega)⟩
          have hget := getD_map (f := Tm.cells) (d := []) hka
          have hm := List.mem_of_getElem? hka
          have this := ih a hm (Tm.wf_args hw a hm)
          clear ih hka
          rw [Tm.cells_eq] at hget this
          have hal := Tm.all_len t.args
          refine gg ?_
          refine call this ?_
          refine gg ?_
          exact ⟨by omega, ⟨by simp [slotsLe, getS], by simp [subO, getO], by simp [subL, namesSl, V.names, namesOb, Ob.names, namesL, namesE, namesE_pvE, XX_given]⟩⟩
        · refine gg ?_
          exact ⟨by simp [retIs, resV, resL, resOne, mkTup, getS, getO, rdV, mkAgg, unL, V.un, TI.isAgg, XX_T, tt30, Tryz.f80], by simp [subO, getO, tt30, Tryz.f80]⟩
    · have hz := zero_ok .zero
      simp only [Ty.cells, decide_true] at hz
      rw [h6]
      simp only [Ty.kind, Ty.args, List.map_nil]
      refine gg ?_
      refine call ha ?_
      refine gg ?_
      refine ⟨by rfl, ?_⟩
      refine gg ?_
      refine call hz ?_
      refine gg ?_
      all_goals refine AWP.loopN t.args.length (fun k => ⟨[(42, .pv (.slice (t.args.map Tm.cells))), (43, .pv (.int t.args.length)), (44, .pv (.int k))], [], []⟩) ⟨by simp [slotsLe, getS], by simp [subO, getO], by simp [subL, namesSl, V.names, namesOb, Ob.names, namesL, namesE, namesE_pvE, XX_given]⟩ ?_
      all_goals clear hz ha
      all_goals intro k hk
      all_goals refine gg ?_
      all_goals refine cd ?_
      all_goals
        refine caseB_dec (fun h => ?_) (fun h => ?_)
        · obtain ⟨a, hka⟩ : ∃ a, t.args[k]? = some a := ⟨_, List.getElem?_eq_getElem (by omega)⟩
          have hget := getD_map (f := Tm.cells) (d := []) hka
          have hm := List.mem_of_getElem? hka
          have this := ih a hm (Tm.wf_args hw a hm)
          clear ih hka
          rw [Tm.cells_eq] at hget this
          have hal := Tm.all_len t.args
          refine gg ?_
          refine call this ?_
          refine gg ?_
          exact ⟨by omega, ⟨by simp [slotsLe, getS], by simp [subO, getO], by simp [subL, namesSl, V.names, namesOb, Ob.names, namesL, namesE, namesE_pvE, XX_given]⟩⟩
        · refine gg ?_
          exact ⟨by simp [retIs, resV, resL, resOne, mkTup, getS, getO, rdV, mkAgg, unL, V.un, TI.isAgg, XX_T, tt30, Tryz.f80], by simp [subO, getO, tt30, Tryz.f80]⟩
theorem tcheck_ok (t : Tm) (hw : t.wf = true) (hz : t.size ≤ 1000000000) : AC Tryz.prog gl 38 [.pv (.agg t.cells)] [] (.ret (.pv (.int (if t.size ≤ 4096 then 0 else 4)))) [] := by
  have h1 := shapes_ok t hw
  have h2 := count_ok t hz
  refine body [] Tryz.func38 Tryz.ntmps38 ?_
  rw [Tm.cells_eq] at h1 h2 ⊢
  by_cases h : t.size ≤ 4096
  · rw [if_pos h]
    refine gg ?_
    refine call h1 ?_
    refine gg ?_
    refine call h2 ?_
    have h3 : ¬ (4096 : Int) < t.size := by omega
    refine gg ?_
    exact ⟨by simp [retIs, resV, resL, resOne, mkTup, getS, getO, rdV, mkAgg, unL, V.un, TI.isAgg, XX_T, tt30, Tryz.f38], by simp [subO, getO, tt30, Tryz.f38]⟩
  · rw [if_neg h]
    refine gg ?_
    refine call h1 ?_
    refine gg ?_
    refine call h2 ?_
    have h3 : (4096 : Int) < t.size := by omega
    refine gg ?_
    exact ⟨by simp [retIs, resV, resL, resOne, mkTup, getS, getO, rdV, mkAgg, unL, V.un, TI.isAgg, XX_T, tt30, Tryz.f38], by simp [subO, getO, tt30, Tryz.f38]⟩
end Go.Proofs.YtodjpfpmhjdhbaaGreatDoor
