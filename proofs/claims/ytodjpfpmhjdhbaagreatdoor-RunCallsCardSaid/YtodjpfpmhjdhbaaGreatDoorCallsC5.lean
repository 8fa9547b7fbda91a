/- Part of the proof: contracts of the types, terms, the generator and the compiler; no conditions. -/
import Derived.Test.YtodjpfpmhjdhbaaGreatDoorCallsC4
set_option linter.unusedVariables false
set_option linter.unusedSimpArgs false
set_option linter.unusedSectionVars false
namespace Go.Proofs.YtodjpfpmhjdhbaaGreatDoor
open Go.Lg
set_option maxRecDepth 10000
set_option maxHeartbeats 4000000
theorem longer_ok (g l : List Ty) (hg : g.length ≤ 100) (hl : l.length ≤ 100) : AC Tryz.prog gl 76 [.pv (.slice (g.map Ty.cells)), .pv (.slice (l.map Ty.cells))] [] (.ret (.pv (.slice ((g ++ l).map Ty.cells)))) [] := by
  have h1 := Ty.all_len g
  have h2 := Ty.all_len l
  have h3 : ∀ y ∈ g.map Ty.cells, y.all PV.one = true := by
    intro y hy
    obtain ⟨t, _, rfl⟩ := List.mem_map.1 hy
    simpa using one_ty t
  have h4 : ∀ y ∈ l.map Ty.cells, y.all PV.one = true := by
    intro y hy
    obtain ⟨t, _, rfl⟩ := List.mem_map.1 hy
    simpa using one_ty t
  have h5 : (g.map Ty.cells).length = g.length := by simp
  have h6 : (l.map Ty.cells).length = l.length := by simp
  have h7 : ((g ++ l).map Ty.cells) = g.map Ty.cells ++ l.map Ty.cells := by simp
  have h8 : g.length ≤ maxLen := by simp [maxLen]; omega
  have h9 : g.length + l.length ≤ maxLen := by simp [maxLen]; omega
  have h10 : g.length * 32 ≤ 140737488355328 := by omega
  have h11 : (g.length + l.length) * 32 ≤ 140737488355328 := by omega
  refine body [(6, .arr 6 2 27)] Tryz.func76 Tryz.ntmps76 ?_
  rw [h7]
  generalize g.map Ty.cells = gs at *
  generalize l.map Ty.cells = ls at *
  clear h7
  (repeat (first | with_reducible refine ex_seq ?_ | with_reducible refine ex_block ?_ | with_reducible refine ex_draw ?_ | with_reducible refine q_normal ?_ | with_reducible refine b_normal ?_ | with_reducible refine runOps_nil ?_ | with_reducible refine ex_reg ?_ | with_reducible refine ex_skip ?_ | with_reducible refine ex_exit ?_ | with_reducible refine q_exit ?_ | with_reducible refine q_ret ?_ | with_reducible refine q_panic ?_ | with_reducible refine b_same ?_ | with_reducible refine b_ret ?_ | with_reducible refine b_panic ?_ | refine b_other rfl ?_ | refine go ?_ | refine cskip ?_ | refine cdt ?_ | refine cdf ?_ | fail))
  refine frz 6 ?_
  have h13 : List.take g.length gs = gs := by rw [← h5, List.take_length]
  have h12 : List.take (g.length + l.length) (gs ++ ls) = gs ++ ls := by rw [← h5, ← h6, ← List.length_append, List.take_length]
  refine gg ?_
  exact ⟨by simp [retIs, resV, resL, resOne, mkTup, getS, getO, rdV, mkAgg, unL, V.un, TI.isAgg, XX_T, tt30, Tryz.f76, h5, h6, h12, h13], by simp [subO, getO, tt30, Tryz.f76, h5, h6, h12, h13]⟩
def vs (r : List Ty) (t : Ty) (k : Nat) : List Nat := (List.range k).filter (fun i => decide (r[i]? = some t))
theorem vs_succ (r : List Ty) (t : Ty) (k : Nat) : vs r t (k + 1) = vs r t k ++ (if r[k]? = some t then [k] else []) := by
  unfold vs
  rw [List.range_succ, List.filter_append]
  by_cases h : r[k]? = some t <;> simp [h]
theorem vs_le (r : List Ty) (t : Ty) (k : Nat) : (vs r t k).length ≤ k := by
  unfold vs
  exact Nat.le_trans (List.length_filter_le _ _) (by simp)
def nats (l : List Nat) : List (List PV) := l.map fun (x : Nat) => [.int (x : Int)]
theorem nats_snoc (v : List Nat) (k : Nat) : nats (v ++ [k]) = nats v ++ [[.int (k : Int)]] := by simp [nats]
theorem vars_ok (g : List Ty) (t : Ty) (hg : g.length ≤ 100) : AC Tryz.prog gl 71 [.pv (.slice (g.map Ty.cells)), .pv (.agg t.cells)] [] (.ret (.pv (.slice (nats (vs g.reverse t g.length))))) [] := by
  have hal := Ty.all_len g
  have hlen : (g.map Ty.cells).length = g.length := by simp
  rw [Ty.cells_eq]
  refine body [(5, .arr 5 1 3)] Tryz.func71 Tryz.ntmps71 ?_
  refine gg ?_
  refine AWP.loopN g.length (fun k => ⟨[(0, .pv (.slice (g.map Ty.cells))), (3, .pv (.ptr [.int t.kind, .slice (t.args.map Ty.cells)])), (5, .arr 5 (vs g.reverse t k).length (vs g.reverse t k).length), (8, .pv (.int g.length)), (9, .pv (.int k))],
      [(5, .arr (vs g.reverse t k).length 1 3 (pvE (nats (vs g.reverse t k))))], [5]⟩) ⟨by simp [slotsLe, getS, pvE, vs, nats], by simp [subO, getO, pvE, vs, nats], by simp [subL, namesSl, V.names, namesOb, Ob.names, namesL, namesE, namesE_pvE, XX_given, pvE, vs, nats]⟩ ?_
  intro k hk
  have hv := vs_le g.reverse t k
  have hnl : (nats (vs g.reverse t k)).length = (vs g.reverse t k).length := by simp [nats]
  have htk : List.take (vs g.reverse t k).length (nats (vs g.reverse t k)) = nats (vs g.reverse t k) := by rw [← hnl, List.take_length]
  by_cases h : k < g.length
  · have h' : (k : Int) < g.length := by omega
    obtain ⟨a, hka⟩ : ∃ a, g[g.length - 1 - k]? = some a := ⟨_, List.getElem?_eq_getElem (by omega)⟩
    have hka' : g.reverse[k]? = some a := by rw [List.getElem?_reverse h]; exact hka
    have hget := getD_map (f := Ty.cells) (d := []) hka
    have hi : ((g.length : Int) - 1 - k).toNat = g.length - 1 - k := by omega
    have hsame := same_ok a t
    have hs := vs_succ g.reverse t k
    rw [hka'] at hs
    simp only [Option.some.injEq] at hs
    rw [Ty.cells_eq, t.cells_eq] at hsame
    rw [Ty.cells_eq] at hget
    generalize vs g.reverse t (k + 1) = v' at hs ⊢
    generalize vs g.reverse t k = v at *
    clear hka hka'
    have hb1 : (0 : Int) ≤ (g.length : Int) - 1 - k := by omega
    have hb2 : (g.length : Int) - 1 - k < g.length := by omega
    refine gg ?_
    refine call hsame ?_
    refine gg ?_
    refine ⟨by rfl, ?_⟩
    by_cases he : a = t
    · simp only [he, decide_true]
      rw [if_pos he] at hs
      refine gg ?_
      subst hs
      exact ⟨h, ⟨by simp [slotsLe, getS, nats_snoc], by simp [subO, getO, nats_snoc], by simp [subL, namesSl, V.names, namesOb, Ob.names, namesL, namesE, namesE_pvE, XX_given, nats_snoc]⟩⟩
    · simp only [he, decide_false]
      rw [if_neg he] at hs
      refine gg ?_
      rw [List.append_nil] at hs
      subst hs
      exact ⟨h, ⟨by simp [slotsLe, getS], by simp [subO, getO], by simp [subL, namesSl, V.names, namesOb, Ob.names, namesL, namesE, namesE_pvE, XX_given]⟩⟩
  · have h' : ¬ (k : Int) < g.length := by omega
    have hkk : k = g.length := by omega
    subst hkk
    (repeat (first | with_reducible refine ex_seq ?_ | with_reducible refine ex_block ?_ | with_reducible refine ex_draw ?_ | with_reducible refine q_normal ?_ | with_reducible refine b_normal ?_ | with_reducible refine runOps_nil ?_ | with_reducible refine ex_reg ?_ | with_reducible refine ex_skip ?_ | with_reducible refine ex_exit ?_ | with_reducible refine q_exit ?_ | with_reducible refine q_ret ?_ | with_reducible refine q_panic ?_ | with_reducible refine b_same ?_ | with_reducible refine b_ret ?_ | with_reducible refine b_panic ?_ | refine b_other rfl ?_ | refine go ?_ | refine cskip ?_ | refine cdt ?_ | refine cdf ?_ | fail))
    refine frz 5 ?_
    refine gg ?_
    exact ⟨by simp [retIs, resV, resL, resOne, mkTup, getS, getO, rdV, mkAgg, unL, V.un, TI.isAgg, XX_T, tt30, Tryz.f71, htk], by simp [subO, getO, tt30, Tryz.f71, htk]⟩
/-- the small types -/
def Ty.base (t : Ty) : Prop := t = .nat ∨ t = .list ∨ t = .unit
def Ty.plain (t : Ty) : Prop := t.base ∨ t = .pair .nat .list ∨ t = .pair .nat .nat
def pick7 (n : Nat) : Ty := if n = 3 then .list else if n = 4 then .unit else .nat
def pick6 (n : Nat) : Ty := if n ≤ 1 then .nat else if n = 2 then .list else if n = 3 then .unit else if n = 4 then .pair .nat .list else .pair .nat .nat
theorem type_ok (L : List Int) (at_ : Nat) (hL : L.length ≤ 500) : AC Tryz.prog gl 73 [.loc 900 0, .pv (.int 0)] (deck L at_) (.ret (.pv (.agg (pick7 (nxv L at_ 7)).cells))) (deck L (nxa L at_ 7)) := by
  have h0 := next_ok L at_ 7 hL (by omega)
  have h1 := nat_ok
  have h2 := list_ok
  have h3 := unit_ok
  have h := nxv_lt L at_ 7 (by omega)
  generalize nxv L at_ 7 = n at *
  generalize nxa L at_ 7 = at' at *
  unfold deck at *
  simp only [Int.cast_ofNat_Int] at h0
  simp only [Ty.cells] at h1 h2 h3
  refine body [] Tryz.func73 Tryz.ntmps73 ?_
  refine gg ?_
  refine call h0 ?_
  have hn : n = 0 ∨ n = 1 ∨ n = 2 ∨ n = 3 ∨ n = 4 ∨ n = 5 ∨ n = 6 := by omega
  rcases hn with rfl | rfl | rfl | rfl | rfl | rfl | rfl
  all_goals simp only [pick7, ↓reduceIte, Nat.reduceEqDiff, Ty.cells, Int.cast_ofNat_Int]
  all_goals refine gg ?_
  all_goals first | refine call h1 ?_ | refine call h2 ?_ | refine call h3 ?_ | fail
  all_goals refine gg ?_
  all_goals exact ⟨by simp [retIs, resV, resL, resOne, mkTup, getS, getO, rdV, mkAgg, unL, V.un, TI.isAgg, XX_T, tt27, Tryz.f73], by simp [subO, getO, tt27, Tryz.f73]⟩
theorem plain_ok (L : List Int) (at_ : Nat) (hL : L.length ≤ 500) : AC Tryz.prog gl 36 [.loc 900 0] (deck L at_) (.ret (.pv (.agg (pick6 (nxv L at_ 6)).cells))) (deck L (nxa L at_ 6)) := by
  have h0 := next_ok L at_ 6 hL (by omega)
  have h1 := nat_ok
  have h2 := list_ok
  have h3 := unit_ok
  have h4 := two_ok .nat .list
  have h5 := two_ok .nat .nat
  have h := nxv_lt L at_ 6 (by omega)
  generalize nxv L at_ 6 = n at *
  generalize nxa L at_ 6 = at' at *
  unfold deck at *
  simp only [Int.cast_ofNat_Int] at h0
  simp only [Ty.cells] at h1 h2 h3 h4 h5
  refine body [] Tryz.func36 Tryz.ntmps36 ?_
  refine gg ?_
  refine call h0 ?_
  have hn : n = 0 ∨ n = 1 ∨ n = 2 ∨ n = 3 ∨ n = 4 ∨ n = 5 := by omega
  rcases hn with rfl | rfl | rfl | rfl | rfl | rfl
  all_goals simp only [pick6, ↓reduceIte, Nat.reduceEqDiff, Nat.reduceLeDiff, Ty.cells, Int.cast_ofNat_Int]
  all_goals refine gg ?_
  all_goals repeat (first | refine call h1 ?_ | refine call h2 ?_ | refine call h3 ?_ | refine call h4 ?_ | refine call h5 ?_ | fail)
  all_goals refine gg ?_
  all_goals exact ⟨by simp [retIs, resV, resL, resOne, mkTup, getS, getO, rdV, mkAgg, unL, V.un, TI.isAgg, XX_T, tt27, Tryz.f36], by simp [subO, getO, tt27, Tryz.f36]⟩
end Go.Proofs.YtodjpfpmhjdhbaaGreatDoor
namespace Go.Proofs.YtodjpfpmhjdhbaaGreatDoor
open Go.Lg
set_option maxRecDepth 10000
set_option maxHeartbeats 4000000
/-- typed terms; the last type of the context is that of the variable 0 -/
inductive HasTy : List Ty → Tm → Ty → Prop where
  | var {g i t} : g.reverse[i]? = some t → HasTy g (.var i) t
  | lam {g s b t} : HasTy (g ++ [s]) b t → HasTy g (.lam s b) (.fn s t)
  | app {g f a s t} : HasTy g f (.fn s t) → HasTy g a s → HasTy g (.app f a) t
  | zero {g} : HasTy g .zero .nat
  | succ {g a} : HasTy g a .nat → HasTy g (.succ a) .nat
  | recn {g t a b c} : HasTy g a t → HasTy g b (.fn .nat (.fn t t)) → HasTy g c .nat → HasTy g (.recn t a b c) t
  | nil {g} : HasTy g .nil .list
  | cons {g a b} : HasTy g a .nat → HasTy g b .list → HasTy g (.cons a b) .list
  | fold {g t a b c} : HasTy g a t → HasTy g b (.fn .nat (.fn .list (.fn t t))) → HasTy g c .list → HasTy g (.fold t a b c) t
  | pair {g a b s t} : HasTy g a s → HasTy g b t → HasTy g (.pair a b) (.pair s t)
  | fst {g a s t} : HasTy g a (.pair s t) → HasTy g (.fst a) s
  | snd {g a s t} : HasTy g a (.pair s t) → HasTy g (.snd a) t
  | unit {g} : HasTy g .unit .unit
def Sz : Nat → Nat
  | 0 => 9
  | n + 1 => 3 * Sz n + 40
structure Good (g : List Ty) (t : Ty) (n : Nat) (tm : Tm) : Prop where
  ty : HasTy g tm t
  wf : tm.wf = true
  size : tm.size ≤ Sz n
  small : n = 0 → t.base → tm.size ≤ 4
theorem Sz_ge (n : Nat) : 9 ≤ Sz n := by cases n <;> simp [Sz] <;> omega
theorem num_good (g : List Ty) (k n : Nat) (hk : k < 3) : Good g .nat n (numT k) := by
  have := Sz_ge n
  have h : k = 0 ∨ k = 1 ∨ k = 2 := by omega
  rcases h with rfl | rfl | rfl <;> exact ⟨by repeat constructor, rfl, by simp [numT, Tm.size]; omega, by simp [numT, Tm.size]⟩
theorem plus_ty (g : List Ty) : HasTy g plusT (.fn .nat (.fn .nat .nat)) := by
  repeat' constructor
  all_goals simp
theorem sub_ty (g : List Ty) : HasTy g subT (.fn .nat (.fn .nat .nat)) := by
  unfold subT predT
  repeat' first | constructor
  all_goals simp
theorem Ty.plain_good {t : Ty} (h : t.plain) : t.good = true := by
  rcases h with (rfl | rfl | rfl) | rfl | rfl <;> rfl

def right : Code → Code
  | .seq _ b => b
  | c => c
noncomputable def c18 : Code := Tryz.f37.body.getD .skip
/-- the state in which the function goes on -/
def st18 (L : List Int) (at_ : Nat) (g : List Ty) (t : Ty) (d : Int) : St :=
  ⟨[(0, .loc 900 0), (1, .pv (.slice (g.map Ty.cells))), (3, .pv (.int d)), (6, .pv (.ptr t.cells)), (8, .loc 8 0)],
    [(8, .box [.pv (.int 0), .pv (.int 0), .pv (.int 0), .pv (.slice []), .pv (.slice [])]), (900, .box [.pv (.slice (ints L)), .pv (.int at_)])], [8, 900]⟩
noncomputable def X18 : Env1 := XX [] 338 [900]
def Made (L : List Int) (at_ : Nat) (g : List Ty) (t : Ty) (d : Int) : Prop :=
  ∃ tm at', Good g t d.toNat tm ∧ AC Tryz.prog gl 37 [.loc 900 0, .pv (.slice (g.map Ty.cells)), .pv (.agg t.cells), .pv (.int d)] (deck L at_) (.ret (.pv (.agg tm.cells))) (deck L at')
def Goes (c : Code) (L : List Int) (at_ : Nat) (g : List Ty) (t : Ty) (d : Int) : Prop :=
  ∃ tm at', Good g t d.toNat tm ∧ AWP X18 c (st18 L at_ g t d) (endQ X18 Tryz.f37.results.toList (.ret (.pv (.agg tm.cells))) (deck L at'))
/-- what the calls within may ask for -/
def Sub18 (L : List Int) (g : List Ty) (t : Ty) (d : Int) : Prop :=
  ∀ g' t' at', (∀ s ∈ g', s.plain) → t'.plain → (0 < d ∨ t'.base ∧ ¬ t.base) → g'.length ≤ g.length + 3 → Made L at' g' t' (d - 1)
theorem tail_unit (L : List Int) (at_ : Nat) (g : List Ty) (d : Int) : Goes (right (right (right (right c18)))) L at_ g .unit d := by
  have h1 := nn_ok .unit rfl rfl
  refine ⟨.unit, at_, ⟨.unit, rfl, by have := Sz_ge d.toNat; simp [Tm.size]; omega, by simp [Tm.size]⟩, ?_⟩
  simp only [right, c18, Tryz.f37, Option.getD_some, X18, st18, deck]
  simp only [Tm.cells, Tm.node, Tm.kind, Tm.args, Tm.ty, Ty.cells, Ty.kind, Ty.args, List.map_nil, List.map_cons] at h1 ⊢
  refine gg ?_
  refine call h1 ?_
  refine gg ?_
  exact ⟨by simp [retIs, resV, resL, resOne, mkTup, getS, getO, rdV, mkAgg, unL, V.un, TI.isAgg, XX_T, tt30], by simp [subO, getO, tt30]⟩
theorem Sz_pos {d : Int} (h : 0 < d) : Sz d.toNat = 3 * Sz (d - 1).toNat + 40 := by
  have : d.toNat = (d - 1).toNat + 1 := by omega
  rw [this]; rfl
theorem tail_list (L : List Int) (at_ : Nat) (g : List Ty) (d : Int) (hL : L.length ≤ 500) (hd : -100 ≤ d ∧ d ≤ 100) (hgp : ∀ s ∈ g, s.plain) (hs : Sub18 L g .list d) : Goes (right (right (right (right c18)))) L at_ g .list d := by
  have h1 := nn_ok .nil rfl rfl
  have hnat := nat_ok
  have hnil : Good g .list d.toNat .nil := ⟨.nil, rfl, by have := Sz_ge d.toNat; simp [Tm.size]; omega, by simp [Tm.size]⟩
  by_cases h : 0 < d
  · have h2 := next_ok L at_ 2 hL (by omega)
    have hn := nxv_lt L at_ 2 (by omega)
    generalize nxv L at_ 2 = n at *
    generalize nxa L at_ 2 = at1 at *
    have hsz := Sz_pos h
    have hn : n = 0 ∨ n = 1 := by omega
    rcases hn with rfl | rfl
    · obtain ⟨a, at2, ga, ha⟩ := hs g .nat at1 hgp (.inl (.inl rfl)) (.inl h) (by omega)
      obtain ⟨b, at3, gb, hb⟩ := hs g .list at2 hgp (.inl (.inr (.inl rfl))) (.inl h) (by omega)
      have hc := nn_ok (.cons a b) rfl rfl
      have := ga.size
      have := gb.size
      refine ⟨.cons a b, at3, ⟨.cons ga.ty gb.ty, by simp [Tm.wf, ga.wf, gb.wf], by simp [Tm.size]; omega, by omega⟩, ?_⟩
      clear ga gb hs hnil h1
      simp only [right, c18, Tryz.f37, Option.getD_some, X18, st18, deck] at *
      simp only [Tm.cells, Tm.node, Tm.kind, Tm.args, Tm.ty, Ty.cells, Ty.kind, Ty.args, List.map_nil, List.map_cons, Int.cast_ofNat_Int] at h2 hnat ha hb hc ⊢
      rw [a.cells_eq] at ha hc ⊢
      rw [b.cells_eq] at hb hc ⊢
      refine gg ?_
      refine call h2 ?_
      refine gg ?_
      refine call hnat ?_
      refine gg ?_
      refine call ha ?_
      refine gg ?_
      refine call hb ?_
      refine gg ?_
      refine call hc ?_
      refine gg ?_
      refine ⟨by rfl, ?_⟩
      refine gg ?_
      exact ⟨by simp [retIs, resV, resL, resOne, mkTup, getS, getO, rdV, mkAgg, unL, V.un, TI.isAgg, XX_T, tt30], by simp [subO, getO, tt30]⟩
    · refine ⟨.nil, at1, hnil, ?_⟩
      clear hs
      clear hnil
      simp only [right, c18, Tryz.f37, Option.getD_some, X18, st18, deck] at *
      simp only [Tm.cells, Tm.node, Tm.kind, Tm.args, Tm.ty, Ty.cells, Ty.kind, Ty.args, List.map_nil, List.map_cons, Int.cast_ofNat_Int] at h1 h2 ⊢
      refine gg ?_
      refine call h2 ?_
      refine gg ?_
      refine call h1 ?_
      refine gg ?_
      exact ⟨by simp [retIs, resV, resL, resOne, mkTup, getS, getO, rdV, mkAgg, unL, V.un, TI.isAgg, XX_T, tt30], by simp [subO, getO, tt30]⟩
  · refine ⟨.nil, at_, hnil, ?_⟩
    clear hs
    simp only [right, c18, Tryz.f37, Option.getD_some, X18, st18, deck] at *
    simp only [Tm.cells, Tm.node, Tm.kind, Tm.args, Tm.ty, Ty.cells, Ty.kind, Ty.args, List.map_nil, List.map_cons, Int.cast_ofNat_Int] at h1 ⊢
    refine gg ?_
    refine call h1 ?_
    refine gg ?_
    exact ⟨by simp [retIs, resV, resL, resOne, mkTup, getS, getO, rdV, mkAgg, unL, V.un, TI.isAgg, XX_T, tt30], by simp [subO, getO, tt30]⟩
end Go.Proofs.YtodjpfpmhjdhbaaGreatDoor
