/- Part of the proof: contracts of the types, terms, the generator and the compiler; no conditions. -/
import Derived.Test.YtodjpfpmhjdhbaaGreatDoorCallsC3
set_option linter.unusedVariables false
set_option linter.unusedSimpArgs false
set_option linter.unusedSectionVars false
namespace Go.Proofs.YtodjpfpmhjdhbaaGreatDoor
open Go.Lg
set_option maxRecDepth 10000
set_option maxHeartbeats 4000000
def numT : Nat → Tm
  | 0 => .zero
  | n + 1 => .succ (numT n)
theorem numeral_ok (n : Nat) (hn : n < 4096) : AC Tryz.prog gl 97 [.pv (.int n)] [] (.ret (.pv (.agg (numT n).cells))) [] := by
  have h1 := nn_ok .zero rfl rfl
  simp only [Tm.cells, Tm.node, Tm.kind, Tm.args, Ty.kind, Ty.args, List.map_nil] at h1
  refine body [] Tryz.func97 Tryz.ntmps97 ?_
  refine gg ?_
  refine call h1 ?_
  refine gg ?_
  refine AWP.loopN n (fun k => ⟨[(0, .pv (.int (n - k))), (2, .loc 2 0), (3, .loc 3 0)], [(2, .box [.pv (.int 0), .pv (.int 0), .pv (.int 0), .pv (.slice []), .pv (.slice [])]), (3, .box (pvL (numT k).cells))], [2, 3]⟩) ⟨by simp [slotsLe, getS, numT, Tm.cells, Tm.node, pvL, Ty.kind, Ty.args], by simp [subO, getO, numT, Tm.cells, Tm.node, pvL, Ty.kind, Ty.args], by simp [subL, namesSl, V.names, namesOb, Ob.names, namesL, namesE, namesE_pvE, XX_given, numT, Tm.cells, Tm.node, pvL, Ty.kind, Ty.args]⟩ ?_
  intro k hk
  clear h1
  rw [(numT k).cells_eq]
  simp only [pvL, List.map_cons, List.map_nil]
  by_cases h : k = n
  · subst h
    have e : ¬ (0 : Int) < (k : Int) - k := by omega
    refine gg ?_
    exact ⟨by simp [retIs, resV, resL, resOne, mkTup, getS, getO, rdV, mkAgg, unL, V.un, TI.isAgg, XX_T, tt30, Tryz.f97, Tm.cells_eq], by simp [subO, getO, tt30, Tryz.f97, Tm.cells_eq]⟩
  · have e : (0 : Int) < (n : Int) - k := by omega
    refine gg ?_
    exact ⟨by omega, ⟨by simp [slotsLe, getS, numT, Tm.cells, Tm.node, pvL, Ty.kind, Ty.args, Tm.cells_eq (numT k), Int.sub_sub], by simp [subO, getO, numT, Tm.cells, Tm.node, pvL, Ty.kind, Ty.args, Tm.cells_eq (numT k), Int.sub_sub], by simp [subL, namesSl, V.names, namesOb, Ob.names, namesL, namesE, namesE_pvE, XX_given, numT, Tm.cells, Tm.node, pvL, Ty.kind, Ty.args, Tm.cells_eq (numT k), Int.sub_sub]⟩⟩
theorem number_ok (n : Nat) (hn : n < 4096) : AC Tryz.prog gl 61 [.pv (.int n)] [] (.ret (.pv (.tuple [.agg (numT n).cells, .int 0]))) [] := by
  have h1 := numeral_ok n hn
  rw [Tm.cells_eq] at h1 ⊢
  have e1 : ¬ (n : Int) < 0 := by omega
  have e2 : ¬ (4096 : Int) ≤ n := by omega
  refine body [] Tryz.func61 Tryz.ntmps61 ?_
  refine gg ?_
  refine call h1 ?_
  refine gg ?_
  exact ⟨by simp [retIs, resV, resL, resOne, mkTup, getS, getO, rdV, mkAgg, unL, V.un, TI.isAgg, XX_T, tt30, Tryz.f61, tt36], by simp [subO, getO, tt30, Tryz.f61, tt36]⟩
theorem num_ok (n : Nat) (hn : n < 4096) : AC Tryz.prog gl 26 [.pv (.int n)] [] (.ret (.pv (.agg (numT n).cells))) [] := by
  have h1 := number_ok n hn
  rw [Tm.cells_eq] at h1 ⊢
  refine body [] Tryz.func26 Tryz.ntmps26 ?_
  refine gg ?_
  refine call h1 ?_
  refine gg ?_
  exact ⟨by simp [retIs, resV, resL, resOne, mkTup, getS, getO, rdV, mkAgg, unL, V.un, TI.isAgg, XX_T, tt30, Tryz.f26], by simp [subO, getO, tt30, Tryz.f26]⟩
theorem lam_ok (b : Tm) : AC Tryz.prog gl 106 [.pv (.agg b.cells)] [] (.ret (.pv (.agg (Tm.lam .nat b).cells))) [] := by
  have h1 := nat_ok
  have h2 := tn_ok (.lam .nat b) rfl
  simp only [Tm.cells, Tm.node, Tm.kind, Tm.args, Tm.ty, Ty.cells, Ty.kind, Ty.args, List.map_nil, List.map_cons] at h1 h2 ⊢
  rw [b.cells_eq] at h2 ⊢
  refine body [] Tryz.func106 Tryz.ntmps106 ?_
  refine gg ?_
  refine call h1 ?_
  refine gg ?_
  refine call h2 ?_
  refine gg ?_
  refine ⟨by rfl, ?_⟩
  refine gg ?_
  exact ⟨by simp [retIs, resV, resL, resOne, mkTup, getS, getO, rdV, mkAgg, unL, V.un, TI.isAgg, XX_T, tt30, Tryz.f106], by simp [subO, getO, tt30, Tryz.f106]⟩
theorem rec_ok (a b c : Tm) : AC Tryz.prog gl 107 [.pv (.agg a.cells), .pv (.agg b.cells), .pv (.agg c.cells)] [] (.ret (.pv (.agg (Tm.recn .nat a b c).cells))) [] := by
  have h1 := nat_ok
  have h2 := tn_ok (.recn .nat a b c) rfl
  simp only [Tm.cells, Tm.node, Tm.kind, Tm.args, Tm.ty, Ty.cells, Ty.kind, Ty.args, List.map_nil, List.map_cons] at h1 h2 ⊢
  rw [a.cells_eq, b.cells_eq, c.cells_eq] at h2 ⊢
  refine body [] Tryz.func107 Tryz.ntmps107 ?_
  refine gg ?_
  refine call h1 ?_
  refine gg ?_
  refine call h2 ?_
  refine gg ?_
  refine ⟨by rfl, ?_⟩
  refine gg ?_
  exact ⟨by simp [retIs, resV, resL, resOne, mkTup, getS, getO, rdV, mkAgg, unL, V.un, TI.isAgg, XX_T, tt30, Tryz.f107], by simp [subO, getO, tt30, Tryz.f107]⟩
def predT : Tm := .lam .nat (.recn .nat .zero (.lam .nat (.lam .nat (.var 1))) (.var 0))
def plusT : Tm := .lam .nat (.lam .nat (.recn .nat (.var 1) (.lam .nat (.lam .nat (.succ (.var 0)))) (.var 0)))
def subT : Tm := .lam .nat (.lam .nat (.recn .nat (.var 1) (.lam .nat (.lam .nat (.app predT (.var 0)))) (.var 0)))
theorem pred_ok : AC Tryz.prog gl 108 [] [] (.ret (.pv (.agg predT.cells))) [] := by
  have h1 := nn_ok .zero rfl rfl
  have h2 := var_ok 1
  have h3 := lam_ok (.var 1)
  have h4 := lam_ok (.lam .nat (.var 1))
  have h5 := var_ok 0
  have h6 := rec_ok .zero (.lam .nat (.lam .nat (.var 1))) (.var 0)
  have h7 := lam_ok (.recn .nat .zero (.lam .nat (.lam .nat (.var 1))) (.var 0))
  simp only [predT,  Tm.cells, Tm.node, Tm.kind, Tm.args, Tm.ty, Ty.cells, Ty.kind, Ty.args, List.map_nil, List.map_cons, Int.cast_ofNat_Int] at h1 h2 h3 h4 h5 h6 h7 ⊢
  refine body [] Tryz.func108 Tryz.ntmps108 ?_
  refine gg ?_
  refine call h1 ?_
  refine gg ?_
  refine call h2 ?_
  refine gg ?_
  refine call h3 ?_
  refine gg ?_
  refine call h4 ?_
  refine gg ?_
  refine call h5 ?_
  refine gg ?_
  refine call h6 ?_
  refine gg ?_
  refine call h7 ?_
  refine gg ?_
  exact ⟨by simp [retIs, resV, resL, resOne, mkTup, getS, getO, rdV, mkAgg, unL, V.un, TI.isAgg, XX_T, tt30, Tryz.f108], by simp [subO, getO, tt30, Tryz.f108]⟩
theorem plus_ok : AC Tryz.prog gl 78 [] [] (.ret (.pv (.agg plusT.cells))) [] := by
  have h1 := var_ok 1
  have h2 := var_ok 0
  have h3 := nn_ok (.succ (.var 0)) rfl rfl
  have h4 := lam_ok (.succ (.var 0))
  have h5 := lam_ok (.lam .nat (.succ (.var 0)))
  have h6 := var_ok 0
  have h7 := rec_ok (.var 1) (.lam .nat (.lam .nat (.succ (.var 0)))) (.var 0)
  have h8 := lam_ok (.recn .nat (.var 1) (.lam .nat (.lam .nat (.succ (.var 0)))) (.var 0))
  have h9 := lam_ok (.lam .nat (.recn .nat (.var 1) (.lam .nat (.lam .nat (.succ (.var 0)))) (.var 0)))
  simp only [plusT,  Tm.cells, Tm.node, Tm.kind, Tm.args, Tm.ty, Ty.cells, Ty.kind, Ty.args, List.map_nil, List.map_cons, Int.cast_ofNat_Int] at h1 h2 h3 h4 h5 h6 h7 h8 h9 ⊢
  refine body [] Tryz.func78 Tryz.ntmps78 ?_
  refine gg ?_
  refine call h1 ?_
  refine gg ?_
  refine call h2 ?_
  refine gg ?_
  refine call h3 ?_
  refine gg ?_
  refine call h4 ?_
  refine gg ?_
  refine call h5 ?_
  refine gg ?_
  refine call h6 ?_
  refine gg ?_
  refine call h7 ?_
  refine gg ?_
  refine call h8 ?_
  refine gg ?_
  refine call h9 ?_
  refine gg ?_
  exact ⟨by simp [retIs, resV, resL, resOne, mkTup, getS, getO, rdV, mkAgg, unL, V.un, TI.isAgg, XX_T, tt30, Tryz.f78], by simp [subO, getO, tt30, Tryz.f78]⟩
theorem sub_ok : AC Tryz.prog gl 79 [] [] (.ret (.pv (.agg subT.cells))) [] := by
  have h1 := var_ok 1
  have h2 := pred_ok
  have h3 := var_ok 0
  have h4 := nn_ok (.app predT (.var 0)) rfl rfl
  have h5 := lam_ok (.app predT (.var 0))
  have h6 := lam_ok (.lam .nat (.app predT (.var 0)))
  have h7 := var_ok 0
  have h8 := rec_ok (.var 1) (.lam .nat (.lam .nat (.app predT (.var 0)))) (.var 0)
  have h9 := lam_ok (.recn .nat (.var 1) (.lam .nat (.lam .nat (.app predT (.var 0)))) (.var 0))
  have h10 := lam_ok (.lam .nat (.recn .nat (.var 1) (.lam .nat (.lam .nat (.app predT (.var 0)))) (.var 0)))
  simp only [subT, predT,  Tm.cells, Tm.node, Tm.kind, Tm.args, Tm.ty, Ty.cells, Ty.kind, Ty.args, List.map_nil, List.map_cons, Int.cast_ofNat_Int] at h1 h2 h3 h4 h5 h6 h7 h8 h9 h10 ⊢
  refine body [] Tryz.func79 Tryz.ntmps79 ?_
  refine gg ?_
  refine call h1 ?_
  refine gg ?_
  refine call h2 ?_
  refine gg ?_
  refine call h3 ?_
  refine gg ?_
  refine call h4 ?_
  refine gg ?_
  refine call h5 ?_
  refine gg ?_
  refine call h6 ?_
  refine gg ?_
  refine call h7 ?_
  refine gg ?_
  refine call h8 ?_
  refine gg ?_
  refine call h9 ?_
  refine gg ?_
  refine call h10 ?_
  refine gg ?_
  exact ⟨by simp [retIs, resV, resL, resOne, mkTup, getS, getO, rdV, mkAgg, unL, V.un, TI.isAgg, XX_T, tt30, Tryz.f79], by simp [subO, getO, tt30, Tryz.f79]⟩
theorem app_ok (f a b : Tm) : AC Tryz.prog gl 77 [.pv (.agg f.cells), .pv (.slice [a.cells, b.cells])] [] (.ret (.pv (.agg (Tm.app (.app f a) b).cells))) [] := by
  have h1 := nn_ok (.app f a) rfl rfl
  have h2 := nn_ok (.app (.app f a) b) rfl rfl
  simp only [Tm.cells, Tm.node, Tm.kind, Tm.args, Tm.ty, Ty.cells, Ty.kind, Ty.args, List.map_nil, List.map_cons] at h1 h2 ⊢
  rw [f.cells_eq, a.cells_eq] at h1
  rw [f.cells_eq, a.cells_eq, b.cells_eq] at h2 ⊢
  refine body [(2, .box 2)] Tryz.func77 Tryz.ntmps77 ?_
  refine gg ?_
  refine ex_loop 3 (ex_round (kp [2, 4, 7, 8, 9] [2, 4] ?_))
  refine gg ?_
  refine call h1 ?_
  refine gg ?_
  refine ex_round (kp [2, 4, 7, 8, 9] [2, 4] ?_)
  refine gg ?_
  refine call h2 ?_
  refine gg ?_
  refine ex_round (kp [2, 4, 7, 8, 9] [2, 4] ?_)
  refine gg ?_
  exact ⟨by simp [retIs, resV, resL, resOne, mkTup, getS, getO, rdV, mkAgg, unL, V.un, TI.isAgg, XX_T, tt30, Tryz.f77], by simp [subO, getO, tt30, Tryz.f77]⟩
end Go.Proofs.YtodjpfpmhjdhbaaGreatDoor
namespace Go.Proofs.YtodjpfpmhjdhbaaGreatDoor
open Go.Lg
set_option maxRecDepth 10000
set_option maxHeartbeats 4000000
/-- an int that fits -/
def ints (l : List Int) : List (List PV) := l.map fun x => [.int x]
def dmod (x : Int) (k : Nat) : Nat := ((x.tmod k + k).tmod k).toNat
theorem tmod_bound (x : Int) (k : Nat) (hk : 0 < k) : -(k : Int) < x.tmod k ∧ x.tmod k < k := by
  have h1 := Int.tmod_lt_of_pos x (b := (k : Int)) (by omega)
  have h2 : -(k : Int) < x.tmod k := by
    have := Int.neg_tmod x k
    have h3 := Int.tmod_lt_of_pos (-x) (b := (k : Int)) (by omega)
    rw [Int.neg_tmod] at h3
    omega
  exact ⟨h2, h1⟩
theorem dmod_eq (x : Int) (k : Nat) (hk : 0 < k) : (x.tmod k + k).tmod k = dmod x k := by
  have h := tmod_bound x k hk
  have := Int.tmod_nonneg (k : Int) (a := x.tmod k + k) (by omega)
  unfold dmod
  omega
theorem dmod_lt (x : Int) (k : Nat) (hk : 0 < k) : dmod x k < k := by
  have h := (tmod_bound (x.tmod k + k) k hk).2
  rw [dmod_eq x k hk] at h
  omega
theorem mod_ok (x : Int) (k : Nat) (hk : 0 < k) (hk2 : k ≤ 1000000) : AC Tryz.prog gl 62 [.pv (.int x), .pv (.int k)] [] (.ret (.pv (.int (dmod x k)))) [] := by
  have h := tmod_bound x k hk
  have h0 : ¬ (k : Int) = 0 := by omega
  have e := dmod_eq x k hk
  refine body [] Tryz.func62 Tryz.ntmps62 ?_
  refine gg ?_
  exact ⟨by simp [retIs, resV, resL, resOne, mkTup, getS, getO, rdV, mkAgg, unL, V.un, TI.isAgg, XX_T, tt30, Tryz.f62], by simp [subO, getO, tt30, Tryz.f62]⟩
def deck (L : List Int) (at_ : Nat) : List (Nat × Ob) := [(900, .box [.pv (.slice (ints L)), .pv (.int at_)])]
def nxv (L : List Int) (at_ n : Nat) : Nat := if n < 1 ∨ L.length ≤ at_ then 0 else dmod (L.getD at_ 0) n
def nxa (L : List Int) (at_ n : Nat) : Nat := if n < 1 ∨ L.length ≤ at_ then at_ else at_ + 1
theorem nxv_lt (L : List Int) (at_ n : Nat) (h : 0 < n) : nxv L at_ n < n := by
  unfold nxv
  split
  · exact h
  · exact dmod_lt _ _ h
theorem ints_len (L : List Int) : (ints L).length = L.length := by simp [ints]
theorem ints_all (L : List Int) : ∀ y ∈ ints L, y.length = 1 := by simp [ints]
theorem next_ok (L : List Int) (at_ n : Nat) (hL : L.length ≤ 500) (hn : n ≤ 1000) : AC Tryz.prog gl 27 [.loc 900 0, .pv (.int n)] (deck L at_) (.ret (.pv (.int (nxv L at_ n)))) (deck L (nxa L at_ n)) := by
  unfold deck
  have hi := ints_len L
  have ha := ints_all L
  refine body [] Tryz.func27 Tryz.ntmps27 ?_
  unfold nxv nxa
  by_cases h1 : (n : Int) < 1
  · rw [if_pos (.inl (by omega)), if_pos (.inl (by omega))]
    refine gg ?_
    refine ⟨by rfl, ?_⟩
    refine gg ?_
    exact ⟨by simp [retIs, resV, resL, resOne, mkTup, getS, getO, rdV, mkAgg, unL, V.un, TI.isAgg, XX_T, tt30, Tryz.f27], by simp [subO, getO, tt30, Tryz.f27]⟩
  · by_cases h2 : (L.length : Int) ≤ at_
    · rw [if_pos (.inr (by omega)), if_pos (.inr (by omega))]
      refine gg ?_
      refine ⟨by rfl, ?_⟩
      refine gg ?_
      exact ⟨by simp [retIs, resV, resL, resOne, mkTup, getS, getO, rdV, mkAgg, unL, V.un, TI.isAgg, XX_T, tt30, Tryz.f27], by simp [subO, getO, tt30, Tryz.f27]⟩
    · rw [if_neg (by omega), if_neg (by omega)]
      have hm := mod_ok (L.getD at_ 0) n (by omega) (by omega)
      have hg : (ints L).getD at_ [] = [.int (L.getD at_ 0)] := by
        have : at_ < L.length := by omega
        simp [ints, List.getD, this]
      have hlt : (at_ : Int) < L.length := by omega
      refine gg ?_
      refine ⟨by rfl, ?_⟩
      refine gg ?_
      refine ⟨by rfl, ?_⟩
      refine gg ?_
      refine call hm ?_
      refine gg ?_
      exact ⟨by simp [retIs, resV, resL, resOne, mkTup, getS, getO, rdV, mkAgg, unL, V.un, TI.isAgg, XX_T, tt30, Tryz.f27], by simp [subO, getO, tt30, Tryz.f27]⟩
theorem new_ok (L : List Int) : AC Tryz.prog gl 10 [.pv (.slice (ints L))] [] (.ret (.loc 900 0)) (deck L 0) := by
  unfold deck
  refine body [(5, .box 900)] Tryz.func10 Tryz.ntmps10 ?_
  refine gg ?_
  exact ⟨by simp [retIs, resV, resL, resOne, mkTup, getS, getO, rdV, mkAgg, unL, V.un, TI.isAgg, XX_T, tt30, Tryz.f10], by simp [subO, getO, tt30, Tryz.f10]⟩
theorem few_ok (L : List Int) : AC Tryz.prog gl 8 [.pv (.slice (ints L))] [] (.ret (.pv (.bool (decide (L.length ≤ 500))))) [] := by
  have hi := ints_len L
  refine body [] Tryz.func8 Tryz.ntmps8 ?_
  by_cases h : (L.length : Int) ≤ 500
  · have h' : L.length ≤ 500 := by omega
    refine gg ?_
    exact ⟨by simp [retIs, resV, resL, resOne, mkTup, getS, getO, rdV, mkAgg, unL, V.un, TI.isAgg, XX_T, tt30, Tryz.f8, h'], by simp [subO, getO, tt30, Tryz.f8, h']⟩
  · have h' : ¬ L.length ≤ 500 := by omega
    refine gg ?_
    exact ⟨by simp [retIs, resV, resL, resOne, mkTup, getS, getO, rdV, mkAgg, unL, V.un, TI.isAgg, XX_T, tt30, Tryz.f8, h'], by simp [subO, getO, tt30, Tryz.f8, h']⟩
end Go.Proofs.YtodjpfpmhjdhbaaGreatDoor
