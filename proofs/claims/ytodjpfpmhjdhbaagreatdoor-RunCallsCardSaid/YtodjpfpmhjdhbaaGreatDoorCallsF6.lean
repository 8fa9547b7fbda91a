/- Part of the proof: contracts of the evaluator, of values and of the inference of types; no conditions. -/
import Derived.Test.YtodjpfpmhjdhbaaGreatDoorCallsF5
set_option linter.unusedVariables false
set_option linter.unusedSimpArgs false
set_option linter.unusedSectionVars false
/- Cells of data as values (run.of). -/
namespace Go.Proofs.YtodjpfpmhjdhbaaGreatDoor
open Go.Lg
set_option maxRecDepth 10000
set_option maxHeartbeats 4000000
theorem of_num (n c : Nat) (hc : c ≤ 10) : AC Tryz.prog gl 43 [.pv (.agg (itCell (.num n))), .loc 906 0] [(906, .box [.pv (.int c)])] (.ret (.pv (.tuple [.agg (valW (.num n)), .bool true]))) [(906, .box [.pv (.int ((c : Int) + 1))])] := by
  have h1 : ¬ (64 : Int) < (c : Int) + 1 := by omega
  simp only [itCell, valW]
  refine body [(37, .arr 907 1 3)] Tryz.func43 Tryz.ntmps43 ?_
  refine gg ?_
  refine ⟨by rfl, ?_⟩
  refine gg ?_
  refine frz 907 (es := []) ?_
  refine ex_loop 1 (ex_round ?_)
  refine gg ?_
  exact ⟨by simp [retIs, resV, resL, resOne, mkTup, getS, getO, rdV, mkAgg, unL, V.un, TI.isAgg, XX_T, tt41, Tryz.f43], by simp [subO, getO, tt41, Tryz.f43]⟩
theorem of_unit (c : Nat) (hc : c ≤ 10) : AC Tryz.prog gl 43 [.pv (.agg (itCell .unit)), .loc 906 0] [(906, .box [.pv (.int c)])] (.ret (.pv (.tuple [.agg (valW .unit), .bool true]))) [(906, .box [.pv (.int ((c : Int) + 1))])] := by
  have h1 : ¬ (64 : Int) < (c : Int) + 1 := by omega
  simp only [itCell, valW]
  refine body [(37, .arr 907 1 3)] Tryz.func43 Tryz.ntmps43 ?_
  refine gg ?_
  refine ⟨by rfl, ?_⟩
  refine gg ?_
  refine frz 907 (es := []) ?_
  refine ex_loop 1 (ex_round ?_)
  refine gg ?_
  exact ⟨by simp [retIs, resV, resL, resOne, mkTup, getS, getO, rdV, mkAgg, unL, V.un, TI.isAgg, XX_T, tt41, Tryz.f43], by simp [subO, getO, tt41, Tryz.f43]⟩
theorem of_nil (c : Nat) (hc : c ≤ 10) : AC Tryz.prog gl 43 [.pv (.agg (itCell (.list []))), .loc 906 0] [(906, .box [.pv (.int c)])] (.ret (.pv (.tuple [.agg (valW (.list [])), .bool true]))) [(906, .box [.pv (.int ((c : Int) + 1))])] := by
  have h1 : ¬ (64 : Int) < (c : Int) + 1 := by omega
  simp only [itCell, valW, numsP, numsR, List.map_nil]
  refine body [(37, .arr 907 1 3)] Tryz.func43 Tryz.ntmps43 ?_
  refine gg ?_
  refine ⟨by rfl, ?_⟩
  refine gg ?_
  refine frz 907 (es := []) ?_
  refine ex_loop 1 (ex_round ?_)
  refine gg ?_
  exact ⟨by simp [retIs, resV, resL, resOne, mkTup, getS, getO, rdV, mkAgg, unL, V.un, TI.isAgg, XX_T, tt41, Tryz.f43], by simp [subO, getO, tt41, Tryz.f43]⟩
theorem of_cons (l : List Nat) (hl : l ≠ []) (hz : l.length ≤ 100000) (c : Nat) (hc : c ≤ 10) : AC Tryz.prog gl 43 [.pv (.agg (itCell (.list l))), .loc 906 0] [(906, .box [.pv (.int c)])] (.ret (.pv (.tuple [.agg (valW (.list l)), .bool true]))) [(906, .box [.pv (.int ((c : Int) + 1))])] := by
  have h1 : ¬ (64 : Int) < (c : Int) + 1 := by omega
  have e : numsP l = .slice (numsR l) := by cases l with | nil => exact absurd rfl hl | cons _ _ => rfl
  have hall := numsR_all l
  have hlz : (numsR l).length ≤ 100000 := by simpa [numsR] using hz
  simp only [itCell, valW, e]
  generalize numsR l = qs at *
  refine body [] Tryz.func43 Tryz.ntmps43 ?_
  refine gg ?_
  refine ⟨by rfl, ?_⟩
  refine gg ?_
  refine ex_loop 1 (ex_round ?_)
  refine gg ?_
  exact ⟨by simp [retIs, resV, resL, resOne, mkTup, getS, getO, rdV, mkAgg, unL, V.un, TI.isAgg, XX_T, tt41, Tryz.f43], by simp [subO, getO, tt41, Tryz.f43]⟩
theorem of_pair (x y : It) (va vb : List PV) (ha : AC Tryz.prog gl 43 [.pv (.agg (itCell x)), .loc 906 0] [(906, .box [.pv (.int 1)])] (.ret (.pv (.tuple [.agg va, .bool true]))) [(906, .box [.pv (.int 2)])])
    (hb : AC Tryz.prog gl 43 [.pv (.agg (itCell y)), .loc 906 0] [(906, .box [.pv (.int 2)])] (.ret (.pv (.tuple [.agg vb, .bool true]))) [(906, .box [.pv (.int 3)])])
    (sa : ∃ k n s, va = [.int k, .int n, s, .nils] ∧ s.one = true) (sb : ∃ k n s, vb = [.int k, .int n, s, .nils] ∧ s.one = true) :
    AC Tryz.prog gl 43 [.pv (.agg (itCell (.pair x y))), .loc 906 0] [(906, .box [.pv (.int 0)])] (.ret (.pv (.tuple [.agg [.int 3, .int 0, .slice [], .slice [va, vb]], .bool true]))) [(906, .box [.pv (.int 3)])] := by
  obtain ⟨k1, n1, s1, rfl, o1⟩ := sa
  obtain ⟨k2, n2, s2, rfl, o2⟩ := sb
  obtain ⟨k3, n3, a3, s3, s4, ea, hs3, hs4⟩ := itCell_shape x
  obtain ⟨k5, n5, a5, s5, s6, eb, hs5, hs6⟩ := itCell_shape y
  have w1 := vcells_one o1
  have w2 := vcells_one o2
  have w3 := vcells_one hs3
  have w4 := vcells_one hs4
  have w5 := vcells_one hs5
  have w6 := vcells_one hs6
  have v1 : (V.pv s1).one = true := by rw [one_pv]; exact o1
  have v2 : (V.pv s2).one = true := by rw [one_pv]; exact o2
  have v3 : (V.pv s3).one = true := by rw [one_pv]; exact hs3
  have v4 : (V.pv s4).one = true := by rw [one_pv]; exact hs4
  have v5 : (V.pv s5).one = true := by rw [one_pv]; exact hs5
  have v6 : (V.pv s6).one = true := by rw [one_pv]; exact hs6
  simp only [itCell, ea, eb] at *
  clear ea eb
  refine body [(37, .arr 907 1 3)] Tryz.func43 Tryz.ntmps43 ?_
  refine gg ?_
  refine ⟨by rfl, ?_⟩
  refine gg ?_
  refine frz 907 (es := []) ?_
  refine th 6 3 908 4 41 ?_
  refine ex_loop 3 (ex_round ?_)
  refine gg ?_
  refine call ha ?_
  refine gg ?_
  refine ex_round ?_
  refine kp [1, 2, 4, 5, 6, 40, 41, 42] [4, 6, 906, 908] ?_
  refine gg ?_
  refine call hb ?_
  refine gg ?_
  refine ex_round ?_
  refine frz 908 (es := [[.int k1, .int n1, s1, .nils], [.int k2, .int n2, s2, .nils]]) ?_
  refine gg ?_
  exact ⟨by simp [retIs, resV, resL, resOne, mkTup, getS, getO, rdV, mkAgg, unL, V.un, TI.isAgg, XX_T, tt41, Tryz.f43], by simp [subO, getO, tt41, Tryz.f43]⟩
end Go.Proofs.YtodjpfpmhjdhbaaGreatDoor
/- Values are checked (value.nodes, value.Check), and run.Value. -/
namespace Go.Proofs.YtodjpfpmhjdhbaaGreatDoor
open Go.Lg
set_option maxRecDepth 10000
set_option maxHeartbeats 4000000
theorem neg_ok (n : Nat) : AC Tryz.prog gl 116 [.pv (.int n)] [] (.ret (.pv (.bool false))) [] := by
  have h : ¬ (n : Int) < 0 := by omega
  refine body [] Tryz.func116 Tryz.ntmps116 ?_
  refine gg ?_
  exact ⟨by simp [retIs, resV, resL, resOne, mkTup, getS, getO, rdV, mkAgg, unL, V.un, TI.isAgg, XX_T, tt41, Tryz.f116], by simp [subO, getO, tt41, Tryz.f116]⟩
noncomputable def ixI (cc : List (List PV)) (k : Nat) : St := ⟨[(0, .pv (.slice cc)), (1, .fn 116 []), (6, .pv (.slice cc)), (7, .pv (.int cc.length)), (8, .pv (.int k))], [], []⟩
theorem idx_ok (l : List Nat) (hl : l.length ≤ 100000) : AC Tryz.prog gl 136 [.pv (.slice (numsR l)), .fn 116 []] [] (.ret (.pv (.int (-1)))) [] := by
  have hal := numsR_all l
  have hlen : (numsR l).length = l.length := by simp [numsR]
  have hg : ∀ k, k < l.length → ∃ a : Nat, (numsR l).getD k [] = [.int a] := by
    intro k hk
    refine ⟨l[k], ?_⟩
    simp [numsR, List.getD, hk]
  generalize numsR l = cc at *
  rw [← hlen] at hg hl
  clear hlen
  refine body [] Tryz.func136 Tryz.ntmps136 ?_
  refine gg ?_
  refine AWP.loopN cc.length (ixI cc) ?_ ?_
  · refine ⟨by simp [ixI, slotsLe, getS], by simp [ixI, subO, getO], by simp [ixI, subL, namesSl, V.names, namesL, namesOb, Ob.names, XX_given]⟩
  intro k hkn
  unfold ixI
  by_cases hk : k < cc.length
  · obtain ⟨a, ha⟩ := hg k hk
    have k1 : (k : Int) < cc.length := by omega
    have k2 : (0 : Int) ≤ (k : Int) := by omega
    have hn := neg_ok a
    clear hg
    refine gg ?_
    refine call hn ?_
    refine gg ?_
    refine ⟨hk, ?_, ?_, ?_⟩
    · simp [slotsLe, getS]
    · simp [subO, getO]
    · simp [subL, namesSl, V.names, namesL, namesOb, Ob.names, XX_given]
  · have k1 : ¬ (k : Int) < cc.length := by omega
    clear hg
    refine gg ?_
    exact ⟨by simp [retIs, resV, resL, resOne, mkTup, getS, getO, rdV, mkAgg, unL, V.un, TI.isAgg, XX_T, tt41, Tryz.f136], by simp [subO, getO, tt41, Tryz.f136]⟩
theorem cont_ok (l : List Nat) (hl : l.length ≤ 100000) : AC Tryz.prog gl 117 [.pv (.slice (numsR l)), .fn 116 []] [] (.ret (.pv (.bool false))) [] := by
  have h := idx_ok l hl
  generalize numsR l = cc at *
  refine body [] Tryz.func117 Tryz.ntmps117 ?_
  refine gg ?_
  refine call h ?_
  refine gg ?_
  exact ⟨by simp [retIs, resV, resL, resOne, mkTup, getS, getO, rdV, mkAgg, unL, V.un, TI.isAgg, XX_T, tt41, Tryz.f117], by simp [subO, getO, tt41, Tryz.f117]⟩
theorem nodes_num (n : Nat) : AC Tryz.prog gl 85 [.pv (.agg (valW (.num n)))] [] (.ret (.pv (.tuple [.int 1, .bool true]))) [] := by
  have h : (0 : Int) ≤ n := by omega
  simp only [valW]
  refine body [] Tryz.func85 Tryz.ntmps85 ?_
  refine gg ?_
  refine ex_loop 1 (ex_round ?_)
  refine gg ?_
  exact ⟨by simp [retIs, resV, resL, resOne, mkTup, getS, getO, rdV, mkAgg, unL, V.un, TI.isAgg, XX_T, tt41, Tryz.f85], by simp [subO, getO, tt41, Tryz.f85]⟩
theorem nodes_unit : AC Tryz.prog gl 85 [.pv (.agg (valW .unit))] [] (.ret (.pv (.tuple [.int 1, .bool true]))) [] := by
  simp only [valW]
  refine body [] Tryz.func85 Tryz.ntmps85 ?_
  refine gg ?_
  refine ex_loop 1 (ex_round ?_)
  refine gg ?_
  exact ⟨by simp [retIs, resV, resL, resOne, mkTup, getS, getO, rdV, mkAgg, unL, V.un, TI.isAgg, XX_T, tt41, Tryz.f85], by simp [subO, getO, tt41, Tryz.f85]⟩
theorem nodes_list (l : List Nat) (hl : l.length ≤ 100000) : AC Tryz.prog gl 85 [.pv (.agg (valW (.list l)))] [] (.ret (.pv (.tuple [.int 1, .bool true]))) [] := by
  have h := cont_ok l hl
  simp only [valW]
  generalize numsR l = cc at *
  refine body [] Tryz.func85 Tryz.ntmps85 ?_
  refine gg ?_
  refine call h ?_
  refine gg ?_
  refine ex_loop 1 (ex_round ?_)
  refine gg ?_
  exact ⟨by simp [retIs, resV, resL, resOne, mkTup, getS, getO, rdV, mkAgg, unL, V.un, TI.isAgg, XX_T, tt41, Tryz.f85], by simp [subO, getO, tt41, Tryz.f85]⟩
theorem nodes_base {B : Nat} (hB : B ≤ 100000) {r : Rs} {t : Ty} (h : RsT B r t) (hp : t = .nat ∨ t = .list ∨ t = .unit) : AC Tryz.prog gl 85 [.pv (.agg (valW r))] [] (.ret (.pv (.tuple [.int 1, .bool true]))) [] := by
  rcases hp with rfl | rfl | rfl
  · cases h; exact nodes_num _
  · cases h with
    | list h1 h2 => exact nodes_list _ (by omega)
  · cases h; exact nodes_unit
theorem nodes_pair {B : Nat} (hB : B ≤ 100000) {a b : Rs} {s t : Ty} (ha : RsT B a s) (hb : RsT B b t) (hs : s = .nat ∨ s = .list ∨ s = .unit) (ht : t = .nat ∨ t = .list ∨ t = .unit) :
    AC Tryz.prog gl 85 [.pv (.agg (valW (.pair a b)))] [] (.ret (.pv (.tuple [.int 3, .bool true]))) [] := by
  have h1 := nodes_base hB ha hs
  have h2 := nodes_base hB hb ht
  obtain ⟨k5, n5, s5, e5, o5⟩ := valW_shape ha hs
  obtain ⟨k6, n6, s6, e6, o6⟩ := valW_shape hb ht
  have w5 := vcells_one o5
  have w6 := vcells_one o6
  have v5 : (V.pv s5).one = true := by rw [one_pv]; exact o5
  have v6 : (V.pv s6).one = true := by rw [one_pv]; exact o6
  simp only [valW, e5, e6] at h1 h2 ⊢
  clear e5 e6
  refine body [] Tryz.func85 Tryz.ntmps85 ?_
  refine gg ?_
  refine ex_loop 3 (ex_round ?_)
  refine gg ?_
  refine call h1 ?_
  refine gg ?_
  refine ex_round ?_
  refine kp [1, 5, 6, 82, 83, 84] [] ?_
  refine gg ?_
  refine call h2 ?_
  refine gg ?_
  refine ex_round ?_
  refine gg ?_
  exact ⟨by simp [retIs, resV, resL, resOne, mkTup, getS, getO, rdV, mkAgg, unL, V.un, TI.isAgg, XX_T, tt41, Tryz.f85], by simp [subO, getO, tt41, Tryz.f85]⟩
theorem vcheck_of (v : List PV) (n : Nat) (hn : n ≤ 64) (sv : ∃ k m s q, v = [.int k, .int m, s, q] ∧ s.one = true ∧ q.one = true) (h : AC Tryz.prog gl 85 [.pv (.agg v)] [] (.ret (.pv (.tuple [.int n, .bool true]))) []) : AC Tryz.prog gl 44 [.pv (.agg v)] [] (.ret (.pv (.int 0))) [] := by
  obtain ⟨k, m, s, q, rfl, o1, o2⟩ := sv
  have hn' : ¬ (64 : Int) < n := by omega
  have w1 := vcells_one o1
  have w2 := vcells_one o2
  have v1 : (V.pv s).one = true := by rw [one_pv]; exact o1
  have v2 : (V.pv q).one = true := by rw [one_pv]; exact o2
  refine body [] Tryz.func44 Tryz.ntmps44 ?_
  refine gg ?_
  refine call h ?_
  refine gg ?_
  exact ⟨by simp [retIs, resV, resL, resOne, mkTup, getS, getO, rdV, mkAgg, unL, V.un, TI.isAgg, XX_T, tt41, Tryz.f44], by simp [subO, getO, tt41, Tryz.f44]⟩
theorem value_of (x : It) (v : List PV) (n : Nat) (sv : ∃ k m s q, v = [.int k, .int m, s, q] ∧ s.one = true ∧ q.one = true) (ho : AC Tryz.prog gl 43 [.pv (.agg (itCell x)), .loc 906 0] [(906, .box [.pv (.int 0)])] (.ret (.pv (.tuple [.agg v, .bool true]))) [(906, .box [.pv (.int n)])])
    (hc : AC Tryz.prog gl 44 [.pv (.agg v)] [] (.ret (.pv (.int 0))) []) : AC Tryz.prog gl 15 [.pv (.agg (itCell x))] [] (.ret (.pv (.tuple [.agg v, .bool true]))) [] := by
  obtain ⟨k, m, s, q, rfl, o1, o2⟩ := sv
  obtain ⟨k3, n3, a3, s3, s4, ea, hs3, hs4⟩ := itCell_shape x
  have w1 := vcells_one o1
  have w2 := vcells_one o2
  have w3 := vcells_one hs3
  have w4 := vcells_one hs4
  have v1 : (V.pv s).one = true := by rw [one_pv]; exact o1
  have v2 : (V.pv q).one = true := by rw [one_pv]; exact o2
  have v3 : (V.pv s3).one = true := by rw [one_pv]; exact hs3
  have v4 : (V.pv s4).one = true := by rw [one_pv]; exact hs4
  simp only [ea] at *
  clear ea
  refine body [(4, .box 906)] Tryz.func15 Tryz.ntmps15 ?_
  refine gg ?_
  refine call ho ?_
  refine gg ?_
  refine call hc ?_
  refine gg ?_
  exact ⟨by simp [retIs, resV, resL, resOne, mkTup, getS, getO, rdV, mkAgg, unL, V.un, TI.isAgg, XX_T, tt41, Tryz.f15], by simp [subO, getO, tt41, Tryz.f15]⟩
/-- a cell and a result that are the same data -/
inductive SameD : It → Rs → Prop
  | num (n) : SameD (.num n) (.num n)
  | list (l) : SameD (.list l) (.list l)
  | unit : SameD .unit .unit
  | pair {a b x y} : SameD a x → SameD b y → SameD (.pair a b) (.pair x y)
theorem of_base {B : Nat} (hB : B ≤ 100000) {x : It} {r : Rs} {t : Ty} (h : RsT B r t) (hs : SameD x r) (hp : t = .nat ∨ t = .list ∨ t = .unit) (c : Nat) (hc : c ≤ 10) :
    AC Tryz.prog gl 43 [.pv (.agg (itCell x)), .loc 906 0] [(906, .box [.pv (.int c)])] (.ret (.pv (.tuple [.agg (valW r), .bool true]))) [(906, .box [.pv (.int ((c : Int) + 1))])] := by
  rcases hp with rfl | rfl | rfl
  · cases h; cases hs; exact of_num _ c hc
  · cases h with
    | @list l h1 h2 =>
      cases hs
      by_cases e : l = []
      · subst e; exact of_nil c hc
      · exact of_cons l e (by omega) c hc
  · cases h; cases hs; exact of_unit c hc
/-- run.Value of the cell of data -/
theorem value_ok {B : Nat} (hB : B ≤ 100000) {x : It} {r : Rs} {t : Ty} (h : RsT B r t) (hs : SameD x r) (hp : t.plain) : AC Tryz.prog gl 15 [.pv (.agg (itCell x))] [] (.ret (.pv (.tuple [.agg (valW r), .bool true]))) [] := by
  rcases plain_cases hp with hb | ⟨s, hb, rfl⟩
  · obtain ⟨k, n, s, e, o⟩ := valW_shape h hb
    have h1 := of_base hB h hs hb 0 (by omega)
    exact value_of x _ 1 ⟨k, n, s, .nils, e, o, rfl⟩ h1 (vcheck_of _ 1 (by omega) ⟨k, n, s, .nils, e, o, rfl⟩ (nodes_base hB h hb))
  · cases h with
    | @pair a b _ _ ha hb' =>
      cases hs with
      | @pair x1 x2 _ _ s1 s2 =>
        have hb2 : s = .nat ∨ s = .list ∨ s = .unit := by rcases hb with rfl | rfl <;> simp
        obtain ⟨k, n, q, e, o⟩ := valW_shape ha (.inl rfl)
        obtain ⟨k', n', q', e', o'⟩ := valW_shape hb' hb2
        have h1 := of_pair x1 x2 (valW a) (valW b) (of_base hB ha s1 (.inl rfl) 1 (by omega)) (of_base hB hb' s2 hb2 2 (by omega)) ⟨k, n, q, e, o⟩ ⟨k', n', q', e', o'⟩
        exact value_of _ _ 3 ⟨3, 0, .slice [], .slice [valW a, valW b], rfl, rfl, rfl⟩ h1 (vcheck_of _ 3 (by omega) ⟨3, 0, .slice [], .slice [valW a, valW b], rfl, rfl, rfl⟩ (nodes_pair hB ha hb' (.inl rfl) hb2))
/-- the value of the evaluation and that of the run are the same -/
theorem vsame_ok {B : Nat} (hB : B ≤ 100000) {r : Rs} {t : Ty} (h : RsT B r t) (hp : t.plain) : AC Tryz.prog gl 16 [.pv (.agg (valC r)), .pv (.agg (valW r))] [] (.ret (.pv (.bool true))) [] := by
  rcases plain_cases hp with hb | ⟨s, hb, rfl⟩
  · exact vsame_base hB h hb
  · cases h with
    | pair ha hb' => exact vsame_pair hB ha hb' (.inl rfl) (by rcases hb with rfl | rfl <;> simp)
theorem plain_ok2 {B : Nat} (hB : B ≤ 100000) {r : Rs} {t : Ty} (h : RsT B r t) (hp : t.plain) : AC Tryz.prog gl 54 [.pv (.agg (rsC r)), .pv (.agg t.cells)] [] (.ret (.pv (.agg (valC r)))) [] := by
  rcases plain_cases hp with hb | ⟨s, hb, rfl⟩
  · exact plain_base hB h hb
  · cases h with
    | pair ha hb' => exact plain_pair hB ha hb' (.inl rfl) (by rcases hb with rfl | rfl <;> simp)
end Go.Proofs.YtodjpfpmhjdhbaaGreatDoor
/- ref06.Call without values, ref06.Eval. -/
namespace Go.Proofs.YtodjpfpmhjdhbaaGreatDoor
open Go.Lg
set_option maxRecDepth 10000
set_option maxHeartbeats 4000000
end Go.Proofs.YtodjpfpmhjdhbaaGreatDoor
