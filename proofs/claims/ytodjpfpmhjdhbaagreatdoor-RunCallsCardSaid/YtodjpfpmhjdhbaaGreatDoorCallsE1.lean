/- Part of the proof: contracts of the checks, of cells and values, of Run and Call; no conditions. -/
import Derived.Test.YtodjpfpmhjdhbaaGreatDoorCallsD9
import Derived.Test.YtodjpfpmhjdhbaaGreatDoorCallsB1
set_option linter.unusedVariables false
set_option linter.unusedSimpArgs false
set_option linter.unusedSectionVars false
namespace Go.Proofs.YtodjpfpmhjdhbaaGreatDoor
open Go.Lg
set_option maxRecDepth 10000
set_option maxHeartbeats 4000000
noncomputable def oO : List (Nat × Ob) := [(931, .box [.map 930]), (932, .box [.fn 100 [.loc 931 0, .loc 932 0]]), (930, .cache DatP cellF)]
theorem out_num (n : Nat) : AC Tryz.prog gl 100 [.pv (itP (.num n)), .loc 931 0, .loc 932 0] oO (.ret (.pv (.agg (itCell (.num n))))) oO := by
  have hD : DatP (itP (.num n)) := ⟨_, .num n, rfl⟩
  have hF := cellF_itP (.num n)
  have hv := vsize_ok []
  simp only [itP, itCell, oO, varsP, linkP, numsP, List.length_nil, Int.cast_ofNat_Int] at *
  refine body [] Tryz.func100 Tryz.ntmps100 ?_
  generalize DatP = D at *
  generalize cellF = F at *
  refine gg ?_
  refine look (n := 930) (F := F) hD ?_
  intro b
  simp only [St.eff, putS, updAll, List.nil_append]
  cases b with
  | true =>
    simp only [cond_true]
    rw [hF]
    refine gg ?_
    exact ⟨by simp [retIs, resV, resL, resOne, mkTup, getS, getO, rdV, mkAgg, unL, V.un, TI.isAgg, XX_T, tt47, Tryz.f100], by simp [subO, getO, tt47, Tryz.f100]⟩
  | false =>
    simp only [cond_false]
    refine gg ?_
    refine ⟨by rfl, ?_⟩
    refine gg ?_
    refine ex_loop 1 (ex_round ?_)
    refine gg ?_
    refine call hv ?_
    refine gg ?_
    exact ⟨by simp [retIs, resV, resL, resOne, mkTup, getS, getO, rdV, mkAgg, unL, V.un, TI.isAgg, XX_T, tt47, Tryz.f100], by simp [subO, getO, tt47, Tryz.f100]⟩
theorem out_unit  : AC Tryz.prog gl 100 [.pv (itP (.unit)), .loc 931 0, .loc 932 0] oO (.ret (.pv (.agg (itCell (.unit))))) oO := by
  have hD : DatP (itP (.unit)) := ⟨_, Dat.unit, rfl⟩
  have hF := cellF_itP (Dat.unit)
  have hv := vsize_ok []
  simp only [itP, itCell, oO, varsP, linkP, numsP, List.length_nil, Int.cast_ofNat_Int] at *
  refine body [] Tryz.func100 Tryz.ntmps100 ?_
  generalize DatP = D at *
  generalize cellF = F at *
  refine gg ?_
  refine look (n := 930) (F := F) hD ?_
  intro b
  simp only [St.eff, putS, updAll, List.nil_append]
  cases b with
  | true =>
    simp only [cond_true]
    rw [hF]
    refine gg ?_
    exact ⟨by simp [retIs, resV, resL, resOne, mkTup, getS, getO, rdV, mkAgg, unL, V.un, TI.isAgg, XX_T, tt47, Tryz.f100], by simp [subO, getO, tt47, Tryz.f100]⟩
  | false =>
    simp only [cond_false]
    refine gg ?_
    refine ⟨by rfl, ?_⟩
    refine gg ?_
    refine ex_loop 1 (ex_round ?_)
    refine gg ?_
    refine call hv ?_
    refine gg ?_
    exact ⟨by simp [retIs, resV, resL, resOne, mkTup, getS, getO, rdV, mkAgg, unL, V.un, TI.isAgg, XX_T, tt47, Tryz.f100], by simp [subO, getO, tt47, Tryz.f100]⟩
theorem out_nil  : AC Tryz.prog gl 100 [.pv (itP (.list [])), .loc 931 0, .loc 932 0] oO (.ret (.pv (.agg (itCell (.list []))))) oO := by
  have hD : DatP (itP (.list [])) := ⟨_, Dat.list [], rfl⟩
  have hF := cellF_itP (Dat.list [])
  have hv := vsize_ok []
  simp only [itP, itCell, oO, varsP, linkP, numsP, List.length_nil, Int.cast_ofNat_Int] at *
  refine body [] Tryz.func100 Tryz.ntmps100 ?_
  generalize DatP = D at *
  generalize cellF = F at *
  refine gg ?_
  refine look (n := 930) (F := F) hD ?_
  intro b
  simp only [St.eff, putS, updAll, List.nil_append]
  cases b with
  | true =>
    simp only [cond_true]
    rw [hF]
    refine gg ?_
    exact ⟨by simp [retIs, resV, resL, resOne, mkTup, getS, getO, rdV, mkAgg, unL, V.un, TI.isAgg, XX_T, tt47, Tryz.f100], by simp [subO, getO, tt47, Tryz.f100]⟩
  | false =>
    simp only [cond_false]
    refine gg ?_
    refine ⟨by rfl, ?_⟩
    refine gg ?_
    refine ex_loop 1 (ex_round ?_)
    refine gg ?_
    refine call hv ?_
    refine gg ?_
    exact ⟨by simp [retIs, resV, resL, resOne, mkTup, getS, getO, rdV, mkAgg, unL, V.un, TI.isAgg, XX_T, tt47, Tryz.f100], by simp [subO, getO, tt47, Tryz.f100]⟩
end Go.Proofs.YtodjpfpmhjdhbaaGreatDoor
namespace Go.Proofs.YtodjpfpmhjdhbaaGreatDoor
open Go.Lg
set_option maxRecDepth 10000
set_option maxHeartbeats 4000000
def numsC (L : List Nat) : List (List PV) := L.map fun (n : Nat) => [.int n]
theorem numsC_snoc {L : List Nat} {k y : Nat} {t : List Nat} (h : L.drop k = y :: t) : numsC (L.take (k + 1)) = numsC (L.take k) ++ [[.int y]] := by
  have hk : L[k]? = some y := by
    have : (L.drop k)[0]? = some y := by rw [h]; rfl
    simpa using this
  simp [numsC, List.take_add_one, hk]
theorem out_cons (L : List Nat) (hL : L ≠ []) (hlen : L.length ≤ 1000000) : AC Tryz.prog gl 100 [.pv (itP (.list L)), .loc 931 0, .loc 932 0] oO (.ret (.pv (.agg (itCell (.list L))))) oO := by
  have hD : DatP (itP (.list L)) := ⟨_, .list L, rfl⟩
  have hF := cellF_itP (.list L)
  have hv := vsize_ok []
  have hn : numsP L = .slice (numsC L) := by
    cases L with
    | nil => exact absurd rfl hL
    | cons h t => rfl
  have hlp : ∃ ls, linkP L = .ptr ls := by
    cases L with
    | nil => exact absurd rfl hL
    | cons h t => exact ⟨_, rfl⟩
  have hvt := vcells_one (linkP_one L)
  have hvo : (V.pv (linkP L)).one = true := by rw [one_pv]; exact linkP_one L
  simp only [itP, itCell, oO, varsP, hn, List.length_nil, Int.cast_ofNat_Int] at *
  refine body [] Tryz.func100 Tryz.ntmps100 ?_
  generalize DatP = D at *
  generalize cellF = F at *
  generalize hll : linkP L = lp at *
  refine gg ?_
  refine look (n := 930) (F := F) hD ?_
  intro b
  simp only [St.eff, putS, updAll, List.nil_append]
  cases b with
  | true =>
    simp only [cond_true]
    rw [hF]
    refine gg ?_
    exact ⟨by simp [retIs, resV, resL, resOne, mkTup, getS, getO, rdV, mkAgg, unL, V.un, TI.isAgg, XX_T, tt47, Tryz.f100], by simp [subO, getO, tt47, Tryz.f100]⟩
  | false =>
    simp only [cond_false]
    refine gg ?_
    refine ⟨by rfl, ?_⟩
    refine gg ?_
    refine th 7 3 940 1 3 ?_
    refine AWP.loopN L.length (fun k => ⟨[(0, .pv (.ptr [.int 2, .int 0, lp, .nil, .nil, .int 0, .nil, .int 0, .bool false])), (1, .loc 931 0), (2, .loc 932 0), (4, .loc 4 0), (7, .loc 7 0), (8, .pv (linkP (L.drop k)))],
      [(931, .box [.map 930]), (932, .box [.fn 100 [.loc 931 0, .loc 932 0]]), (930, .cache D F), (4, .box [.pv (.int 0), .pv (.int 0), .pv (.int 0), .pv .nils, .pv .nils]), (7, .box [.pv (.int 2), .pv (.int 0), .pv (.int 0), .arr 940 k k, .pv .nils]), (940, .arr k 1 3 (pvE (numsC (L.take k))))], [940, 7, 4, 931, 932, 930]⟩) ?_ ?_
    · refine ⟨by simp [slotsLe, getS, hll], by simp [subO, getO, numsC, pvE], by simp [subL, namesSl, V.names, namesOb, Ob.names, namesL, namesE, namesE_pvE, XX_given]⟩
    intro k hkk
    have htl : (numsC (L.take k)).length = k := by simp [numsC]; omega
    have htt : (numsC (L.take k)).take k = numsC (L.take k) := List.take_of_length_le (by omega)
    by_cases h : k < L.length
    · obtain ⟨y, t, hyt⟩ : ∃ y t, L.drop k = y :: t := by
        cases e : L.drop k with
        | nil => simp at e; omega
        | cons y t => exact ⟨y, t, rfl⟩
      have ht1 : L.drop (k + 1) = t := by rw [← List.drop_drop, hyt]; rfl
      have hts := numsC_snoc hyt
      rw [hyt]
      simp only [linkP] at *
      generalize ((t.length + 1 : Nat) : Int) = tn at *
      generalize hlt : linkP t = vt at *
      generalize numsC (L.take k) = TS at *
      refine gg ?_
      refine ⟨by rfl, ?_⟩
      refine gg ?_
      refine ⟨h, ?_, ?_, ?_⟩
      · simp [slotsLe, getS, ht1, hlt]
      · simp [subO, getO, hts, pvE, pvL, htt]
      · simp [subL, namesSl, V.names, namesOb, Ob.names, namesL, namesE, namesE_pvE, XX_given]
    · have hkl : k = L.length := by omega
      subst hkl
      have hdn : L.drop L.length = [] := by simp
      have htk : L.take L.length = L := by simp
      rw [hdn]
      rw [htk] at htl htt ⊢
      simp only [linkP]
      generalize numsC L = TS at *
      refine frz 940 ?_ (hσ := by simp only [St.frz, frzS, frzA, frzV, frzL, frzO, frzOb, Nat.reduceEqDiff, false_and, and_self, true_and, ↓reduceIte, htt]; rfl)
      refine gg ?_
      refine call hv ?_
      refine gg ?_
      exact ⟨by simp [retIs, resV, resL, resOne, mkTup, getS, getO, rdV, mkAgg, unL, V.un, TI.isAgg, XX_T, tt47, Tryz.f100], by simp [subO, getO, tt47, Tryz.f100]⟩
end Go.Proofs.YtodjpfpmhjdhbaaGreatDoor
namespace Go.Proofs.YtodjpfpmhjdhbaaGreatDoor
open Go.Lg
set_option maxRecDepth 10000
set_option maxHeartbeats 4000000
theorem itCell_shape (x : It) : ∃ k n a s1 s2, itCell x = [.int k, .int n, .int a, s1, s2] ∧ s1.one = true ∧ s2.one = true := by
  cases x with
  | list l => refine ⟨_, _, _, _, _, rfl, ?_, rfl⟩; cases l <;> rfl
  | _ => exact ⟨_, _, _, _, _, rfl, rfl, rfl⟩
theorem out_pair (a b : It) (hda : Dat a) (hdb : Dat b) (ha : AC Tryz.prog gl 100 [.pv (itP a), .loc 931 0, .loc 932 0] oO (.ret (.pv (.agg (itCell a)))) oO) (hb : AC Tryz.prog gl 100 [.pv (itP b), .loc 931 0, .loc 932 0] oO (.ret (.pv (.agg (itCell b)))) oO) :
    AC Tryz.prog gl 100 [.pv (itP (.pair a b)), .loc 931 0, .loc 932 0] oO (.ret (.pv (.agg (itCell (.pair a b))))) oO := by
  have hD : DatP (itP (.pair a b)) := ⟨_, .pair hda hdb, rfl⟩
  have hF := cellF_itP (.pair hda hdb)
  have hv := vsize_ok []
  obtain ⟨k1, n1, a1, s1, s2, ea, hs1, hs2⟩ := itCell_shape a
  obtain ⟨k3, n3, a3, s3, s4, eb, hs3, hs4⟩ := itCell_shape b
  have w1 := vcells_one hs1
  have w2 := vcells_one hs2
  have w3 := vcells_one hs3
  have w4 := vcells_one hs4
  have u1 : (V.pv s1).one = true := by rw [one_pv]; exact hs1
  have u2 : (V.pv s2).one = true := by rw [one_pv]; exact hs2
  have u3 : (V.pv s3).one = true := by rw [one_pv]; exact hs3
  have u4 : (V.pv s4).one = true := by rw [one_pv]; exact hs4
  have v1 := vcells_one (itP_one a)
  have v2 := vcells_one (itP_one b)
  have o1 : (V.pv (itP a)).one = true := by rw [one_pv]; exact itP_one a
  have o2 : (V.pv (itP b)).one = true := by rw [one_pv]; exact itP_one b
  simp only [itP, itCell, oO, varsP, ea, eb, List.length_nil, Int.cast_ofNat_Int] at *
  clear ea eb
  refine body [] Tryz.func100 Tryz.ntmps100 ?_
  generalize DatP = D at *
  generalize cellF = F at *
  generalize itP a = pa at *
  generalize itP b = pb at *
  generalize ((2 + a.more + b.more : Nat) : Int) = mo at *
  generalize (a.func || b.func) = fu at *
  refine gg ?_
  refine look (n := 930) (F := F) hD ?_
  intro b
  simp only [St.eff, putS, updAll, List.nil_append]
  cases b with
  | true =>
    simp only [cond_true]
    rw [hF]
    refine gg ?_
    exact ⟨by simp [retIs, resV, resL, resOne, mkTup, getS, getO, rdV, mkAgg, unL, V.un, TI.isAgg, XX_T, tt47, Tryz.f100], by simp [subO, getO, tt47, Tryz.f100]⟩
  | false =>
    simp only [cond_false]
    refine gg ?_
    refine ⟨by rfl, ?_⟩
    refine gg ?_
    refine ex_loop 1 (ex_round ?_)
    refine gg ?_
    refine callR (ro := [(931, .box [.map 930]), (932, .box [.fn 100 [.loc 931 0, .loc 932 0]])]) (objs := [(930, .cache D F)]) (objs' := [(930, .cache D F)]) ha ?_
    refine gg ?_
    refine callR (ro := [(931, .box [.map 930]), (932, .box [.fn 100 [.loc 931 0, .loc 932 0]])]) (objs := [(930, .cache D F)]) (objs' := [(930, .cache D F)]) hb ?_
    refine gg ?_
    refine ⟨by rfl, ?_⟩
    refine gg ?_
    refine call hv ?_
    refine gg ?_
    exact ⟨by simp [retIs, resV, resL, resOne, mkTup, getS, getO, rdV, mkAgg, unL, V.un, TI.isAgg, XX_T, tt47, Tryz.f100], by simp [subO, getO, tt47, Tryz.f100]⟩
theorem out_ok {b : Nat} {x : It} (hx : Dat x) : Bd b x → AC Tryz.prog gl 100 [.pv (itP x), .loc 931 0, .loc 932 0] oO (.ret (.pv (.agg (itCell x)))) oO := by
  induction hx with
  | num n => intro _; exact out_num n
  | unit => intro _; exact out_unit
  | list l =>
    intro h
    simp only [Bd] at h
    by_cases e : l = []
    · subst e; exact out_nil
    · exact out_cons l e (by omega)
  | pair ha hb i j =>
    intro h
    simp only [Bd] at h
    exact out_pair _ _ ha hb (i h.1) (j h.2.1)
end Go.Proofs.YtodjpfpmhjdhbaaGreatDoor
namespace Go.Proofs.YtodjpfpmhjdhbaaGreatDoor
open Go.Lg
set_option maxRecDepth 10000
set_option maxHeartbeats 4000000
theorem mkfn {X : Env1} {ops rest : List Oper} {o : Oper} {σ σ' : St} {K : St → List Eff → Prop} {Qp : PV → St → Prop} {tr : List Eff} {f d : Nat} {caps : Array Operand} {l : List V} (ho : o.op = .makeFunc (.func f) #[] caps) (hdst : o.dst = some d) (hd : d < X.nt) (hg : o.guard = none)
    (hl : caps.toList.map (σ.val X.gl) = l) (hσ : (⟨(d, .fn f l) :: σ.slots, σ.objs, σ.used⟩ : St) = σ') (h : runOps X false ops K Qp rest σ' tr) : runOps X false ops K Qp (o :: rest) σ tr := by
  subst hσ
  simp only [runOps]
  refine ⟨by rw [hdst]; exact hd, guardC_run (by rw [hg]; rfl) ?_⟩
  unfold opStep
  rw [calleeOf_none' (by rw [ho])]
  simp only [ho, caseC_none, stepOp, hl]
  refine ⟨trivial, trivial, fun _ => ?_⟩
  rw [hdst]
  exact h
theorem outside_ok {b : Nat} {x : It} (hx : Dat x) (hb : Bd b x) : AC Tryz.prog gl 65 [.pv (itP x)] [] (.ret (.pv (.agg (itCell x)))) [] := by
  have h := out_ok hx hb
  have hc := coh_cell
  obtain ⟨k1, n1, a1, s1, s2, ea, hs1, hs2⟩ := itCell_shape x
  have w1 := vcells_one hs1
  have w2 := vcells_one hs2
  have u1 : (V.pv s1).one = true := by rw [one_pv]; exact hs1
  have u2 : (V.pv s2).one = true := by rw [one_pv]; exact hs2
  have v1 := vcells_one (itP_one x)
  have o1 : (V.pv (itP x)).one = true := by rw [one_pv]; exact itP_one x
  simp only [oO, ea] at h ⊢
  refine body [(3, .box 931), (4, .box 932), (5, .cache 930 DatP cellF)] Tryz.func65 Tryz.ntmps65 ?_
  generalize DatP = D at *
  generalize cellF = F at *
  generalize itP x = px at *
  clear ea
  refine gg ?_
  refine mkfn rfl rfl (by show 6 < 10; decide) rfl rfl rfl ?_
  refine gg ?_
  refine call h ?_
  refine gg ?_
  exact ⟨by simp [retIs, resV, resL, resOne, mkTup, getS, getO, rdV, mkAgg, unL, V.un, TI.isAgg, XX_T, tt47, Tryz.f65], by simp [subO, getO, tt47, Tryz.f65]⟩
end Go.Proofs.YtodjpfpmhjdhbaaGreatDoor
namespace Go.Proofs.YtodjpfpmhjdhbaaGreatDoor
open Go.Lg
set_option maxRecDepth 10000
set_option maxHeartbeats 4000000
theorem result_err (c : List Ins) (l e : Nat) (he : ¬ e = 0) (hg : AC Tryz.prog gl 84 [.loc 901 0, .pv (.slice [])] [(901, mB0 c l)] (.ret (.pv (.tuple [.nil, .int e]))) []) :
    AC Tryz.prog gl 42 [.loc 901 0] [(901, mB0 c l)] (.ret (.pv (.tuple [.agg [.int 0, .int 0, .int 0, .nils, .nils], .int e]))) [] := by
  have he' : ¬ (e : Int) = 0 := by omega
  unfold mB0 at *
  generalize c.map insP = cc at *
  refine body [] Tryz.func42 Tryz.ntmps42 ?_
  refine gg ?_
  refine call hg ?_
  refine gg ?_
  exact ⟨by simp [retIs, resV, resL, resOne, mkTup, getS, getO, rdV, mkAgg, unL, V.un, TI.isAgg, XX_T, tt47, Tryz.f42], by simp [subO, getO, tt47, Tryz.f42]⟩
theorem result_fine (c : List Ins) (l n : Nat) (x : It) (hg : AC Tryz.prog gl 84 [.loc 901 0, .pv (.slice [])] [(901, mB0 c l)] (.ret (.pv (.tuple [itP x, .int 0]))) [(901, mE c l n)]) (ho : AC Tryz.prog gl 65 [.pv (itP x)] [] (.ret (.pv (.agg (itCell x)))) []) :
    AC Tryz.prog gl 42 [.loc 901 0] [(901, mB0 c l)] (.ret (.pv (.tuple [.agg (itCell x), .int 0]))) [(901, mE c l n)] := by
  obtain ⟨k1, n1, a1, s1, s2, ea, hs1, hs2⟩ := itCell_shape x
  have w1 := vcells_one hs1
  have w2 := vcells_one hs2
  have u1 : (V.pv s1).one = true := by rw [one_pv]; exact hs1
  have u2 : (V.pv s2).one = true := by rw [one_pv]; exact hs2
  have v1 := vcells_one (itP_one x)
  have o1 : (V.pv (itP x)).one = true := by rw [one_pv]; exact itP_one x
  unfold mB0 mE at *
  simp only [ea] at ho ⊢
  clear ea
  generalize c.map insP = cc at *
  refine body [] Tryz.func42 Tryz.ntmps42 ?_
  generalize itP x = px at *
  refine gg ?_
  refine call hg ?_
  refine gg ?_
  refine call ho ?_
  refine gg ?_
  exact ⟨by simp [retIs, resV, resL, resOne, mkTup, getS, getO, rdV, mkAgg, unL, V.un, TI.isAgg, XX_T, tt47, Tryz.f42], by simp [subO, getO, tt47, Tryz.f42]⟩
theorem run_err (c : List Ins) (l e : Nat) (he : ¬ e = 0) (hl : l ≤ 65536) (hck : AC Tryz.prog gl 41 [.pv (.slice (c.map insP)), .pv (.slice []), .pv (.int l)] [] (.ret (.pv (.int 0))) [])
    (hg : AC Tryz.prog gl 42 [.loc 901 0] [(901, mB0 c l)] (.ret (.pv (.tuple [.agg [.int 0, .int 0, .int 0, .nils, .nils], .int e]))) []) :
    AC Tryz.prog gl 14 [.pv (.slice (c.map insP)), .pv (.int l)] [] (.ret (.pv (.tuple [.agg [.int 0, .int 0, .int 0, .nils, .nils], .int 0, .int e]))) [] := by
  have he' : ¬ (e : Int) = 0 := by omega
  unfold mB0 at *
  generalize c.map insP = cc at *
  refine body [(21, .box 901)] Tryz.func14 Tryz.ntmps14 ?_
  refine gg ?_
  refine call hck ?_
  refine gg ?_
  refine call hg ?_
  refine gg ?_
  exact ⟨by simp [retIs, resV, resL, resOne, mkTup, getS, getO, rdV, mkAgg, unL, V.un, TI.isAgg, XX_T, tt47, Tryz.f14], by simp [subO, getO, tt47, Tryz.f14]⟩
theorem run_fine (c : List Ins) (l n : Nat) (x : It) (hl : l ≤ 65536) (hck : AC Tryz.prog gl 41 [.pv (.slice (c.map insP)), .pv (.slice []), .pv (.int l)] [] (.ret (.pv (.int 0))) [])
    (hg : AC Tryz.prog gl 42 [.loc 901 0] [(901, mB0 c l)] (.ret (.pv (.tuple [.agg (itCell x), .int 0]))) [(901, mE c l n)]) :
    AC Tryz.prog gl 14 [.pv (.slice (c.map insP)), .pv (.int l)] [] (.ret (.pv (.tuple [.agg (itCell x), .int n, .int 0]))) [] := by
  obtain ⟨k1, n1, a1, s1, s2, ea, hs1, hs2⟩ := itCell_shape x
  have w1 := vcells_one hs1
  have w2 := vcells_one hs2
  have u1 : (V.pv s1).one = true := by rw [one_pv]; exact hs1
  have u2 : (V.pv s2).one = true := by rw [one_pv]; exact hs2
  unfold mB0 mE at *
  simp only [ea] at hg ⊢
  clear ea
  generalize c.map insP = cc at *
  refine body [(21, .box 901)] Tryz.func14 Tryz.ntmps14 ?_
  refine gg ?_
  refine call hck ?_
  refine gg ?_
  refine call hg ?_
  refine gg ?_
  refine ⟨by rfl, ?_⟩
  refine gg ?_
  exact ⟨by simp [retIs, resV, resL, resOne, mkTup, getS, getO, rdV, mkAgg, unL, V.un, TI.isAgg, XX_T, tt47, Tryz.f14], by simp [subO, getO, tt47, Tryz.f14]⟩
end Go.Proofs.YtodjpfpmhjdhbaaGreatDoor
namespace Go.Proofs.YtodjpfpmhjdhbaaGreatDoor
open Go.Lg
set_option maxRecDepth 10000
set_option maxHeartbeats 4000000
theorem codecheck_ok (cc : List (List PV)) (st : PV) (hst : st.one = true) (h : AC Tryz.prog gl 111 [.pv (.slice cc)] [] (.ret (.pv (.tuple [st, .bool true]))) []) : AC Tryz.prog gl 83 [.pv (.slice cc)] [] (.ret (.pv (.int 0))) [] := by
  have w1 := vcells_one hst
  have u1 : (V.pv st).one = true := by rw [one_pv]; exact hst
  refine body [] Tryz.func83 Tryz.ntmps83 ?_
  refine gg ?_
  refine call h ?_
  refine gg ?_
  exact ⟨by simp [retIs, resV, resL, resOne, mkTup, getS, getO, rdV, mkAgg, unL, V.un, TI.isAgg, XX_T, tt30, Tryz.f83], by simp [subO, getO, tt30, Tryz.f83]⟩
theorem runcheck_ok (cc : List (List PV)) (l : Nat) (hl : l ≤ 65536) (h : AC Tryz.prog gl 83 [.pv (.slice cc)] [] (.ret (.pv (.int 0))) []) : AC Tryz.prog gl 41 [.pv (.slice cc), .pv (.slice []), .pv (.int l)] [] (.ret (.pv (.int 0))) [] := by
  have h1 : ¬ (l : Int) < 0 := by omega
  have h2 : ¬ (65536 : Int) < l := by omega
  refine body [] Tryz.func41 Tryz.ntmps41 ?_
  refine gg ?_
  refine call h ?_
  refine gg ?_
  refine ex_loop 1 (ex_round ?_)
  refine gg ?_
  exact ⟨by simp [retIs, resV, resL, resOne, mkTup, getS, getO, rdV, mkAgg, unL, V.un, TI.isAgg, XX_T, tt30, Tryz.f41], by simp [subO, getO, tt30, Tryz.f41]⟩
end Go.Proofs.YtodjpfpmhjdhbaaGreatDoor
