/- Part of the proof: contracts of the machine's step and of its run; no conditions. -/
import Derived.Test.YtodjpfpmhjdhbaaGreatDoorCallsD1
set_option linter.unusedVariables false
set_option linter.unusedSimpArgs false
set_option linter.unusedSectionVars false
namespace Go.Proofs.YtodjpfpmhjdhbaaGreatDoor
open Go.Lg
set_option maxRecDepth 10000
set_option maxHeartbeats 4000000
theorem vcells_one {p : PV} (h : p.one = true) : vcells (.pv p) = some [.pv p] := by cases p <;> first | rfl | (simp [PV.one] at h)
def itC (x : It) : List PV := [itP x]
def frV (fr : Fr) : List V := [.pv (.int fr.at_), .pv (varsP fr.vars), .pv (itP fr.f), .pv (itP fr.a), match fr.rd with | none => .pv .nil | some (n, _) => .loc n 0]
def frN (l : List Fr) : List Nat := l.filterMap fun fr => fr.rd.map (·.1)
theorem namesE_frV (l : List Fr) : namesE (l.map frV) = frN l := by
  induction l with
  | nil => rfl
  | cons fr l ih =>
    rw [List.map_cons, namesE, ih]
    obtain ⟨a, b, c, d, rd⟩ := fr
    cases rd with
    | none => simp [frV, namesL, V.names, frN]
    | some p => simp [frV, namesL, V.names, frN]
theorem subL_iff {l u : List Nat} : subL l u ↔ ∀ n ∈ l, n ∈ u := by
  refine ⟨subL_spec, fun h => ?_⟩
  induction l with
  | nil => trivial
  | cons a l ih => exact ⟨h a (by simp), ih (fun n hn => h n (by simp [hn]))⟩
/-- the machine's variable, its stack, its frames -/
def mB (c : List Ins) (l : Nat) (m : Ms) : Ob := .box [.pv (.slice (c.map insP)), .pv (.int l), .pv (.int m.steps), .pv .nilfn, .pv .nilfn, .arr 902 m.sv m.stack.length, .arr 903 m.fv m.frames.length, .pv (.int m.at_), .pv (varsP m.vars)]
def mS (m : Ms) : Ob := .arr m.sv 1 132 (pvE ((m.stack ++ m.sg).map itC))
def mF (m : Ms) : Ob := .arr m.fv 5 206 ((m.frames ++ m.fg).map frV)
theorem push_ok (c : List Ins) (l : Nat) (m : Ms) (x : It) (h : m.stack.length ≤ 1000000) :
    AC Tryz.prog gl 126 [.loc 901 0, .pv (itP x)] [(901, mB c l m), (902, mS m)] (.ret (.pv (.tuple []))) [(901, mB c l (m.push x)), (902, mS (m.push x))] := by
  have ht : ((m.stack ++ m.sg).map itC).take m.stack.length = m.stack.map itC := by simp
  have hl : m.stack.length ≤ ((m.stack ++ m.sg).map itC).length := by simp
  have hA : (m.stack ++ [x] ++ []).map itC = m.stack.map itC ++ [[itP x]] := by simp [itC]
  unfold mB mS
  simp only [Ms.push, hA, List.length_append, List.length_cons, List.length_nil, Nat.zero_add]
  refine bodyM [] [903] Tryz.func126 Tryz.ntmps126 ?_
  rw [itP_eq]
  clear hA
  generalize (m.stack ++ m.sg).map itC = es at *
  generalize m.stack.map itC = es0 at *
  refine gg ?_
  exact ⟨by simp [retIs, resV, resL, resOne, mkTup, getS, getO, rdV, mkAgg, unL, V.un, TI.isAgg, XX_T, tt30, Tryz.f126, ht, hl, h], by simp [subO, getO, tt30, Tryz.f126, ht, hl, h]⟩
theorem pop_ok (c : List Ins) (l : Nat) (m : Ms) (s : List It) (x : It) (hs : m.stack = s ++ [x]) (h : m.stack.length ≤ 1000000) :
    AC Tryz.prog gl 114 [.loc 901 0] [(901, mB c l m), (902, mS m)] (.ret (.pv (itP x))) [(901, mB c l { m with stack := s, sg := x :: m.sg }), (902, mS { m with stack := s, sg := x :: m.sg })] := by
  have hl : m.stack.length = s.length + 1 := by simp [hs]
  have hg : ((m.stack ++ m.sg).map itC)[s.length]? = some [itP x] := by simp [hs, itC]
  have hle : s.length < ((m.stack ++ m.sg).map itC).length := by simp [hs]
  have hA : (s ++ x :: m.sg).map itC = (m.stack ++ m.sg).map itC := by simp [hs]
  have hi : (((s.length + 1 : Nat) : Int) - 1).toNat = s.length := by omega
  unfold mB mS
  simp only [hA, hl] at *
  refine bodyM [] [903] Tryz.func114 Tryz.ntmps114 ?_
  rw [itP_eq] at *
  clear hA hs hl
  generalize (m.stack ++ m.sg).map itC = es at *
  have hll : s.length + 1 ≤ es.length := by omega
  generalize hsl : s.length = k at *
  have hb1 : (0 : Int) ≤ ((k + 1 : Nat) : Int) - 1 := by omega
  have hb2 : ((k + 1 : Nat) : Int) - 1 < ((k + 1 : Nat) : Int) := by omega
  have hb3 : ((k + 1 : Nat) : Int) - 1 ≤ ((k + 1 : Nat) : Int) := by omega
  refine gg ?_
  refine ⟨by rfl, ?_⟩
  refine gg ?_
  refine ⟨by rfl, ?_⟩
  refine gg ?_
  exact ⟨by simp [retIs, resV, resL, resOne, mkTup, getS, getO, rdV, mkAgg, unL, V.un, TI.isAgg, XX_T, tt30, Tryz.f114], by simp [subO, getO, tt30, Tryz.f114]⟩
/-- the pointer to the rounds -/
def rpV (rd : Option (Nat × Rd)) : V := match rd with
  | none => .pv .nil
  | some (n, _) => .loc n 0
def rpN (rd : Option (Nat × Rd)) : List Nat := match rd with
  | none => []
  | some (n, _) => [n]
theorem mB_names (c : List Ins) (l : Nat) (m : Ms) : (mB c l m).names = [902, 903] := by simp [mB, Ob.names, namesL, V.names]
theorem mS_names (m : Ms) : (mS m).names = [] := by simp [mS, Ob.names, namesE_pvE]
theorem mF_names (m : Ms) : (mF m).names = frN (m.frames ++ m.fg) := by simp only [mF, Ob.names, namesE_frV]
theorem rpV_names (rd : Option (Nat × Rd)) : (rpV rd).names = rpN rd := by cases rd <;> rfl
theorem ent_1 (c : List Ins) (l : Nat) (m : Ms) (f a : PV) (rd : Option (Nat × Rd)) : subL (902 :: (rpN rd ++ frN (m.frames ++ m.fg))) (mentL [.loc 901 0, .pv f, .pv a, rpV rd] [(901, mB c l m), (903, mF m)]) := by
  rw [subL_iff]
  intro n hn
  simp only [mentL, mentO, namesL, V.names, rpV_names, mB_names, mF_names, List.mem_append, List.mem_cons, List.not_mem_nil, or_false, false_or, List.append_nil, List.nil_append] at hn ⊢
  rcases hn with h | h | h <;> simp [h]
theorem ent_2 (m : Ms) (rd : Option (Nat × Rd)) (hN : ∀ n ∈ frN (m.frames ++ m.fg), 905 ≤ n) (hn : ∀ n ∈ rpN rd, 905 ≤ n) {B F : Ob} : ∀ n ∈ 902 :: (rpN rd ++ frN (m.frames ++ m.fg)), n ∉ keysO [(901, B), (903, F)] := by
  intro n hm
  simp only [keysO, List.map_cons, List.map_nil, List.mem_cons, List.mem_append, List.not_mem_nil, or_false] at hm ⊢
  rcases hm with rfl | hm | hm
  · simp
  · have := hn n hm; omega
  · have := hN n hm; omega
theorem ent_3 (c : List Ins) (l : Nat) (m : Ms) (f a : PV) (rd : Option (Nat × Rd)) : subL (namesL [.loc 901 0, .pv f, .pv a, rpV rd] ++ namesOb [(901, mB c l m), (903, mF m)]) ([901, 903] ++ 902 :: (rpN rd ++ frN (m.frames ++ m.fg))) := by
  rw [subL_iff]
  intro n hn
  simp only [namesL, namesOb, V.names, rpV_names, mB_names, mF_names, List.mem_append, List.mem_cons, List.not_mem_nil, or_false, false_or, List.append_nil, List.nil_append, List.cons_append] at hn ⊢
  rcases hn with h | h | h | h | h | h | h <;> first | (subst h; simp; done) | simp [h]
theorem enter_stuck (c : List Ins) (l : Nat) (m : Ms) (f a : It) (rd : Option (Nat × Rd)) (hf : ¬ f.kind = 5) (hN : ∀ n ∈ frN (m.frames ++ m.fg), 905 ≤ n) (hn : ∀ n ∈ rpN rd, 905 ≤ n) :
    AC Tryz.prog gl 115 [.loc 901 0, .pv (itP f), .pv (itP a), rpV rd] [(901, mB c l m), (903, mF m)] (.panic (fail 44)) [] := by
  have hw := want_err f 5 hf
  refine bodyM [] (902 :: (rpN rd ++ frN (m.frames ++ m.fg))) Tryz.func115 Tryz.ntmps115 ?_ (hms1 := ent_1 _ _ _ _ _ _) (hms2 := ent_2 m rd hN hn) (hms3 := by simp [keysO]) (hna := ent_3 _ _ _ _ _ _) (hno := by simp [subL, Out.names, namesOb])
  unfold mB mF fail at *
  refine gg ?_
  refine ex_loop 1 (ex_round ?_)
  refine gg ?_
  refine callP hw ?_
  refine gg ?_
  exact ⟨rfl, trivial⟩
theorem enter_full (c : List Ins) (l : Nat) (m : Ms) (p : Nat) (vs : List It) (a : It) (rd : Option (Nat × Rd)) (hl : 1024 ≤ m.frames.length) (hl2 : m.frames.length ≤ 1000000) (hN : ∀ n ∈ frN (m.frames ++ m.fg), 905 ≤ n) (hn : ∀ n ∈ rpN rd, 905 ≤ n) :
    AC Tryz.prog gl 115 [.loc 901 0, .pv (itP (.fn p vs)), .pv (itP a), rpV rd] [(901, mB c l m), (903, mF m)] (.panic (fail 4)) [] := by
  have hw := want_ok (.fn p vs)
  simp only [It.kind] at hw
  have hl' : (1024 : Int) ≤ m.frames.length := by omega
  refine bodyM [] (902 :: (rpN rd ++ frN (m.frames ++ m.fg))) Tryz.func115 Tryz.ntmps115 ?_ (hms1 := ent_1 _ _ _ _ _ _) (hms2 := ent_2 m rd hN hn) (hms3 := by simp [keysO]) (hna := ent_3 _ _ _ _ _ _) (hno := by simp [subL, Out.names, namesOb])
  unfold mB mF fail at *
  refine gg ?_
  refine ex_loop 1 (ex_round ?_)
  refine gg ?_
  refine call hw ?_
  refine gg ?_
  refine pnc (t := 179) (p := .agg [.int 4]) ?_
  refine gg ?_
  exact ⟨rfl, trivial⟩
theorem enter_ok (c : List Ins) (l : Nat) (m : Ms) (p : Nat) (vs : List It) (a : It) (rd : Option (Nat × Rd)) (hl : m.frames.length < 1024) (hN : ∀ n ∈ frN (m.frames ++ m.fg), 905 ≤ n) (hn : ∀ n ∈ rpN rd, 905 ≤ n)
    (h1 : vs.length ≤ 100000) (h2 : insideL vs ≤ 100000) (h3 : a.more ≤ 100000) :
    AC Tryz.prog gl 115 [.loc 901 0, .pv (itP (.fn p vs)), .pv (itP a), rpV rd] [(901, mB c l m), (903, mF m)] (.ret (.pv (.tuple [])))
      [(901, mB c l { m with frames := m.frames ++ [⟨m.at_, m.vars, .fn p vs, a, rd⟩], fg := [], fv := m.fv + 1, at_ := p, vars := a :: vs }), (903, mF { m with frames := m.frames ++ [⟨m.at_, m.vars, .fn p vs, a, rd⟩], fg := [], fv := m.fv + 1, at_ := p, vars := a :: vs })] := by
  have hw := want_ok (.fn p vs)
  have hwi := with_ok vs a h1 h2 h3
  simp only [It.kind] at hw
  have hl' : ¬ (1024 : Int) ≤ m.frames.length := by omega
  have ht : ((m.frames ++ m.fg).map frV).take m.frames.length = m.frames.map frV := by simp
  have hle : m.frames.length ≤ ((m.frames ++ m.fg).map frV).length := by simp
  have ho1 := varsP_one m.vars
  have ho2 := itP_one a
  have ho3 := varsP_one (a :: vs)
  have hc1 := vcells_one ho1
  have hc2 := vcells_one ho2
  have hc3 := vcells_one ho3
  have hq1 : (V.pv (varsP m.vars)).one = true := by rw [one_pv]; exact ho1
  have hq2 : (V.pv (itP a)).one = true := by rw [one_pv]; exact ho2
  have hq3 : (V.pv (varsP (a :: vs))).one = true := by rw [one_pv]; exact ho3
  refine bodyM [] (902 :: (rpN rd ++ frN (m.frames ++ m.fg))) Tryz.func115 Tryz.ntmps115 ?_ (hms1 := ent_1 _ _ _ _ _ _) (hms2 := ent_2 m rd hN hn) (hms3 := ent_2 m rd hN hn) (hna := ent_3 _ _ _ _ _ _) (hno := ?_)
  · have hA : (m.frames ++ [(⟨m.at_, m.vars, .fn p vs, a, rd⟩ : Fr)] ++ []).map frV = m.frames.map frV ++ [[.pv (.int m.at_), .pv (varsP m.vars), .pv (itP (.fn p vs)), .pv (itP a), rpV rd]] := by
      cases rd <;> simp [frV, rpV]
    unfold mB mF at *
    simp only [hA, List.length_append, List.length_cons, List.length_nil, Nat.zero_add]
    clear hA
    generalize (m.frames ++ m.fg).map frV = fs at *
    generalize m.frames.map frV = fs0 at *
    simp only [itP] at *
    generalize varsP (a :: vs) = vv at *
    generalize varsP vs = v0 at *
    generalize varsP m.vars = v1 at *
    generalize itP a = va at *
    cases rd with
    | none =>
      simp only [rpV, rpN, List.nil_append] at *
      generalize frN (m.frames ++ m.fg) = ms at *
      refine gg ?_
      refine ex_loop 1 (ex_round ?_)
      refine gg ?_
      refine call hw ?_
      refine gg ?_
      refine ⟨by rfl, ?_⟩
      refine gg ?_
      refine call hwi ?_
      refine gg ?_
      refine ⟨by rfl, ?_⟩
      refine gg ?_
      exact ⟨by simp [retIs, resV, resL, resOne, mkTup, getS, getO, rdV, mkAgg, unL, V.un, TI.isAgg, XX_T, tt30, Tryz.f115, ht, pvE, pvL], by simp [subO, getO, tt30, Tryz.f115, ht, pvE, pvL]⟩
    | some q =>
      obtain ⟨n, r⟩ := q
      simp only [rpV, rpN] at *
      generalize frN (m.frames ++ m.fg) = ms at *
      refine gg ?_
      refine ex_loop 1 (ex_round ?_)
      refine gg ?_
      refine call hw ?_
      refine gg ?_
      refine ⟨by rfl, ?_⟩
      refine gg ?_
      refine call hwi ?_
      refine gg ?_
      refine ⟨by rfl, ?_⟩
      refine gg ?_
      exact ⟨by simp [retIs, resV, resL, resOne, mkTup, getS, getO, rdV, mkAgg, unL, V.un, TI.isAgg, XX_T, tt30, Tryz.f115, ht, pvE, pvL], by simp [subO, getO, tt30, Tryz.f115, ht, pvE, pvL]⟩
  · rw [subL_iff]
    intro n hn
    simp only [Out.names, V.names, namesOb, mB_names, mF_names, List.append_nil, List.mem_append, List.mem_cons, List.not_mem_nil, or_false, false_or, List.nil_append, List.cons_append] at hn ⊢
    have e : frN (m.frames ++ [⟨m.at_, m.vars, .fn p vs, a, rd⟩]) = frN m.frames ++ rpN rd := by cases rd <;> simp [frN, rpN]
    rw [e] at hn
    have e2 : frN (m.frames ++ m.fg) = frN m.frames ++ frN m.fg := by simp [frN]
    rw [e2]
    simp only [List.mem_append] at hn ⊢
    repeat' (rcases hn with hn | hn)
    all_goals simp [hn]
end Go.Proofs.YtodjpfpmhjdhbaaGreatDoor
namespace Go.Proofs.YtodjpfpmhjdhbaaGreatDoor
open Go.Lg
set_option maxRecDepth 10000
set_option maxHeartbeats 4000000
/-- the rounds of a recursion -/
def argC (x : Nat × List Nat) : List PV := [.slice [[itP (.num x.1)], [itP (.list x.2)]]]
def argsP : Option (List (Nat × List Nat)) → PV
  | none => .nils
  | some l => .slice (l.map argC)
def rB (r : Rd) (lv : PV) : Ob := .box [.pv (itP r.f), .pv (.int r.next), .pv (argsP r.args), .pv (.int r.count), .pv (itP r.result), .pv lv]
theorem argC_all (l : List (Nat × List Nat)) : ∀ y ∈ l.map argC, y.length = 1 := by
  intro y hy
  obtain ⟨t, _, rfl⟩ := List.mem_map.1 hy
  rfl
theorem itC_all (l : List It) : ∀ y ∈ l.map itC, y.length = 1 := by
  intro y hy
  obtain ⟨t, _, rfl⟩ := List.mem_map.1 hy
  rfl
theorem begin_nat_ok (r : Rd) (lv : PV) (h : r.args = none) (hc : r.next ≤ 1000000) :
    AC Tryz.prog gl 147 [.loc 920 0] [(920, rB r lv)] (.ret (.pv (.tuple [itP r.f, itP (.num r.next)]))) [(920, rB r (.slice [[itP r.result]]))] := by
  have hn := num_item_ok r.next
  have h1 := vcells_one (itP_one r.result)
  unfold rB
  rw [h]
  simp only [argsP]
  refine body [] Tryz.func147 Tryz.ntmps147 ?_
  generalize itP r.f = vf at *
  generalize itP r.result = vr at *
  generalize itP (.num r.next) = vn at *
  refine gg ?_
  refine call hn ?_
  refine gg ?_
  refine ⟨by rfl, ?_⟩
  refine gg ?_
  exact ⟨by simp [retIs, resV, resL, resOne, mkTup, getS, getO, rdV, mkAgg, unL, V.un, TI.isAgg, XX_T, tt30, Tryz.f147], by simp [subO, getO, tt30, Tryz.f147]⟩
theorem begin_list_ok (r : Rd) (lv : PV) (l : List (Nat × List Nat)) (h : r.args = some l) (hd : Nat) (tl : List Nat) (hg : l[r.next]? = some (hd, tl)) :
    AC Tryz.prog gl 147 [.loc 920 0] [(920, rB r lv)] (.ret (.pv (.tuple [itP r.f, itP (.num hd)]))) [(920, rB r (.slice [[itP (.list tl)], [itP r.result]]))] := by
  have h1 := vcells_one (itP_one r.result)
  have h2 := vcells_one (itP_one (.list tl))
  have o1 := itP_one r.result
  have o2 := itP_one (.list tl)
  have p1 : (V.pv (itP r.result)).one = true := by rw [one_pv]; exact o1
  have p2 : (V.pv (itP (.list tl))).one = true := by rw [one_pv]; exact o2
  have hlt : r.next < l.length := (List.getElem?_eq_some_iff.1 hg).1
  have hal := argC_all l
  have hlen : (l.map argC).length = l.length := by simp
  have hget : (l.map argC).getD r.next [] = [.slice [[itP (.num hd)], [itP (.list tl)]]] := by simp [List.getD, hg, argC]
  obtain ⟨x, xs, hx⟩ : ∃ x xs, l.map argC = x :: xs := by
    cases hl : l.map argC with
    | nil => simp at hl; subst hl; simp at hlt
    | cons x xs => exact ⟨x, xs, rfl⟩
  have hlt' : (r.next : Int) < l.length := by omega
  unfold rB
  rw [h]
  simp only [argsP]
  refine body [(40, .arr 950 1 132)] Tryz.func147 Tryz.ntmps147 ?_
  generalize itP r.f = vf at *
  generalize itP r.result = vr at *
  generalize itP (.num hd) = vn at *
  generalize itP (.list tl) = vl at *
  generalize l.map argC = es at *
  subst hx
  have hx0 : ∀ y, y = x ∨ y ∈ xs → y.length = 1 := fun y hy => hal y (by simpa using hy)
  have hx3 : (r.next : Int) < ((xs.length + 1 : Nat) : Int) := by simp at hlen; omega
  clear hal hlen hlt hlt' hg h
  refine gg ?_
  refine ⟨by rfl, ?_⟩
  refine gg ?_
  refine ⟨by rfl, ?_⟩
  refine gg ?_
  refine ⟨by rfl, ?_⟩
  (repeat (first | with_reducible refine ex_seq ?_ | with_reducible refine ex_block ?_ | with_reducible refine ex_draw ?_ | with_reducible refine q_normal ?_ | with_reducible refine b_normal ?_ | with_reducible refine runOps_nil ?_ | with_reducible refine ex_reg ?_ | with_reducible refine ex_skip ?_ | with_reducible refine ex_exit ?_ | with_reducible refine q_exit ?_ | with_reducible refine q_ret ?_ | with_reducible refine q_panic ?_ | with_reducible refine b_same ?_ | with_reducible refine b_ret ?_ | with_reducible refine b_panic ?_ | refine b_other rfl ?_ | refine go ?_ | refine cskip ?_ | refine cdt ?_ | refine cdf ?_ | fail))
  refine frz 950 ?_
  refine gg ?_
  exact ⟨by simp [retIs, resV, resL, resOne, mkTup, getS, getO, rdV, mkAgg, unL, V.un, TI.isAgg, XX_T, tt30, Tryz.f147], by simp [subO, getO, tt30, Tryz.f147]⟩
theorem ret_call_ok (r : Rd) (x a : It) (rest : List It) :
    AC Tryz.prog gl 134 [.loc 920 0, .pv (itP x)] [(920, rB r (.slice ((a :: rest).map itC)))] (.ret (.pv (.tuple [itP x, itP a, .bool false]))) [(920, rB r (.slice (rest.map itC)))] := by
  have hal : ∀ y ∈ rest.map itC, y.length = 1 := itC_all rest
  have h0 : (0 : Int) < ((rest.map itC).length + 1 : Nat) := by omega
  have h1 : (0 : Nat) < (rest.map itC).length + 1 := by omega
  have h2 : (1 : Int) ≤ ((rest.map itC).length + 1 : Nat) := by omega
  unfold rB
  have e : (a :: rest).map itC = [itP a] :: rest.map itC := rfl
  rw [e]
  refine body [] Tryz.func134 Tryz.ntmps134 ?_
  clear e
  generalize itP r.f = vf at *
  generalize itP r.result = vr at *
  generalize itP x = vx at *
  generalize itP a = va at *
  generalize argsP r.args = vg at *
  generalize rest.map itC = es at *
  refine gg ?_
  refine ⟨by rfl, ?_⟩
  refine gg ?_
  exact ⟨by simp [retIs, resV, resL, resOne, mkTup, getS, getO, rdV, mkAgg, unL, V.un, TI.isAgg, XX_T, tt30, Tryz.f134], by simp [subO, getO, tt30, Tryz.f134]⟩
theorem ret_done_ok (r : Rd) (x : It) (h : r.next + 1 = r.count) (hc : r.count ≤ 1000000) :
    AC Tryz.prog gl 134 [.loc 920 0, .pv (itP x)] [(920, rB r (.slice []))] (.ret (.pv (.tuple [.nil, .nil, .bool true]))) [(920, rB { r with result := x, next := r.next + 1 } (.slice []))] := by
  have h1 := vcells_one (itP_one x)
  have o1 : (V.pv (itP x)).one = true := by rw [one_pv]; exact itP_one x
  have h0 : ((r.next : Nat) : Int) + 1 = r.count := by omega
  unfold rB
  have e : ((r.next + 1 : Nat) : Int) = r.next + 1 := by omega
  simp only [e]
  refine body [] Tryz.func134 Tryz.ntmps134 ?_
  clear e h
  generalize itP r.f = vf at *
  generalize itP r.result = vr at *
  generalize itP x = vx at *
  generalize argsP r.args = vg at *
  refine gg ?_
  refine ⟨by rfl, ?_⟩
  refine gg ?_
  exact ⟨by simp [retIs, resV, resL, resOne, mkTup, getS, getO, rdV, mkAgg, unL, V.un, TI.isAgg, XX_T, tt30, Tryz.f134, h0], by simp [subO, getO, tt30, Tryz.f134, h0]⟩
theorem ret_next_ok (r : Rd) (x f a : It) (lv : PV) (h : ¬ r.next + 1 = r.count) (hc : r.next ≤ 1000000)
    (hb : AC Tryz.prog gl 147 [.loc 920 0] [(920, rB { r with result := x, next := r.next + 1 } (.slice []))] (.ret (.pv (.tuple [itP f, itP a]))) [(920, rB { r with result := x, next := r.next + 1 } lv)]) :
    AC Tryz.prog gl 134 [.loc 920 0, .pv (itP x)] [(920, rB r (.slice []))] (.ret (.pv (.tuple [itP f, itP a, .bool false]))) [(920, rB { r with result := x, next := r.next + 1 } lv)] := by
  have h1 := vcells_one (itP_one x)
  have o1 : (V.pv (itP x)).one = true := by rw [one_pv]; exact itP_one x
  have h0 : ¬ ((r.next : Nat) : Int) + 1 = r.count := by omega
  unfold rB at *
  have e : ((r.next + 1 : Nat) : Int) = r.next + 1 := by omega
  simp only [e] at *
  refine body [] Tryz.func134 Tryz.ntmps134 ?_
  clear e h
  generalize itP r.f = vf at *
  generalize itP r.result = vr at *
  generalize itP x = vx at *
  generalize argsP r.args = vg at *
  refine gg ?_
  refine ⟨by rfl, ?_⟩
  refine gg ?_
  refine call hb ?_
  refine gg ?_
  exact ⟨by simp [retIs, resV, resL, resOne, mkTup, getS, getO, rdV, mkAgg, unL, V.un, TI.isAgg, XX_T, tt30, Tryz.f134], by simp [subO, getO, tt30, Tryz.f134]⟩
end Go.Proofs.YtodjpfpmhjdhbaaGreatDoor
