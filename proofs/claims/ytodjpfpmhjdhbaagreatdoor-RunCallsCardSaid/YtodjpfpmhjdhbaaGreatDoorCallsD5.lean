/- Part of the proof: contracts of the machine's step and of its run; no conditions. -/
import Derived.Test.YtodjpfpmhjdhbaaGreatDoorCallsD4
set_option linter.unusedVariables false
set_option linter.unusedSimpArgs false
set_option linter.unusedSectionVars false
namespace Go.Proofs.YtodjpfpmhjdhbaaGreatDoor
open Go.Lg
set_option maxRecDepth 10000
set_option maxHeartbeats 4000000
theorem obn_box (cs : List V) : (Ob.box cs).names = namesL cs := rfl
noncomputable def c67 : Code := Tryz.f113.body.getD .skip
noncomputable def sw67 : Code := right (right (right (right (right c67))))
/-- one step more -/
def nxt (m : Ms) : Ms := { m with steps := m.steps + 1, at_ := m.at_ + 1 }
theorem step_pre (c : List Ins) (l : Nat) (m : Ms) (p op a : Nat) (hat : m.at_ = ((p : Nat) : Int)) (hc : c[p]? = some (op, a)) (hst : ¬ m.steps = l) (hsl : m.steps ≤ 1000000) (hp : p ≤ 1000000) (SB FB RB : Ob) (ms : List Nat) (h3 : 3 ∉ ms) (Q : AEx → St → Prop)
    (hS : SB.names = []) (hF : ∀ n ∈ FB.names, n ∈ [901, 902, 903] ++ ms) (hR : RB.names = [])
    (h : AWP (XX [] 239 ([901, 902, 903] ++ ms)) sw67 ⟨[(0, .loc 901 0), (3, .loc 3 0)], [(901, mB c l (nxt m)), (902, SB), (903, FB), (3, .box [.pv (.int op), .pv (.int a)])], 3 :: ([901, 902, 903] ++ ms)⟩ Q) (hQ : ∀ σ, Q (.panic (fail 5)) σ → Q (.panic (fail 5)) σ) :
    AWP (XX [] 239 ([901, 902, 903] ++ ms)) c67 ⟨zipArgs 0 [.loc 901 0], [(901, mB c l m), (902, SB), (903, FB)], [901, 902, 903] ++ ms⟩ Q := by
  have e : c67 = .seq (left c67) (.seq (left (right c67)) (.seq (left (right (right c67))) (.seq (left (right (right (right c67)))) (.seq (left (right (right (right (right c67))))) sw67)))) := rfl
  rw [e]
  generalize sw67 = tl at *
  clear e
  have hpl : p < c.length := (List.getElem?_eq_some_iff.1 hc).1
  have hget : (c.map insP).getD p [] = [.int op, .int a] := by simp [List.getD, hc, insP]
  have hal := insP_all c
  have hlen : (c.map insP).length = c.length := by simp
  have hst' : ¬ ((m.steps : Nat) : Int) = l := by omega
  have hp1 : ((p : Nat) : Int) < c.length := by omega
  simp only [left, right, c67, Tryz.f113, Option.getD_some] at *
  have e1 : ((m.steps + 1 : Nat) : Int) = m.steps + 1 := by omega
  simp only [mB, nxt, hat, e1] at *
  generalize c.map insP = cs at *
  generalize varsP m.vars = vv at *
  clear hc hst e1 hat
  refine gg ?_
  refine ⟨by rfl, ?_⟩
  refine gg ?_
  refine ⟨by rfl, ?_⟩
  refine gg ?_
  refine AWP.weaken (τ := ⟨[(0, .loc 901 0), (3, .loc 3 0)], _, _⟩) ⟨by simp [slotsLe, getS], ?_, ?_⟩ h
  · simp [subO, getO]
  · rw [subL_iff]
    intro n hn
    have := hF n
    simp only [namesSl, V.names, namesOb, obn_box, namesL, XX_given, hS, hR, List.mem_append, List.mem_cons, List.not_mem_nil, or_false, false_or, List.append_nil, List.nil_append, List.cons_append] at hn this ⊢
    grind
theorem step_preR (c : List Ins) (l : Nat) (m : Ms) (p op a : Nat) (hat : m.at_ = ((p : Nat) : Int)) (hc : c[p]? = some (op, a)) (hst : ¬ m.steps = l) (hsl : m.steps ≤ 1000000) (hp : p ≤ 1000000) (SB FB RB : Ob) (ms : List Nat) (h3 : 3 ∉ ms) (Q : AEx → St → Prop)
    (hS : SB.names = []) (hF : ∀ n ∈ FB.names, n ∈ [901, 902, 903, 920] ++ ms) (hR : RB.names = [])
    (h : AWP (XX [] 239 ([901, 902, 903, 920] ++ ms)) sw67 ⟨[(0, .loc 901 0), (3, .loc 3 0)], [(901, mB c l (nxt m)), (902, SB), (903, FB), (3, .box [.pv (.int op), .pv (.int a)]), (920, RB)], 3 :: ([901, 902, 903, 920] ++ ms)⟩ Q) (hQ : ∀ σ, Q (.panic (fail 5)) σ → Q (.panic (fail 5)) σ) :
    AWP (XX [] 239 ([901, 902, 903, 920] ++ ms)) c67 ⟨zipArgs 0 [.loc 901 0], [(901, mB c l m), (902, SB), (903, FB), (920, RB)], [901, 902, 903, 920] ++ ms⟩ Q := by
  have e : c67 = .seq (left c67) (.seq (left (right c67)) (.seq (left (right (right c67))) (.seq (left (right (right (right c67)))) (.seq (left (right (right (right (right c67))))) sw67)))) := rfl
  rw [e]
  generalize sw67 = tl at *
  clear e
  have hpl : p < c.length := (List.getElem?_eq_some_iff.1 hc).1
  have hget : (c.map insP).getD p [] = [.int op, .int a] := by simp [List.getD, hc, insP]
  have hal := insP_all c
  have hlen : (c.map insP).length = c.length := by simp
  have hst' : ¬ ((m.steps : Nat) : Int) = l := by omega
  have hp1 : ((p : Nat) : Int) < c.length := by omega
  simp only [left, right, c67, Tryz.f113, Option.getD_some] at *
  have e1 : ((m.steps + 1 : Nat) : Int) = m.steps + 1 := by omega
  simp only [mB, nxt, hat, e1] at *
  generalize c.map insP = cs at *
  generalize varsP m.vars = vv at *
  clear hc hst e1 hat
  refine gg ?_
  refine ⟨by rfl, ?_⟩
  refine gg ?_
  refine ⟨by rfl, ?_⟩
  refine gg ?_
  refine AWP.weaken (τ := ⟨[(0, .loc 901 0), (3, .loc 3 0)], _, _⟩) ⟨by simp [slotsLe, getS], ?_, ?_⟩ h
  · simp [subO, getO]
  · rw [subL_iff]
    intro n hn
    have := hF n
    simp only [namesSl, V.names, namesOb, obn_box, namesL, XX_given, hS, hR, List.mem_append, List.mem_cons, List.not_mem_nil, or_false, false_or, List.append_nil, List.nil_append, List.cons_append] at hn this ⊢
    grind
theorem step_limit (c : List Ins) (l : Nat) (m : Ms) (hst : m.steps = l) (hN : ∀ n ∈ frN (m.frames ++ m.fg), 905 ≤ n) : AC Tryz.prog gl 113 [.loc 901 0] (mO c l m) (.panic (fail 5)) [] := by
  refine bodyM [] (frN (m.frames ++ m.fg)) Tryz.func113 Tryz.ntmps113 ?_ (hms1 := mO_1 c l m rfl) (hms2 := mO_2 c l m hN) (hms3 := by simp [keysO]) (hna := mO_3 c l m rfl) (hno := by simp [subL, Out.names, namesOb])
  clear hN
  generalize frN (m.frames ++ m.fg) = ms at *
  generalize hF0 : mF m = F0 at *
  subst hst
  simp only [mO, hF0]
  generalize mS m = S0 at *
  simp only [mB, fail]
  generalize c.map insP = cs at *
  generalize varsP m.vars = vv at *
  refine gg ?_
  refine ⟨by rfl, ?_⟩
  refine gg ?_
  refine pnc (t := 179) (p := .agg [.int 5]) ?_
  refine gg ?_
  exact ⟨rfl, trivial⟩
end Go.Proofs.YtodjpfpmhjdhbaaGreatDoor
namespace Go.Proofs.YtodjpfpmhjdhbaaGreatDoor
open Go.Lg
set_option maxRecDepth 10000
set_option maxHeartbeats 4000000
theorem st_no (c : List Ins) (l : Nat) (m m' : Ms) (b : Bool) (h : ∀ n ∈ frN (m'.frames ++ m'.fg), n ∈ frN (m.frames ++ m.fg)) : subL ((Out.ret (.pv (.bool b))).names ++ namesOb (mO c l m')) (([901, 902, 903] ++ frN (m.frames ++ m.fg)) ++ keysO (mO c l m')) := by
  rw [subL_iff]
  intro n hn
  simp only [Out.names, V.names, List.nil_append] at hn
  have := namesOb_mO c l m' n hn
  have := h n
  refine List.mem_append.2 (.inl ?_)
  grind
theorem frN_app (a b : List Fr) : frN (a ++ b) = frN a ++ frN b := by simp [frN]
theorem hF_of (m : Ms) : ∀ n ∈ (mF m).names, n ∈ [901, 902, 903] ++ frN (m.frames ++ m.fg) := by
  intro n hn
  rw [mF_names] at hn
  exact List.mem_append.2 (.inr hn)
section
variable (c : List Ins) (l : Nat) (m : Ms) (p : Nat) (hat : m.at_ = ((p : Nat) : Int)) (hst : ¬ m.steps = l) (hsl : m.steps ≤ 1000000) (hp : p ≤ 1000000) (hN : ∀ n ∈ frN (m.frames ++ m.fg), 1000 ≤ n) (hl : m.stack.length ≤ 900000)
include hat hst hsl hp hN hl
theorem step_zero (hc : c[p]? = some (4, 0)) : AC Tryz.prog gl 113 [.loc 901 0] (mO c l m) (.ret (.pv (.bool true))) (mO c l ((nxt m).push (.num 0))) := by
  have p1 := push_ok c l (nxt m) (.num 0) (by simp [nxt]; omega)
  have hn := num_item_ok 0
  have eS : mS (nxt m) = mS m := rfl
  have eF : mF ((nxt m).push (.num 0)) = mF m := rfl
  rw [eS] at p1
  refine bodyM (c := c67) (ks := [901, 902, 903] ++ frN (m.frames ++ m.fg)) [] (frN (m.frames ++ m.fg)) Tryz.func113 Tryz.ntmps113 ?_ (hks := rfl) (hms1 := mO_1 c l m rfl) (hms2 := mO_2 c l m (fun n hn => by have := hN n hn; omega)) (hms3 := mO_2 c l _ (fun n hn => by have := hN n hn; omega)) (hna := mO_3 c l m rfl) (hno := st_no c l m _ true (fun n h => h))
  refine step_pre c l m p 4 0 hat hc hst hsl hp (mS m) (mF m) (mS m) _ (fun h => by have := hN 3 h; omega) _ (mS_names m) (hF_of m) (mS_names m) ?_ (fun _ h => h)
  simp only [sw67, right, c67, Tryz.f113, Option.getD_some]
  clear hN
  generalize frN (m.frames ++ m.fg) = ms at *
  simp only [mO, eF]
  clear eF eS
  generalize mS m = S1 at *
  generalize mF m = F1 at *
  generalize mB c l (nxt m) = B1 at *
  generalize mB c l ((nxt m).push (.num 0)) = B2 at *
  generalize mS ((nxt m).push (.num 0)) = S2 at *
  simp only [itP, Int.cast_ofNat_Int] at *
  refine gg ?_
  refine call hn ?_
  refine gg ?_
  refine call p1 ?_
  refine gg ?_
  exact ⟨by simp [retIs, resV, resL, resOne, mkTup, getS, getO, rdV, mkAgg, unL, V.un, TI.isAgg, XX_T, tt30, Tryz.f113], by simp [subO, getO, tt30, Tryz.f113]⟩
theorem step_nil (hc : c[p]? = some (7, 0)) : AC Tryz.prog gl 113 [.loc 901 0] (mO c l m) (.ret (.pv (.bool true))) (mO c l ((nxt m).push (.list []))) := by
  have p1 := push_ok c l (nxt m) (.list []) (by simp [nxt]; omega)
  have eS : mS (nxt m) = mS m := rfl
  have eF : mF ((nxt m).push (.list [])) = mF m := rfl
  rw [eS] at p1
  refine bodyM (c := c67) (ks := [901, 902, 903] ++ frN (m.frames ++ m.fg)) [] (frN (m.frames ++ m.fg)) Tryz.func113 Tryz.ntmps113 ?_ (hks := rfl) (hms1 := mO_1 c l m rfl) (hms2 := mO_2 c l m (fun n hn => by have := hN n hn; omega)) (hms3 := mO_2 c l _ (fun n hn => by have := hN n hn; omega)) (hna := mO_3 c l m rfl) (hno := st_no c l m _ true (fun n h => h))
  refine step_pre c l m p 7 0 hat hc hst hsl hp (mS m) (mF m) (mS m) _ (fun h => by have := hN 3 h; omega) _ (mS_names m) (hF_of m) (mS_names m) ?_ (fun _ h => h)
  simp only [sw67, right, c67, Tryz.f113, Option.getD_some]
  clear hN
  generalize frN (m.frames ++ m.fg) = ms at *
  simp only [mO, eF]
  clear eF eS
  generalize mS m = S1 at *
  generalize mF m = F1 at *
  generalize mB c l (nxt m) = B1 at *
  generalize mB c l ((nxt m).push (.list [])) = B2 at *
  generalize mS ((nxt m).push (.list [])) = S2 at *
  simp only [itP, linkP, Int.cast_ofNat_Int] at *
  refine gg ?_
  refine call p1 ?_
  refine gg ?_
  exact ⟨by simp [retIs, resV, resL, resOne, mkTup, getS, getO, rdV, mkAgg, unL, V.un, TI.isAgg, XX_T, tt30, Tryz.f113], by simp [subO, getO, tt30, Tryz.f113]⟩
theorem step_unit (hc : c[p]? = some (13, 0)) : AC Tryz.prog gl 113 [.loc 901 0] (mO c l m) (.ret (.pv (.bool true))) (mO c l ((nxt m).push .unit)) := by
  have p1 := push_ok c l (nxt m) .unit (by simp [nxt]; omega)
  have eS : mS (nxt m) = mS m := rfl
  have eF : mF ((nxt m).push .unit) = mF m := rfl
  rw [eS] at p1
  refine bodyM (c := c67) (ks := [901, 902, 903] ++ frN (m.frames ++ m.fg)) [] (frN (m.frames ++ m.fg)) Tryz.func113 Tryz.ntmps113 ?_ (hks := rfl) (hms1 := mO_1 c l m rfl) (hms2 := mO_2 c l m (fun n hn => by have := hN n hn; omega)) (hms3 := mO_2 c l _ (fun n hn => by have := hN n hn; omega)) (hna := mO_3 c l m rfl) (hno := st_no c l m _ true (fun n h => h))
  refine step_pre c l m p 13 0 hat hc hst hsl hp (mS m) (mF m) (mS m) _ (fun h => by have := hN 3 h; omega) _ (mS_names m) (hF_of m) (mS_names m) ?_ (fun _ h => h)
  simp only [sw67, right, c67, Tryz.f113, Option.getD_some]
  clear hN
  generalize frN (m.frames ++ m.fg) = ms at *
  simp only [mO, eF]
  clear eF eS
  generalize mS m = S1 at *
  generalize mF m = F1 at *
  generalize mB c l (nxt m) = B1 at *
  generalize mB c l ((nxt m).push .unit) = B2 at *
  generalize mS ((nxt m).push .unit) = S2 at *
  simp only [itP, Int.cast_ofNat_Int] at *
  refine gg ?_
  refine call p1 ?_
  refine gg ?_
  exact ⟨by simp [retIs, resV, resL, resOne, mkTup, getS, getO, rdV, mkAgg, unL, V.un, TI.isAgg, XX_T, tt30, Tryz.f113], by simp [subO, getO, tt30, Tryz.f113]⟩
theorem step_var (a : Nat) (ha : a ≤ 1000000) (x : It) (hx : m.vars[a]? = some x) (hc : c[p]? = some (1, a)) : AC Tryz.prog gl 113 [.loc 901 0] (mO c l m) (.ret (.pv (.bool true))) (mO c l ((nxt m).push x)) := by
  have p1 := push_ok c l (nxt m) x (by simp [nxt]; omega)
  have eS : mS (nxt m) = mS m := rfl
  have eF : mF ((nxt m).push x) = mF m := rfl
  have hal : a < m.vars.length := (List.getElem?_eq_some_iff.1 hx).1
  rw [eS] at p1
  refine bodyM (c := c67) (ks := [901, 902, 903] ++ frN (m.frames ++ m.fg)) [] (frN (m.frames ++ m.fg)) Tryz.func113 Tryz.ntmps113 ?_ (hks := rfl) (hms1 := mO_1 c l m rfl) (hms2 := mO_2 c l m (fun n hn => by have := hN n hn; omega)) (hms3 := mO_2 c l _ (fun n hn => by have := hN n hn; omega)) (hna := mO_3 c l m rfl) (hno := st_no c l m _ true (fun n h => h))
  refine step_pre c l m p 1 a hat hc hst hsl hp (mS m) (mF m) (mS m) _ (fun h => by have := hN 3 h; omega) _ (mS_names m) (hF_of m) (mS_names m) ?_ (fun _ h => h)
  simp only [sw67, right, c67, Tryz.f113, Option.getD_some]
  have h3 : 3 ∉ frN (m.frames ++ m.fg) := fun h => by have := hN 3 h; omega
  clear hN
  have hFn : ∀ n ∈ (mF m).names, n ∈ frN (m.frames ++ m.fg) := by intro n hn; rwa [mF_names] at hn
  have hSn := mS_names m
  generalize frN (m.frames ++ m.fg) = ms at *
  simp only [mO, eF]
  clear eF eS
  generalize mS m = S1 at *
  generalize mF m = F1 at *
  generalize mB c l ((nxt m).push x) = B2 at *
  generalize mS ((nxt m).push x) = S2 at *
  have hxd : m.vars.drop a = x :: m.vars.drop (a + 1) := by
    rw [List.drop_eq_getElem_cons hal]
    congr 1
    rw [List.getElem?_eq_getElem hal] at hx
    exact Option.some.inj hx
  simp only [mB] at *
  generalize c.map insP = cs at *
  generalize hn1 : (nxt m).sv = n1 at *
  generalize hn2 : (nxt m).fv = n2 at *
  generalize hn3 : (nxt m).steps = n3 at *
  generalize hn4 : (nxt m).at_ = n4 at *
  generalize hn5 : (nxt m).stack.length = n5 at *
  generalize hn6 : (nxt m).frames.length = n6 at *
  have hvs : (nxt m).vars = m.vars := rfl
  simp only [hvs] at p1 ⊢
  clear hvs
  refine gg ?_
  refine AWP.loopN a (fun k => ⟨[(0, .loc 901 0), (3, .loc 3 0), (4, .pv (varsP (m.vars.drop k))), (5, .pv (.int k))], [(901, .box [.pv (.slice cs), .pv (.int l), .pv (.int n3), .pv .nilfn, .pv .nilfn, .arr 902 n1 n5, .arr 903 n2 n6, .pv (.int n4), .pv (varsP m.vars)]), (902, S1), (903, F1), (3, .box [.pv (.int 1), .pv (.int a)])], [3, 901, 902, 903] ++ ms⟩) ?_ ?_
  · refine ⟨by simp [slotsLe, getS], by simp [subO, getO], ?_⟩
    rw [subL_iff]
    intro n hn
    have := hFn n
    simp only [namesSl, V.names, namesOb, obn_box, namesL, XX_given, hSn, List.mem_append, List.mem_cons, List.not_mem_nil, or_false, false_or, List.append_nil, List.nil_append, List.cons_append] at hn this ⊢
    grind
  intro k hk
  by_cases h : k < a
  · have h' : (k : Int) < a := by omega
    obtain ⟨y, t, hyt⟩ : ∃ y t, m.vars.drop k = y :: t := by
      cases e : m.vars.drop k with
      | nil => simp at e; omega
      | cons y t => exact ⟨y, t, rfl⟩
    have ht1 : m.vars.drop (k + 1) = t := by rw [← List.drop_drop, hyt]; rfl
    clear hxd hx
    rw [hyt]
    simp only [varsP]
    generalize hvt : varsP t = vt at *
    generalize itP y = vy at *
    generalize varsP m.vars = vv at *
    refine gg ?_
    refine ⟨h, ?_, ?_, ?_⟩
    · simp [slotsLe, getS, ht1, hvt]
    · simp [subO, getO]
    · rw [subL_iff]
      intro n hn
      have := hFn n
      simp only [namesSl, V.names, namesOb, obn_box, namesL, XX_given, hSn, List.mem_append, List.mem_cons, List.not_mem_nil, or_false, false_or, List.append_nil, List.nil_append, List.cons_append] at hn this ⊢
      grind
  · have hka : k = a := by omega
    subst hka
    have h' : ¬ (k : Int) < k := by omega
    rw [hxd]
    simp only [varsP]
    generalize varsP (m.vars.drop (k + 1)) = vt at *
    generalize itP x = vx at *
    generalize varsP m.vars = vv at *
    clear hxd hx
    refine gg ?_
    refine call p1 ?_
    refine gg ?_
    exact ⟨by simp [retIs, resV, resL, resOne, mkTup, getS, getO, rdV, mkAgg, unL, V.un, TI.isAgg, XX_T, tt30, Tryz.f113], by simp [subO, getO, tt30, Tryz.f113]⟩
end
end Go.Proofs.YtodjpfpmhjdhbaaGreatDoor
