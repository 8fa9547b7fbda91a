/- Part of the proof: contracts of the machine's step and of its run; no conditions. -/
import Derived.Test.YtodjpfpmhjdhbaaGreatDoorCallsD3
set_option linter.unusedVariables false
set_option linter.unusedSimpArgs false
set_option linter.unusedSectionVars false
namespace Go.Proofs.YtodjpfpmhjdhbaaGreatDoor
open Go.Lg
set_option maxRecDepth 10000
set_option maxHeartbeats 4000000
def pop1 (m : Ms) (s : List It) (x : It) : Ms := { m with stack := s, sg := x :: m.sg }
def popFr (m : Ms) (fs : List Fr) (fr : Fr) : Ms := { m with frames := fs, fg := fr :: m.fg, at_ := fr.at_, vars := fr.vars }
theorem frV_eq (fr : Fr) : frV fr = [.pv (.int fr.at_), .pv (varsP fr.vars), .pv (itP fr.f), .pv (itP fr.a), rpV fr.rd] := by
  obtain ⟨a, b, c, d, rd⟩ := fr
  cases rd <;> rfl
theorem leave_last (c : List Ins) (l : Nat) (m : Ms) (s : List It) (x : It) (hs : m.stack = s ++ [x]) (hl : m.stack.length ≤ 1000000) (hf : m.frames = []) (hN : ∀ n ∈ frN (m.frames ++ m.fg), 1000 ≤ n) :
    AC Tryz.prog gl 132 [.loc 901 0] (mO c l m) (.ret (.pv (.bool false))) (mO c l ((pop1 m s x).push x)) := by
  have p1 := pop_ok c l m s x hs hl
  have p2 := push_ok c l (pop1 m s x) x (by simp [hs] at hl; simp [pop1]; omega)
  refine bodyM [] (frN (m.frames ++ m.fg)) Tryz.func132 Tryz.ntmps132 ?_ (hms1 := mO_1 c l m rfl) (hms2 := mO_2 c l m (fun n hn => by have := hN n hn; omega)) (hms3 := mO_2 c l _ (fun n hn => by have := hN n hn; omega)) (hna := mO_3 c l m rfl) (hno := ?_)
  · clear hN
    generalize frN (m.frames ++ m.fg) = ms at *
    have eF : mF ((pop1 m s x).push x) = mF m := rfl
    simp only [mO, eF]
    unfold pop1 at *
    generalize mB c l (Ms.push { m with stack := s, sg := x :: m.sg } x) = B2 at *
    generalize mS (Ms.push { m with stack := s, sg := x :: m.sg } x) = S2 at *
    generalize mB c l m = B0 at *
    generalize mS m = S0 at *
    generalize mS { m with stack := s, sg := x :: m.sg } = S1 at *
    simp only [mB, mF, hf, List.length_nil, List.nil_append, Int.cast_ofNat_Int] at *
    generalize m.fg.map frV = FS at *
    generalize itP x = vx at *
    refine gg ?_
    refine call p1 ?_
    refine gg ?_
    refine call p2 ?_
    refine gg ?_
    exact ⟨by simp [retIs, resV, resL, resOne, mkTup, getS, getO, rdV, mkAgg, unL, V.un, TI.isAgg, XX_T, tt30, Tryz.f132], by simp [subO, getO, tt30, Tryz.f132]⟩
  · rw [subL_iff]
    intro n hn
    simp only [Out.names, V.names, List.nil_append] at hn
    exact List.mem_append.2 (.inl (namesOb_mO c l ((pop1 m s x).push x) n hn))
section
variable (c : List Ins) (l : Nat) (m : Ms) (s : List It) (x : It) (hs : m.stack = s ++ [x]) (hl : m.stack.length ≤ 1000000) (fs : List Fr) (fr : Fr) (hf : m.frames = fs ++ [fr]) (hfl : m.frames.length ≤ 1000000)
include hs hl hf hfl
theorem leave_plain (hr : fr.rd = none) (hN : ∀ n ∈ frN (m.frames ++ m.fg), 1000 ≤ n) :
    AC Tryz.prog gl 132 [.loc 901 0] (mO c l m) (.ret (.pv (.bool (decide (0 ≤ fr.at_))))) (mO c l ((popFr (pop1 m s x) fs fr).push x)) := by
  have p1 := pop_ok c l m s x hs hl
  have p2 := push_ok c l (popFr (pop1 m s x) fs fr) x (by simp [hs] at hl; simp [pop1, popFr]; omega)
  have hlen : m.frames.length = fs.length + 1 := by simp [hf]
  have hget : ((m.frames ++ m.fg).map frV)[fs.length]? = some (frV fr) := by simp [hf]
  have hle : fs.length < ((m.frames ++ m.fg).map frV).length := by simp [hf]
  have hA : (fs ++ fr :: m.fg).map frV = (m.frames ++ m.fg).map frV := by simp [hf]
  have hi : (((fs.length + 1 : Nat) : Int) - 1).toNat = fs.length := by omega
  have v1 := vcells_one (varsP_one fr.vars)
  have v2 := vcells_one (itP_one fr.f)
  have v3 := vcells_one (itP_one fr.a)
  have o1 : (V.pv (varsP fr.vars)).one = true := by rw [one_pv]; exact varsP_one _
  have o2 : (V.pv (itP fr.f)).one = true := by rw [one_pv]; exact itP_one _
  have o3 : (V.pv (itP fr.a)).one = true := by rw [one_pv]; exact itP_one _
  refine bodyM [] (frN (m.frames ++ m.fg)) Tryz.func132 Tryz.ntmps132 ?_ (hms1 := mO_1 c l m rfl) (hms2 := mO_2 c l m (fun n hn => by have := hN n hn; omega)) (hms3 := mO_2 c l _ (fun n hn => by have := hN n hn; omega)) (hna := mO_3 c l m rfl) (hno := ?_)
  · have h4 : 4 ∉ frN (m.frames ++ m.fg) := fun h => by have := hN 4 h; omega
    clear hN
    generalize frN (m.frames ++ m.fg) = ms at *
    have eF : mF ((popFr (pop1 m s x) fs fr).push x) = .arr m.fv 5 206 ((m.frames ++ m.fg).map frV) := by
      rw [← hA]; rfl
    rw [frV_eq, hr] at hget
    simp only [rpV] at hget
    simp only [mO, eF]
    unfold popFr pop1 at *
    generalize mS (Ms.push _ x) = S2 at p2 ⊢
    generalize mB c l m = B0 at *
    generalize mS m = S0 at *
    have eS : mS ({ m with stack := s, sg := x :: m.sg, frames := fs, fg := fr :: m.fg, at_ := fr.at_, vars := fr.vars } : Ms) = mS { m with stack := s, sg := x :: m.sg } := rfl
    simp only [eS] at p2
    generalize mS { m with stack := s, sg := x :: m.sg } = S1 at *
    simp only [mB, mF, hlen, Ms.push, List.length_append, List.length_cons, List.length_nil, Nat.zero_add] at *
    clear eS eF hA hf hs hlen hr
    generalize (m.frames ++ m.fg).map frV = FS at *
    generalize c.map insP = cs at *
    generalize itP x = vx at *
    generalize varsP m.vars = vv at *
    generalize varsP fr.vars = fv at *
    generalize itP fr.f = ff at *
    generalize itP fr.a = fa at *
    generalize hkl : fs.length = k at *
    have hb1 : (0 : Int) ≤ ((k + 1 : Nat) : Int) - 1 := by omega
    have hb2 : ((k + 1 : Nat) : Int) - 1 < ((k + 1 : Nat) : Int) := by omega
    have hb3 : ((k + 1 : Nat) : Int) - 1 ≤ ((k + 1 : Nat) : Int) := by omega
    have hb4 : ¬ ((k + 1 : Nat) : Int) = 0 := by omega
    have hb5 : k + 1 ≤ FS.length := by omega
    refine gg ?_
    refine call p1 ?_
    refine gg ?_
    refine ⟨by rfl, ?_⟩
    refine gg ?_
    refine ⟨by rfl, ?_⟩
    refine gg ?_
    refine ⟨by rfl, ?_⟩
    refine gg ?_
    refine call p2 ?_
    refine gg ?_
    exact ⟨by simp [retIs, resV, resL, resOne, mkTup, getS, getO, rdV, mkAgg, unL, V.un, TI.isAgg, XX_T, tt30, Tryz.f132], by simp [subO, getO, tt30, Tryz.f132]⟩
  · rw [subL_iff]
    intro n hn
    simp only [Out.names, V.names, List.nil_append] at hn
    have := namesOb_mO c l ((popFr (pop1 m s x) fs fr).push x) n hn
    simp only [popFr, pop1, Ms.push] at this
    have e : fs ++ fr :: m.fg = m.frames ++ m.fg := by simp [hf]
    rw [e] at this
    exact List.mem_append.2 (.inl this)
end
end Go.Proofs.YtodjpfpmhjdhbaaGreatDoor
namespace Go.Proofs.YtodjpfpmhjdhbaaGreatDoor
open Go.Lg
set_option maxRecDepth 10000
set_option maxHeartbeats 4000000
theorem namesOb_app : ∀ (a b : List (Nat × Ob)), namesOb (a ++ b) = namesOb a ++ namesOb b
  | [], b => rfl
  | (k, o) :: a, b => by simp [namesOb, namesOb_app a b]
theorem mentO_app : ∀ (a b : List (Nat × Ob)), mentO (a ++ b) = mentO a ++ mentO b
  | [], b => rfl
  | (k, o) :: a, b => by simp [mentO, mentO_app a b]
def oth (m : Ms) : List Nat := (frN (m.frames ++ m.fg)).filter (fun n => decide (n ≠ 920))
theorem mR_1 (c : List Ins) (l : Nat) (m : Ms) (R : Ob) : subL (oth m) (mentL [.loc 901 0] (mO c l m ++ [(920, R)])) := by
  rw [subL_iff]
  intro n hn
  simp only [oth, List.mem_filter] at hn
  simp only [mO, mentL, mentO_app, mentO, mF_names, List.mem_append]
  grind
theorem mR_2 (c : List Ins) (l : Nat) (m : Ms) (R : Ob) (hN : ∀ n ∈ frN (m.frames ++ m.fg), n = 920 ∨ 1000 ≤ n) : ∀ n ∈ oth m, n ∉ keysO (mO c l m ++ [(920, R)]) := by
  intro n hn
  simp only [oth, List.mem_filter, decide_eq_true_eq] at hn
  have := hN n hn.1
  simp [keysO, mO]
  omega
theorem mR_3 (c : List Ins) (l : Nat) (m m0 : Ms) (R : Ob) (hR : R.names = []) (h0 : ∀ n ∈ frN (m0.frames ++ m0.fg), n ∈ frN (m.frames ++ m.fg) ∨ n = 920) : subL ([901] ++ namesOb (mO c l m0 ++ [(920, R)])) ([901, 902, 903, 920] ++ oth m) := by
  rw [subL_iff]
  intro n hn
  have h := h0 n
  simp only [mO, namesOb_app, namesOb, mB_names, mF_names, mS_names, hR, List.mem_append, List.mem_cons, List.not_mem_nil, or_false, false_or, List.append_nil, List.nil_append, List.cons_append] at hn ⊢
  simp only [oth, List.mem_filter, decide_eq_true_eq]
  grind
theorem rB_names (r : Rd) (lv : PV) : (rB r lv).names = [] := by simp [rB, Ob.names, namesL, V.names]
section
variable (c : List Ins) (l : Nat) (m : Ms) (s : List It) (x : It) (hs : m.stack = s ++ [x]) (hl : m.stack.length ≤ 1000000) (fs : List Fr) (fr : Fr) (hf : m.frames = fs ++ [fr]) (hfl : m.frames.length ≤ 1000000) (r : Rd) (hr : fr.rd = some (920, r)) (hN : ∀ n ∈ frN (m.frames ++ m.fg), n = 920 ∨ 1000 ≤ n) (R0 R1 : Ob) (hR0 : R0.names = []) (hR1 : R1.names = [])
include hs hl hf hfl hr hN hR0 hR1
theorem leave_done (hret : AC Tryz.prog gl 134 [.loc 920 0, .pv (itP x)] [(920, R0)] (.ret (.pv (.tuple [.nil, .nil, .bool true]))) [(920, R1)]) :
    AC Tryz.prog gl 132 [.loc 901 0] (mO c l m ++ [(920, R0)]) (.ret (.pv (.bool (decide (0 ≤ fr.at_))))) (mO c l ((popFr (pop1 m s x) fs fr).push x)) := by
  have p1 := pop_ok c l m s x hs hl
  have p2 := push_ok c l (popFr (pop1 m s x) fs fr) x (by simp [hs] at hl; simp [pop1, popFr]; omega)
  have hlen : m.frames.length = fs.length + 1 := by simp [hf]
  have hget : ((m.frames ++ m.fg).map frV)[fs.length]? = some (frV fr) := by simp [hf]
  have hle : fs.length < ((m.frames ++ m.fg).map frV).length := by simp [hf]
  have hA : (fs ++ fr :: m.fg).map frV = (m.frames ++ m.fg).map frV := by simp [hf]
  have hi : (((fs.length + 1 : Nat) : Int) - 1).toNat = fs.length := by omega
  have v1 := vcells_one (varsP_one fr.vars)
  have v2 := vcells_one (itP_one fr.f)
  have v3 := vcells_one (itP_one fr.a)
  have o1 : (V.pv (varsP fr.vars)).one = true := by rw [one_pv]; exact varsP_one _
  have o2 : (V.pv (itP fr.f)).one = true := by rw [one_pv]; exact itP_one _
  have o3 : (V.pv (itP fr.a)).one = true := by rw [one_pv]; exact itP_one _
  refine bodyM [] (oth m) Tryz.func132 Tryz.ntmps132 ?_ (hms1 := mR_1 c l m R0) (hms2 := mR_2 c l m R0 hN) (hms3 := ?_) (hna := mR_3 c l m m R0 hR0 (fun n h => .inl h)) (hno := ?_)
  · have h4 : 4 ∉ oth m := fun h => by
      simp only [oth, List.mem_filter] at h
      have := hN 4 h.1; omega
    clear hN
    generalize oth m = ms at *
    have eF : mF ((popFr (pop1 m s x) fs fr).push x) = .arr m.fv 5 206 ((m.frames ++ m.fg).map frV) := by
      rw [← hA]; rfl
    rw [frV_eq, hr] at hget
    simp only [rpV] at hget
    simp only [mO, eF, List.cons_append, List.nil_append]
    unfold popFr pop1 at *
    generalize mS (Ms.push _ x) = S2 at p2 ⊢
    generalize mB c l m = B0 at *
    generalize mS m = S0 at *
    have eS : mS ({ m with stack := s, sg := x :: m.sg, frames := fs, fg := fr :: m.fg, at_ := fr.at_, vars := fr.vars } : Ms) = mS { m with stack := s, sg := x :: m.sg } := rfl
    simp only [eS] at p2
    generalize mS { m with stack := s, sg := x :: m.sg } = S1 at *
    simp only [mB, mF, hlen, hA, Ms.push, List.length_append, List.length_cons, List.length_nil, Nat.zero_add] at *
    clear eS eF hf hs hlen hr hA
    generalize (m.frames ++ m.fg).map frV = FS at *
    generalize c.map insP = cs at *
    generalize itP x = vx at *
    generalize varsP m.vars = vv at *
    generalize varsP fr.vars = fv at *
    generalize itP fr.f = ff at *
    generalize itP fr.a = fa at *
    generalize hkl : fs.length = k at *
    have hb1 : (0 : Int) ≤ ((k + 1 : Nat) : Int) - 1 := by omega
    have hb2 : ((k + 1 : Nat) : Int) - 1 < ((k + 1 : Nat) : Int) := by omega
    have hb3 : ((k + 1 : Nat) : Int) - 1 ≤ ((k + 1 : Nat) : Int) := by omega
    have hb4 : ¬ ((k + 1 : Nat) : Int) = 0 := by omega
    have hb5 : k + 1 ≤ FS.length := by omega
    refine gg ?_
    refine call p1 ?_
    refine gg ?_
    refine ⟨by rfl, ?_⟩
    refine gg ?_
    refine ⟨by rfl, ?_⟩
    refine gg ?_
    refine ⟨by rfl, ?_⟩
    refine gg ?_
    refine call hret ?_
    refine gg ?_
    refine call p2 ?_
    refine gg ?_
    exact ⟨by simp [retIs, resV, resL, resOne, mkTup, getS, getO, rdV, mkAgg, unL, V.un, TI.isAgg, XX_T, tt30, Tryz.f132], by simp [subO, getO, tt30, Tryz.f132]⟩
  · intro n hn
    simp only [oth, List.mem_filter, decide_eq_true_eq] at hn
    have := hN n hn.1
    simp [keysO, mO]
    omega
  · rw [subL_iff]
    intro n hn
    simp only [Out.names, V.names, List.nil_append] at hn
    have := namesOb_mO c l ((popFr (pop1 m s x) fs fr).push x) n hn
    simp only [popFr, pop1, Ms.push] at this
    have e : fs ++ fr :: m.fg = m.frames ++ m.fg := by simp [hf]
    rw [e] at this
    simp only [keysO, mO, List.map_append, List.map_cons, List.map_nil, List.mem_append, List.mem_cons, List.not_mem_nil, or_false, oth, List.mem_filter, decide_eq_true_eq] at this ⊢
    grind
theorem leave_err (pf pa p : PV) (hret : AC Tryz.prog gl 134 [.loc 920 0, .pv (itP x)] [(920, R0)] (.ret (.pv (.tuple [pf, pa, .bool false]))) [(920, R1)])
    (he : AC Tryz.prog gl 115 [.loc 901 0, .pv pf, .pv pa, .loc 920 0] [(901, mB c l (popFr (pop1 m s x) fs fr)), (903, mF (popFr (pop1 m s x) fs fr))] (.panic p) []) :
    AC Tryz.prog gl 132 [.loc 901 0] (mO c l m ++ [(920, R0)]) (.panic p) [] := by
  have p1 := pop_ok c l m s x hs hl
  have hlen : m.frames.length = fs.length + 1 := by simp [hf]
  have hget : ((m.frames ++ m.fg).map frV)[fs.length]? = some (frV fr) := by simp [hf]
  have hle : fs.length < ((m.frames ++ m.fg).map frV).length := by simp [hf]
  have hA : (fs ++ fr :: m.fg).map frV = (m.frames ++ m.fg).map frV := by simp [hf]
  have hi : (((fs.length + 1 : Nat) : Int) - 1).toNat = fs.length := by omega
  have v1 := vcells_one (varsP_one fr.vars)
  have v2 := vcells_one (itP_one fr.f)
  have v3 := vcells_one (itP_one fr.a)
  have o1 : (V.pv (varsP fr.vars)).one = true := by rw [one_pv]; exact varsP_one _
  have o2 : (V.pv (itP fr.f)).one = true := by rw [one_pv]; exact itP_one _
  have o3 : (V.pv (itP fr.a)).one = true := by rw [one_pv]; exact itP_one _
  refine bodyM [] (oth m) Tryz.func132 Tryz.ntmps132 ?_ (hms1 := mR_1 c l m R0) (hms2 := mR_2 c l m R0 hN) (hms3 := by simp [keysO]) (hna := mR_3 c l m m R0 hR0 (fun n h => .inl h)) (hno := by simp [subL, Out.names, namesOb])
  · have h4 : 4 ∉ oth m := fun h => by
      simp only [oth, List.mem_filter] at h
      have := hN 4 h.1; omega
    clear hN
    generalize oth m = ms at *
    rw [frV_eq, hr] at hget
    simp only [rpV] at hget
    simp only [mO, List.cons_append, List.nil_append]
    unfold popFr pop1 at *
    generalize mB c l m = B0 at *
    generalize mS m = S0 at *
    have eS : mS ({ m with stack := s, sg := x :: m.sg, frames := fs, fg := fr :: m.fg, at_ := fr.at_, vars := fr.vars } : Ms) = mS { m with stack := s, sg := x :: m.sg } := rfl
    generalize mS { m with stack := s, sg := x :: m.sg } = S1 at *
    simp only [mB, mF, hlen, hA, Ms.push, List.length_append, List.length_cons, List.length_nil, Nat.zero_add] at *
    clear eS hf hs hlen hr hA
    generalize (m.frames ++ m.fg).map frV = FS at *
    generalize c.map insP = cs at *
    generalize itP x = vx at *
    generalize varsP m.vars = vv at *
    generalize varsP fr.vars = fv at *
    generalize itP fr.f = ff at *
    generalize itP fr.a = fa at *
    generalize hkl : fs.length = k at *
    have hb1 : (0 : Int) ≤ ((k + 1 : Nat) : Int) - 1 := by omega
    have hb2 : ((k + 1 : Nat) : Int) - 1 < ((k + 1 : Nat) : Int) := by omega
    have hb3 : ((k + 1 : Nat) : Int) - 1 ≤ ((k + 1 : Nat) : Int) := by omega
    have hb4 : ¬ ((k + 1 : Nat) : Int) = 0 := by omega
    have hb5 : k + 1 ≤ FS.length := by omega
    refine gg ?_
    refine call p1 ?_
    refine gg ?_
    refine ⟨by rfl, ?_⟩
    refine gg ?_
    refine ⟨by rfl, ?_⟩
    refine gg ?_
    refine ⟨by rfl, ?_⟩
    refine gg ?_
    refine call hret ?_
    refine gg ?_
    refine callP he ?_
    refine gg ?_
    exact ⟨rfl, trivial⟩
theorem leave_go (pf pa : PV) (m' : Ms) (hS : mS m' = mS (popFr (pop1 m s x) fs fr)) (hm' : ∀ n ∈ frN (m'.frames ++ m'.fg), n ∈ frN (m.frames ++ m.fg) ∨ n = 920) (hret : AC Tryz.prog gl 134 [.loc 920 0, .pv (itP x)] [(920, R0)] (.ret (.pv (.tuple [pf, pa, .bool false]))) [(920, R1)])
    (he : AC Tryz.prog gl 115 [.loc 901 0, .pv pf, .pv pa, .loc 920 0] [(901, mB c l (popFr (pop1 m s x) fs fr)), (903, mF (popFr (pop1 m s x) fs fr))] (.ret (.pv (.tuple []))) [(901, mB c l m'), (903, mF m')]) :
    AC Tryz.prog gl 132 [.loc 901 0] (mO c l m ++ [(920, R0)]) (.ret (.pv (.bool true))) (mO c l m' ++ [(920, R1)]) := by
  have p1 := pop_ok c l m s x hs hl
  have hlen : m.frames.length = fs.length + 1 := by simp [hf]
  have hget : ((m.frames ++ m.fg).map frV)[fs.length]? = some (frV fr) := by simp [hf]
  have hle : fs.length < ((m.frames ++ m.fg).map frV).length := by simp [hf]
  have hA : (fs ++ fr :: m.fg).map frV = (m.frames ++ m.fg).map frV := by simp [hf]
  have hi : (((fs.length + 1 : Nat) : Int) - 1).toNat = fs.length := by omega
  have v1 := vcells_one (varsP_one fr.vars)
  have v2 := vcells_one (itP_one fr.f)
  have v3 := vcells_one (itP_one fr.a)
  have o1 : (V.pv (varsP fr.vars)).one = true := by rw [one_pv]; exact varsP_one _
  have o2 : (V.pv (itP fr.f)).one = true := by rw [one_pv]; exact itP_one _
  have o3 : (V.pv (itP fr.a)).one = true := by rw [one_pv]; exact itP_one _
  refine bodyM [] (oth m) Tryz.func132 Tryz.ntmps132 ?_ (hms1 := mR_1 c l m R0) (hms2 := mR_2 c l m R0 hN) (hms3 := mR_2 c l m R1 hN) (hna := mR_3 c l m m R0 hR0 (fun n h => .inl h)) (hno := ?_)
  · have h4 : 4 ∉ oth m := fun h => by
      simp only [oth, List.mem_filter] at h
      have := hN 4 h.1; omega
    clear hN
    generalize oth m = ms at *
    rw [frV_eq, hr] at hget
    simp only [rpV] at hget
    simp only [mO, hS, List.cons_append, List.nil_append]
    unfold popFr pop1 at *
    generalize mB c l m' = B3 at *
    generalize mF m' = F3 at *
    generalize mB c l m = B0 at *
    generalize mS m = S0 at *
    have eS : mS ({ m with stack := s, sg := x :: m.sg, frames := fs, fg := fr :: m.fg, at_ := fr.at_, vars := fr.vars } : Ms) = mS { m with stack := s, sg := x :: m.sg } := rfl
    simp only [eS]
    generalize mS { m with stack := s, sg := x :: m.sg } = S1 at *
    simp only [mB, mF, hlen, hA, Ms.push, List.length_append, List.length_cons, List.length_nil, Nat.zero_add] at *
    clear eS hS hm' hf hs hlen hr hA
    generalize (m.frames ++ m.fg).map frV = FS at *
    generalize c.map insP = cs at *
    generalize itP x = vx at *
    generalize varsP m.vars = vv at *
    generalize varsP fr.vars = fv at *
    generalize itP fr.f = ff at *
    generalize itP fr.a = fa at *
    generalize hkl : fs.length = k at *
    have hb1 : (0 : Int) ≤ ((k + 1 : Nat) : Int) - 1 := by omega
    have hb2 : ((k + 1 : Nat) : Int) - 1 < ((k + 1 : Nat) : Int) := by omega
    have hb3 : ((k + 1 : Nat) : Int) - 1 ≤ ((k + 1 : Nat) : Int) := by omega
    have hb4 : ¬ ((k + 1 : Nat) : Int) = 0 := by omega
    have hb5 : k + 1 ≤ FS.length := by omega
    refine gg ?_
    refine call p1 ?_
    refine gg ?_
    refine ⟨by rfl, ?_⟩
    refine gg ?_
    refine ⟨by rfl, ?_⟩
    refine gg ?_
    refine ⟨by rfl, ?_⟩
    refine gg ?_
    refine call hret ?_
    refine gg ?_
    refine call he ?_
    refine gg ?_
    exact ⟨by simp [retIs, resV, resL, resOne, mkTup, getS, getO, rdV, mkAgg, unL, V.un, TI.isAgg, XX_T, tt30, Tryz.f132], by simp [subO, getO, tt30, Tryz.f132]⟩
  · rw [subL_iff]
    intro n hn
    have := subL_spec (mR_3 c l m m' R1 hR1 hm') n (by
      simp only [Out.names, V.names, List.nil_append] at hn
      exact List.mem_append.2 (.inr hn))
    exact List.mem_append.2 (.inl this)
end
end Go.Proofs.YtodjpfpmhjdhbaaGreatDoor
