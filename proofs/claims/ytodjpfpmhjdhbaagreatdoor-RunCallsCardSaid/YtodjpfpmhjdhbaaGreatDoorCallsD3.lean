/- Part of the proof: contracts of the machine's step and of its run; no conditions. -/
import Derived.Test.YtodjpfpmhjdhbaaGreatDoorCallsD2
import Derived.Test.YtodjpfpmhjdhbaaGreatDoorCallsA4
set_option linter.unusedVariables false
set_option linter.unusedSimpArgs false
set_option linter.unusedSectionVars false
namespace Go.Proofs.YtodjpfpmhjdhbaaGreatDoor
open Go.Lg
set_option maxRecDepth 10000
set_option maxHeartbeats 4000000
/-- the machine -/
def mO (c : List Ins) (l : Nat) (m : Ms) : List (Nat × Ob) := [(901, mB c l m), (902, mS m), (903, mF m)]
theorem mO_1 (c : List Ins) (l : Nat) (m : Ms) {args : List V} (ha : namesL args = [901]) : subL (frN (m.frames ++ m.fg)) (mentL args (mO c l m)) := by
  rw [subL_iff]
  intro n hn
  simp only [mO, mentL, mentO, ha, mB_names, mF_names, mS_names, List.mem_append, List.mem_cons, List.not_mem_nil, or_false, false_or, List.append_nil, List.nil_append]
  simp [hn]
theorem mO_2 (c : List Ins) (l : Nat) (m : Ms) {L : List Nat} (hN : ∀ n ∈ L, 905 ≤ n) : ∀ n ∈ L, n ∉ keysO (mO c l m) := by
  intro n hn
  have := hN n hn
  simp [keysO, mO]
  omega
theorem mO_3 (c : List Ins) (l : Nat) (m : Ms) {args : List V} (ha : namesL args = [901]) : subL (namesL args ++ namesOb (mO c l m)) ([901, 902, 903] ++ frN (m.frames ++ m.fg)) := by
  rw [subL_iff]
  intro n hn
  simp only [mO, namesOb, ha, mB_names, mF_names, mS_names, List.mem_append, List.mem_cons, List.not_mem_nil, or_false, false_or, List.append_nil, List.nil_append, List.cons_append] at hn ⊢
  rcases hn with h | h | h | h | h | h | h <;> first | (subst h; simp; done) | simp [h]
theorem begin_nat_new (r : Rd) (lv : PV) (h : r.args = none) (hc : r.next ≤ 1000000) :
    AC Tryz.prog gl 147 [.loc 921 0] [(921, rB r lv)] (.ret (.pv (.tuple [itP r.f, itP (.num r.next)]))) [(921, rB r (.slice [[itP r.result]]))] :=
  (begin_nat_ok r lv h hc).ren (swapN_inv 920 921)
theorem begin_list_new (r : Rd) (lv : PV) (l : List (Nat × List Nat)) (h : r.args = some l) (hd : Nat) (tl : List Nat) (hg : l[r.next]? = some (hd, tl)) :
    AC Tryz.prog gl 147 [.loc 921 0] [(921, rB r lv)] (.ret (.pv (.tuple [itP r.f, itP (.num hd)]))) [(921, rB r (.slice [[itP (.list tl)], [itP r.result]]))] :=
  (begin_list_ok r lv l h hd tl hg).ren (swapN_inv 920 921)
section
variable (c : List Ins) (l : Nat) (m : Ms) (s : List It) (b f x : It) (hs : m.stack = s ++ [b, f, x]) (hl : m.stack.length ≤ 1000000) (hN : ∀ n ∈ frN (m.frames ++ m.fg), 1000 ≤ n)
include hs hl hN
theorem rec_err (list : Bool) (hf : ¬ f.kind = 5) : AC Tryz.prog gl 131 [.loc 901 0, .pv (.bool list)] (mO c l m) (.panic (fail 44)) [] := by
  have p1 := pop_ok c l m (s ++ [b, f]) x (by simp [hs]) hl
  have p2 := pop_ok c l { m with stack := s ++ [b, f], sg := x :: m.sg } (s ++ [b]) f (by simp) (by simp [hs] at hl ⊢; omega)
  have p3 := pop_ok c l { m with stack := s ++ [b], sg := f :: x :: m.sg } s b rfl (by simp [hs] at hl ⊢; omega)
  have hw := want_err f 5 hf
  refine bodyM [] (frN (m.frames ++ m.fg)) Tryz.func131 Tryz.ntmps131 ?_ (hms1 := mO_1 c l m rfl) (hms2 := mO_2 c l m (fun n hn => by have := hN n hn; omega)) (hms3 := by simp [keysO]) (hna := mO_3 c l m rfl) (hno := by simp [subL, Out.names, namesOb])
  clear hN
  simp only [mO]
  generalize frN (m.frames ++ m.fg) = ms at *
  generalize mF m = F0 at *
  generalize mB c l m = B0 at *
  generalize mS m = S0 at *
  generalize mB c l { m with stack := s ++ [b, f], sg := x :: m.sg } = B1 at *
  generalize mS { m with stack := s ++ [b, f], sg := x :: m.sg } = S1 at *
  generalize mB c l { m with stack := s ++ [b], sg := f :: x :: m.sg } = B2 at *
  generalize mS { m with stack := s ++ [b], sg := f :: x :: m.sg } = S2 at *
  generalize mB c l { m with stack := s, sg := b :: f :: x :: m.sg } = B3 at *
  generalize mS { m with stack := s, sg := b :: f :: x :: m.sg } = S3 at *
  unfold fail at *
  refine gg ?_
  refine call p1 ?_
  refine gg ?_
  refine call p2 ?_
  refine gg ?_
  refine call p3 ?_
  refine gg ?_
  refine callP hw ?_
  refine gg ?_
  exact ⟨rfl, trivial⟩
theorem rec_err2 (list : Bool) (hf : f.kind = 5) (hx : ¬ x.kind = bif list then 2 else 1) : AC Tryz.prog gl 131 [.loc 901 0, .pv (.bool list)] (mO c l m) (.panic (fail 44)) [] := by
  have p1 := pop_ok c l m (s ++ [b, f]) x (by simp [hs]) hl
  have p2 := pop_ok c l { m with stack := s ++ [b, f], sg := x :: m.sg } (s ++ [b]) f (by simp) (by simp [hs] at hl ⊢; omega)
  have p3 := pop_ok c l { m with stack := s ++ [b], sg := f :: x :: m.sg } s b rfl (by simp [hs] at hl ⊢; omega)
  have hw := want_ok f
  rw [hf] at hw
  have hw2 := want_err x _ hx
  have q1 := vcells_one (itP_one f)
  have q2 := vcells_one (itP_one b)
  have q3 : (V.pv (itP f)).one = true := by rw [one_pv]; exact itP_one f
  have q4 : (V.pv (itP b)).one = true := by rw [one_pv]; exact itP_one b
  refine bodyM [(24, .box 921)] (frN (m.frames ++ m.fg)) Tryz.func131 Tryz.ntmps131 ?_ (hms1 := mO_1 c l m rfl) (hms2 := mO_2 c l m (fun n hn => by have := hN n hn; omega)) (hms3 := by simp [keysO]) (hna := mO_3 c l m rfl) (hno := by simp [subL, Out.names, namesOb])
  have h921 : 921 ∉ frN (m.frames ++ m.fg) := fun h => by have := hN 921 h; omega
  clear hN
  simp only [mO]
  generalize frN (m.frames ++ m.fg) = ms at *
  generalize mF m = F0 at *
  generalize mB c l m = B0 at *
  generalize mS m = S0 at *
  generalize mB c l { m with stack := s ++ [b, f], sg := x :: m.sg } = B1 at *
  generalize mS { m with stack := s ++ [b, f], sg := x :: m.sg } = S1 at *
  generalize mB c l { m with stack := s ++ [b], sg := f :: x :: m.sg } = B2 at *
  generalize mS { m with stack := s ++ [b], sg := f :: x :: m.sg } = S2 at *
  generalize mB c l { m with stack := s, sg := b :: f :: x :: m.sg } = B3 at *
  generalize mS { m with stack := s, sg := b :: f :: x :: m.sg } = S3 at *
  unfold fail at *
  generalize itP f = vf at *
  generalize itP b = vb at *
  cases list
  all_goals simp only [cond_true, cond_false] at *
  all_goals refine gg ?_
  all_goals refine call p1 ?_
  all_goals refine gg ?_
  all_goals refine call p2 ?_
  all_goals refine gg ?_
  all_goals refine call p3 ?_
  all_goals refine gg ?_
  all_goals refine call hw ?_
  all_goals refine gg ?_
  all_goals refine callP hw2 ?_
  all_goals refine gg ?_
  all_goals exact ⟨rfl, trivial⟩
end
end Go.Proofs.YtodjpfpmhjdhbaaGreatDoor
namespace Go.Proofs.YtodjpfpmhjdhbaaGreatDoor
open Go.Lg
set_option maxRecDepth 10000
set_option maxHeartbeats 4000000
/-- the machine behind three pops -/
def pop3 (m : Ms) (s : List It) (b f x : It) : Ms := { m with stack := s, sg := b :: f :: x :: m.sg }
theorem namesOb_mO (c : List Ins) (l : Nat) (m : Ms) : ∀ n ∈ namesOb (mO c l m), n ∈ [901, 902, 903] ++ frN (m.frames ++ m.fg) := by
  intro n hn
  simp only [mO, namesOb, mB_names, mF_names, mS_names, List.mem_append, List.mem_cons, List.not_mem_nil, or_false, false_or, List.append_nil, List.nil_append, List.cons_append] at hn ⊢
  rcases hn with h | h | h | h | h | h <;> first | (subst h; simp; done) | simp [h]
section
variable (c : List Ins) (l : Nat) (m : Ms) (s : List It) (b f x : It) (hs : m.stack = s ++ [b, f, x]) (hl : m.stack.length ≤ 1000000) (hN : ∀ n ∈ frN (m.frames ++ m.fg), 1000 ≤ n)
include hs hl hN
theorem rec_zero (list : Bool) (hf : f.kind = 5) (hx : x = bif list then .list [] else .num 0) : AC Tryz.prog gl 131 [.loc 901 0, .pv (.bool list)] (mO c l m) (.ret (.pv (.tuple []))) (mO c l ((pop3 m s b f x).push b)) := by
  have p1 := pop_ok c l m (s ++ [b, f]) x (by simp [hs]) hl
  have p2 := pop_ok c l { m with stack := s ++ [b, f], sg := x :: m.sg } (s ++ [b]) f (by simp) (by simp [hs] at hl ⊢; omega)
  have p3 := pop_ok c l { m with stack := s ++ [b], sg := f :: x :: m.sg } s b rfl (by simp [hs] at hl ⊢; omega)
  have hw := want_ok f
  rw [hf] at hw
  have hw2 := want_ok x
  have hp := push_ok c l (pop3 m s b f x) b (by simp [hs] at hl; simp [pop3]; omega)
  have q1 := vcells_one (itP_one f)
  have q2 := vcells_one (itP_one b)
  have q3 : (V.pv (itP f)).one = true := by rw [one_pv]; exact itP_one f
  have q4 : (V.pv (itP b)).one = true := by rw [one_pv]; exact itP_one b
  refine bodyM [(24, .box 921), (29, .arr 951 1 87), (8, .arr 952 1 163)] (frN (m.frames ++ m.fg)) Tryz.func131 Tryz.ntmps131 ?_ (hms1 := mO_1 c l m rfl) (hms2 := mO_2 c l m (fun n hn => by have := hN n hn; omega)) (hms3 := ?_) (hna := mO_3 c l m rfl) (hno := ?_)
  · unfold pop3 at *
    have h921 : 921 ∉ frN (m.frames ++ m.fg) := fun h => by have := hN 921 h; omega
    have h951 : 951 ∉ frN (m.frames ++ m.fg) := fun h => by have := hN 951 h; omega
    have h952 : 952 ∉ frN (m.frames ++ m.fg) := fun h => by have := hN 952 h; omega
    clear hN
    simp only [mO]
    have e1 : mF (Ms.push { m with stack := s, sg := b :: f :: x :: m.sg } b) = mF m := rfl
    rw [e1]
    generalize frN (m.frames ++ m.fg) = ms at *
    generalize mF m = F0 at *
    generalize mB c l m = B0 at *
    generalize mS m = S0 at *
    generalize mB c l { m with stack := s ++ [b, f], sg := x :: m.sg } = B1 at *
    generalize mS { m with stack := s ++ [b, f], sg := x :: m.sg } = S1 at *
    generalize mB c l { m with stack := s ++ [b], sg := f :: x :: m.sg } = B2 at *
    generalize mS { m with stack := s ++ [b], sg := f :: x :: m.sg } = S2 at *
    generalize mB c l { m with stack := s, sg := b :: f :: x :: m.sg } = B3 at *
    generalize mS { m with stack := s, sg := b :: f :: x :: m.sg } = S3 at *
    generalize mB c l (Ms.push { m with stack := s, sg := b :: f :: x :: m.sg } b) = B4 at *
    generalize mS (Ms.push { m with stack := s, sg := b :: f :: x :: m.sg } b) = S4 at *
    clear hs
    generalize itP f = vf at *
    generalize itP b = vb at *
    cases list
    · simp only [cond_false] at hx
      subst hx
      simp only [It.kind, itP, Int.cast_ofNat_Int] at *
      refine gg ?_
      refine call p1 ?_
      refine gg ?_
      refine call p2 ?_
      refine gg ?_
      refine call p3 ?_
      refine gg ?_
      refine call hw ?_
      refine gg ?_
      refine call hw2 ?_
      refine gg ?_
      refine call hp ?_
      refine gg ?_
      exact ⟨by simp [retIs, resV, resL, resOne, mkTup, getS, getO, rdV, mkAgg, unL, V.un, TI.isAgg, XX_T, tt30, Tryz.f131], by simp [subO, getO, tt30, Tryz.f131]⟩
    · simp only [cond_true] at hx
      subst hx
      simp only [It.kind, itP, linkP, Int.cast_ofNat_Int] at *
      refine gg ?_
      refine call p1 ?_
      refine gg ?_
      refine call p2 ?_
      refine gg ?_
      refine call p3 ?_
      refine gg ?_
      refine call hw ?_
      refine gg ?_
      refine call hw2 ?_
      refine gg ?_
      refine ex_loop 1 (ex_round ?_)
      refine gg ?_
      refine ex_loop 1 (ex_round ?_)
      refine gg ?_
      refine call hp ?_
      refine gg ?_
      exact ⟨by simp [retIs, resV, resL, resOne, mkTup, getS, getO, rdV, mkAgg, unL, V.un, TI.isAgg, XX_T, tt30, Tryz.f131], by simp [subO, getO, tt30, Tryz.f131]⟩
  · exact mO_2 c l _ (fun n hn => by have := hN n hn; omega)
  · rw [subL_iff]
    intro n hn
    simp only [Out.names, V.names, List.nil_append] at hn
    have := namesOb_mO c l _ n hn
    simp only [pop3, Ms.push] at this
    exact List.mem_append.2 (.inl this)
theorem rec_nat (k : Nat) (hk : ¬ k = 0) (hk2 : k ≤ 1000000) (p : Nat) (vs : List It) (hf : f = .fn p vs) (hx : x = .num k) (h1 : vs.length ≤ 100000) (h2 : insideL vs ≤ 100000) (hfl : m.frames.length < 1024) (r : Rd) (hr : r = ⟨f, 0, none, k, b, [b]⟩)
    (m' : Ms) (hE : m' = { pop3 m s b f x with frames := m.frames ++ [⟨m.at_, m.vars, f, .num 0, some (921, r)⟩], fg := [], fv := m.fv + 1, at_ := p, vars := .num 0 :: vs }) :
    AC Tryz.prog gl 131 [.loc 901 0, .pv (.bool false)] (mO c l m) (.ret (.pv (.tuple []))) (mO c l m' ++ [(921, rB r (.slice (r.left.map itC)))]) := by
  have p1 := pop_ok c l m (s ++ [b, f]) x (by simp [hs]) hl
  have p2 := pop_ok c l { m with stack := s ++ [b, f], sg := x :: m.sg } (s ++ [b]) f (by simp) (by simp [hs] at hl ⊢; omega)
  have p3 := pop_ok c l { m with stack := s ++ [b], sg := f :: x :: m.sg } s b rfl (by simp [hs] at hl ⊢; omega)
  have hw := want_ok f
  have hkf : f.kind = 5 := by rw [hf]; rfl
  rw [hkf] at hw
  have hw2 := want_ok x
  have hb := begin_nat_new ⟨f, 0, none, k, b, []⟩ .nils rfl (by simp)
  have he := enter_ok c l (pop3 m s b f x) p vs (.num 0) (some (921, r)) hfl (by intro n hn; have := hN n hn; omega) (by simp [rpN]) h1 h2 (by simp [It.more])
  rw [← hf] at he
  have eE : ({ pop3 m s b f x with frames := (pop3 m s b f x).frames ++ [⟨(pop3 m s b f x).at_, (pop3 m s b f x).vars, f, .num 0, some (921, r)⟩], fg := [], fv := (pop3 m s b f x).fv + 1, at_ := p, vars := .num 0 :: vs } : Ms) = m' := hE.symm
  rw [eE] at he
  have eS : mS m' = mS (pop3 m s b f x) := by rw [hE]; rfl
  have eF : mF (pop3 m s b f x) = mF m := rfl
  rw [eF] at he
  have q1 := vcells_one (itP_one f)
  have q2 := vcells_one (itP_one b)
  have q3 : (V.pv (itP f)).one = true := by rw [one_pv]; exact itP_one f
  have q4 : (V.pv (itP b)).one = true := by rw [one_pv]; exact itP_one b
  refine bodyM [(24, .box 921)] (frN (m.frames ++ m.fg)) Tryz.func131 Tryz.ntmps131 ?_ (hms1 := mO_1 c l m rfl) (hms2 := mO_2 c l m (fun n hn => by have := hN n hn; omega)) (hms3 := ?_) (hna := mO_3 c l m rfl) (hno := ?_)
  · simp only [mO, eS]
    unfold pop3 at he eS ⊢
    clear eE hE eS eF
    have h921 : 921 ∉ frN (m.frames ++ m.fg) := fun h => by have := hN 921 h; omega
    have h951 : 951 ∉ frN (m.frames ++ m.fg) := fun h => by have := hN 951 h; omega
    have h952 : 952 ∉ frN (m.frames ++ m.fg) := fun h => by have := hN 952 h; omega
    clear hN
    generalize frN (m.frames ++ m.fg) = ms at *
    generalize mF m = F0 at *
    generalize mB c l m = B0 at *
    generalize mS m = S0 at *
    generalize mB c l { m with stack := s ++ [b, f], sg := x :: m.sg } = B1 at *
    generalize mS { m with stack := s ++ [b, f], sg := x :: m.sg } = S1 at *
    generalize mB c l { m with stack := s ++ [b], sg := f :: x :: m.sg } = B2 at *
    generalize mS { m with stack := s ++ [b], sg := f :: x :: m.sg } = S2 at *
    generalize mB c l { m with stack := s, sg := b :: f :: x :: m.sg } = B3 at *
    generalize mS { m with stack := s, sg := b :: f :: x :: m.sg } = S3 at *
    generalize mB c l m' = B4 at *
    generalize mF m' = F4 at *
    subst hr hx
    simp only [rB, argsP, rpV, It.kind, itP, Int.cast_ofNat_Int, List.map_cons, List.map_nil, itC] at *
    have hk0 : ¬ (k : Int) = 0 := by omega
    clear hs hf hkf
    generalize itP f = vf at *
    generalize itP b = vb at *
    refine gg ?_
    refine call p1 ?_
    refine gg ?_
    refine call p2 ?_
    refine gg ?_
    refine call p3 ?_
    refine gg ?_
    refine call hw ?_
    refine gg ?_
    refine call hw2 ?_
    refine gg ?_
    refine call hb ?_
    refine gg ?_
    refine call he ?_
    refine gg ?_
    exact ⟨by simp [retIs, resV, resL, resOne, mkTup, getS, getO, rdV, mkAgg, unL, V.un, TI.isAgg, XX_T, tt30, Tryz.f131], by simp [subO, getO, tt30, Tryz.f131]⟩
  · intro n hn
    have := hN n hn
    simp [keysO, mO]
    omega
  · rw [subL_iff]
    intro n hn
    simp only [Out.names, V.names, List.nil_append] at hn
    have hn' : n ∈ namesOb (mO c l m') ∨ n = 921 := by
      have e : ∀ (a b : List (Nat × Ob)), namesOb (a ++ b) = namesOb a ++ namesOb b := by
        intro a b
        induction a with
        | nil => rfl
        | cons q r ih => obtain ⟨k, o⟩ := q; simp [namesOb, ih]
      rw [e] at hn
      rcases List.mem_append.1 hn with h | h
      · exact .inl h
      · right
        simpa [namesOb, rB, Ob.names, namesL, V.names] using h
    rcases hn' with h | h
    · have := namesOb_mO c l m' n h
      rw [hE] at this
      simp only [List.append_nil] at this
      have e : frN (m.frames ++ [(⟨m.at_, m.vars, f, .num 0, some (921, r)⟩ : Fr)]) = frN m.frames ++ [921] := by simp [frN]
      rw [e] at this
      have e2 : frN (m.frames ++ m.fg) = frN m.frames ++ frN m.fg := by simp [frN]
      have ek : keysO (mO c l m ++ [(921, rB r (.slice (r.left.map itC)))]) = [901, 902, 903, 921] := rfl
      rw [e2]
      simp only [List.mem_append, List.mem_cons, List.not_mem_nil, or_false, keysO, mO, List.map_append, List.map_cons, List.map_nil] at this ⊢
      rcases this with (h | h | h) | h | h
      all_goals simp [h]
    · subst h
      simp [keysO, mO]
end
end Go.Proofs.YtodjpfpmhjdhbaaGreatDoor
namespace Go.Proofs.YtodjpfpmhjdhbaaGreatDoor
open Go.Lg
set_option maxRecDepth 10000
set_option maxHeartbeats 4000000
def tailsC (L : List Nat) (k : Nat) : List (List PV) := (List.range k).map fun i => [linkP (L.drop i)]
theorem tailsC_succ (L : List Nat) (k : Nat) : tailsC L (k + 1) = tailsC L k ++ [[linkP (L.drop k)]] := by simp [tailsC, List.range_succ]
theorem tailsC_len (L : List Nat) (k : Nat) : (tailsC L k).length = k := by simp [tailsC]
theorem tailsC_get (L : List Nat) (k i : Nat) (h : i < k) : (tailsC L k)[i]? = some [linkP (L.drop i)] := by simp [tailsC, h]
theorem foldArgs_get (L : List Nat) : ∀ (j h : Nat) (t : List Nat), j < L.length → L.drop (L.length - 1 - j) = h :: t → (foldArgs L)[j]? = some (h, t) := by
  induction L with
  | nil => intro j h t hj; simp at hj
  | cons x L ih =>
    intro j h t hj hd
    have hl := foldArgs_len L
    simp only [List.length_cons] at hj hd
    simp only [foldArgs]
    by_cases e : j = L.length
    · subst e
      have : L.length + 1 - 1 - L.length = 0 := by omega
      rw [this] at hd
      simp at hd
      rw [List.getElem?_append_right (by omega), hl]
      simp [hd]
    · have e1 : L.length + 1 - 1 - j = (L.length - 1 - j) + 1 := by omega
      rw [e1, List.drop_succ_cons] at hd
      rw [List.getElem?_append_left (by omega)]
      exact ih j h t (by omega) hd
section
variable (c : List Ins) (l : Nat) (m : Ms) (s : List It) (b f x : It) (hs : m.stack = s ++ [b, f, x]) (hl : m.stack.length ≤ 1000000) (hN : ∀ n ∈ frN (m.frames ++ m.fg), 1000 ≤ n)
include hs hl hN
theorem rec_list (L : List Nat) (hk : ¬ L = []) (hk2 : L.length ≤ 1000000) (p : Nat) (vs : List It) (hf : f = .fn p vs) (hx : x = .list L) (h1 : vs.length ≤ 100000) (h2 : insideL vs ≤ 100000) (hfl : m.frames.length < 1024) (hd : Nat) (tl : List Nat) (hg : (foldArgs L)[0]? = some (hd, tl)) (r : Rd) (hr : r = ⟨f, 0, some (foldArgs L), L.length, b, [.list tl, b]⟩)
    (m' : Ms) (hE : m' = { pop3 m s b f x with frames := m.frames ++ [⟨m.at_, m.vars, f, .num hd, some (921, r)⟩], fg := [], fv := m.fv + 1, at_ := p, vars := .num hd :: vs }) :
    AC Tryz.prog gl 131 [.loc 901 0, .pv (.bool true)] (mO c l m) (.ret (.pv (.tuple []))) (mO c l m' ++ [(921, rB r (.slice (r.left.map itC)))]) := by
  have p1 := pop_ok c l m (s ++ [b, f]) x (by simp [hs]) hl
  have p2 := pop_ok c l { m with stack := s ++ [b, f], sg := x :: m.sg } (s ++ [b]) f (by simp) (by simp [hs] at hl ⊢; omega)
  have p3 := pop_ok c l { m with stack := s ++ [b], sg := f :: x :: m.sg } s b rfl (by simp [hs] at hl ⊢; omega)
  have hw := want_ok f
  have hkf : f.kind = 5 := by rw [hf]; rfl
  rw [hkf] at hw
  have hw2 := want_ok x
  have hb := begin_list_new ⟨f, 0, some (foldArgs L), L.length, b, []⟩ .nils (foldArgs L) rfl hd tl hg
  have he := enter_ok c l (pop3 m s b f x) p vs (.num hd) (some (921, r)) hfl (by intro n hn; have := hN n hn; omega) (by simp [rpN]) h1 h2 (by simp [It.more])
  rw [← hf] at he
  have eE : ({ pop3 m s b f x with frames := (pop3 m s b f x).frames ++ [⟨(pop3 m s b f x).at_, (pop3 m s b f x).vars, f, .num hd, some (921, r)⟩], fg := [], fv := (pop3 m s b f x).fv + 1, at_ := p, vars := .num hd :: vs } : Ms) = m' := hE.symm
  rw [eE] at he
  have eS : mS m' = mS (pop3 m s b f x) := by rw [hE]; rfl
  have eF : mF (pop3 m s b f x) = mF m := rfl
  rw [eF] at he
  have hFn : namesE ((m.frames ++ m.fg).map frV) = frN (m.frames ++ m.fg) := namesE_frV _
  have q1 := vcells_one (itP_one f)
  have q2 := vcells_one (itP_one b)
  have q3 : (V.pv (itP f)).one = true := by rw [one_pv]; exact itP_one f
  have q4 : (V.pv (itP b)).one = true := by rw [one_pv]; exact itP_one b
  refine bodyM [(24, .box 921), (29, .arr 951 1 87), (8, .arr 952 1 163)] (frN (m.frames ++ m.fg)) Tryz.func131 Tryz.ntmps131 ?_ (hms1 := mO_1 c l m rfl) (hms2 := mO_2 c l m (fun n hn => by have := hN n hn; omega)) (hms3 := ?_) (hna := mO_3 c l m rfl) (hno := ?_)
  · simp only [mO, eS]
    unfold pop3 at he eS ⊢
    clear eE hE eS eF
    have h921 : 921 ∉ frN (m.frames ++ m.fg) := fun h => by have := hN 921 h; omega
    have h951 : 951 ∉ frN (m.frames ++ m.fg) := fun h => by have := hN 951 h; omega
    have h952 : 952 ∉ frN (m.frames ++ m.fg) := fun h => by have := hN 952 h; omega
    clear hN
    generalize mB c l m' = B4 at *
    generalize mF m' = F4 at *
    generalize mB c l m = B0 at *
    generalize mS m = S0 at *
    generalize mB c l { m with stack := s ++ [b, f], sg := x :: m.sg } = B1 at *
    generalize mS { m with stack := s ++ [b, f], sg := x :: m.sg } = S1 at *
    generalize mB c l { m with stack := s ++ [b], sg := f :: x :: m.sg } = B2 at *
    generalize mS { m with stack := s ++ [b], sg := f :: x :: m.sg } = S2 at *
    simp only [mB, mS, mF] at *
    generalize frN (m.frames ++ m.fg) = ms at *
    generalize (m.frames ++ m.fg).map frV = FS at *
    generalize (s ++ b :: f :: x :: m.sg).map itC = SS at *
    subst hr hx
    simp only [rB, argsP, rpV, It.kind, itP, Int.cast_ofNat_Int, List.map_cons, List.map_nil, itC] at *
    clear hs hf hkf
    generalize itP f = vf at *
    generalize itP b = vb at *
    generalize c.map insP = cs at *
    generalize varsP m.vars = vv at *
    have hLp : 0 < L.length := by cases L <;> simp_all
    have hk0 : ¬ (L.length : Int) = 0 := by omega
    refine gg ?_
    refine call p1 ?_
    refine gg ?_
    refine call p2 ?_
    refine gg ?_
    refine call p3 ?_
    refine gg ?_
    refine call hw ?_
    refine gg ?_
    refine call hw2 ?_
    refine gg ?_
    refine AWP.loopN L.length (fun k => ⟨[(0, .loc 901 0), (6, .pv vb), (7, .loc 921 0), (8, .arr 952 k k), (9, .pv (linkP (L.drop k)))],
      [(901, .box [.pv (.slice cs), .pv (.int l), .pv (.int m.steps), .pv .nilfn, .pv .nilfn, .arr 902 m.sv s.length, .arr 903 m.fv m.frames.length, .pv (.int m.at_), .pv vv]), (902, .arr m.sv 1 132 (pvE SS)), (903, .arr m.fv 5 206 FS),
       (921, .box [.pv vf, .pv (.int 0), .arr 951 0 0, .pv (.int 0), .pv vb, .pv .nils]), (951, .arr 0 1 87 []), (952, .arr k 1 163 (pvE (tailsC L k)))], [921, 951, 952, 901, 902, 903] ++ ms⟩) ?_ ?_
    · refine ⟨by simp [slotsLe, getS], by simp [subO, getO, tailsC, pvE], ?_⟩
      rw [subL_iff]
      intro n hn
      simp only [namesSl, V.names, namesOb, Ob.names, namesL, namesE, namesE_pvE, XX_given, hFn, List.mem_append, List.mem_cons, List.not_mem_nil, or_false, false_or, List.append_nil, List.nil_append, List.cons_append] at hn ⊢
      grind
    intro k hkk
    have htl := tailsC_len L k
    have htt : (tailsC L k).take k = tailsC L k := List.take_of_length_le (by omega)
    by_cases h : k < L.length
    · obtain ⟨y, t, hyt⟩ : ∃ y t, L.drop k = y :: t := by
        cases e : L.drop k with
        | nil => simp at e; omega
        | cons y t => exact ⟨y, t, rfl⟩
      have ht1 : L.drop (k + 1) = t := by rw [← List.drop_drop, hyt]; rfl
      have hts := tailsC_succ L k
      rw [hyt] at hts
      rw [hyt]
      simp only [linkP] at *
      generalize ((t.length + 1 : Nat) : Int) = tn at *
      generalize hlt : linkP t = vt at *
      generalize tailsC L k = TS at *
      refine gg ?_
      refine ⟨h, ?_, ?_, ?_⟩
      · simp [slotsLe, getS, ht1, hlt]
      · simp [subO, getO, hts, pvE, pvL, htt]
      rw [subL_iff]
      intro n hn
      simp only [namesSl, V.names, namesOb, Ob.names, namesL, namesE, namesE_pvE, XX_given, hFn, List.mem_append, List.mem_cons, List.not_mem_nil, or_false, false_or, List.append_nil, List.nil_append, List.cons_append] at hn ⊢
      grind
    · have hkl : k = L.length := by omega
      subst hkl
      have hdn : L.drop L.length = [] := by simp
      rw [hdn]
      simp only [linkP]
      refine gg ?_
      refine AWP.loopN L.length (fun j => ⟨[(0, .loc 901 0), (6, .pv vb), (7, .loc 921 0), (8, .arr 952 L.length L.length), (10, .pv (.int ((L.length : Int) - 1 - j)))],
        [(901, .box [.pv (.slice cs), .pv (.int l), .pv (.int m.steps), .pv .nilfn, .pv .nilfn, .arr 902 m.sv s.length, .arr 903 m.fv m.frames.length, .pv (.int m.at_), .pv vv]), (902, .arr m.sv 1 132 (pvE SS)), (903, .arr m.fv 5 206 FS),
         (921, .box [.pv vf, .pv (.int 0), .arr 951 j j, .pv (.int 0), .pv vb, .pv .nils]), (951, .arr j 1 87 (pvE (((foldArgs L).take j).map argC))), (952, .arr L.length 1 163 (pvE (tailsC L L.length)))], [921, 951, 952, 901, 902, 903] ++ ms⟩) ?_ ?_
      · refine ⟨by simp [slotsLe, getS], by simp [subO, getO, pvE], ?_⟩
        rw [subL_iff]
        intro n hn
        simp only [namesSl, V.names, namesOb, Ob.names, namesL, namesE, namesE_pvE, XX_given, hFn, List.mem_append, List.mem_cons, List.not_mem_nil, or_false, false_or, List.append_nil, List.nil_append, List.cons_append] at hn ⊢
        grind
      intro j hj
      have hal : (((foldArgs L).take j).map argC).length = j := by simp [foldArgs_len]; omega
      have hat : (((foldArgs L).take j).map argC).take j = ((foldArgs L).take j).map argC := List.take_of_length_le (by omega)
      by_cases h' : j < L.length
      · obtain ⟨y, t, hyt⟩ : ∃ y t, L.drop (L.length - 1 - j) = y :: t := by
          cases e : L.drop (L.length - 1 - j) with
          | nil => simp at e; omega
          | cons y t => exact ⟨y, t, rfl⟩
        have hfa := foldArgs_get L j y t h' hyt
        have hsn := take_snoc hfa
        have hnum := num_item_ok y
        have hg1 := tailsC_get L L.length (L.length - 1 - j) (by omega)
        have hi : ((L.length : Int) - 1 - j).toNat = L.length - 1 - j := by omega
        have hb1 : (0 : Int) ≤ (L.length : Int) - 1 - j := by omega
        have hb2 : (L.length : Int) - 1 - j < L.length := by omega
        have hnx : (L.length : Int) - 1 - j - 1 = (L.length : Int) - 1 - ((j + 1 : Nat) : Int) := by omega
        have hA : ((foldArgs L).take (j + 1)).map argC = ((foldArgs L).take j).map argC ++ [[.slice [[itP (.num y)], [itP (.list t)]]]] := by rw [hsn]; simp [argC]
        rw [hyt] at hg1
        simp only [linkP, itP] at hg1 hnum hA
        rw [hA]
        have hvt := vcells_one (linkP_one t)
        have hvo : (V.pv (linkP t)).one = true := by rw [one_pv]; exact linkP_one t
        clear hfa hsn hyt hA hg hb he hw hw2 p1 p2 p3 hk
        generalize ((t.length + 1 : Nat) : Int) = tn at *
        generalize linkP t = vt at *
        generalize tailsC L L.length = TS at *
        generalize ((foldArgs L).take j).map argC = AS at *
        refine gg ?_
        refine call hnum ?_
        refine gg ?_
        refine ⟨by rfl, ?_⟩
        refine gg ?_
        refine ⟨h', ?_, ?_, ?_⟩
        · simp [slotsLe, getS, hnx]
        · simp [subO, getO, pvE, pvL, hat]
        · rw [subL_iff]
          intro n hn
          simp only [namesSl, V.names, namesOb, Ob.names, namesL, namesE, namesE_pvE, XX_given, hFn, List.mem_append, List.mem_cons, List.not_mem_nil, or_false, false_or, List.append_nil, List.nil_append, List.cons_append] at hn ⊢
          grind
      · have hjl : j = L.length := by omega
        subst hjl
        have hneg : ¬ (0 : Int) ≤ (L.length : Int) - 1 - (L.length : Int) := by omega
        have hat2 : (foldArgs L).take L.length = foldArgs L := List.take_of_length_le (by rw [foldArgs_len]; omega)
        rw [hat2] at hal hat ⊢
        generalize hAS : (foldArgs L).map argC = AS at *
        generalize tailsC L L.length = TS at *
        refine frz 951 ?_ (hσ := by simp only [St.frz, frzS, frzA, frzV, frzL, frzO, frzOb, Nat.reduceEqDiff, false_and, and_self, true_and, ↓reduceIte, hat]; rfl)
        refine gg ?_
        refine call hb ?_
        refine gg ?_
        refine call he ?_
        refine gg ?_
        exact ⟨by simp [retIs, resV, resL, resOne, mkTup, getS, getO, rdV, mkAgg, unL, V.un, TI.isAgg, XX_T, tt30, Tryz.f131], by simp [subO, getO, tt30, Tryz.f131]⟩
  · intro n hn
    have := hN n hn
    simp [keysO, mO]
    omega
  · rw [subL_iff]
    intro n hn
    simp only [Out.names, V.names, List.nil_append] at hn
    have hn' : n ∈ namesOb (mO c l m') ∨ n = 921 := by
      have e : ∀ (a b : List (Nat × Ob)), namesOb (a ++ b) = namesOb a ++ namesOb b := by
        intro a b
        induction a with
        | nil => rfl
        | cons q r ih => obtain ⟨k, o⟩ := q; simp [namesOb, ih]
      rw [e] at hn
      rcases List.mem_append.1 hn with h | h
      · exact .inl h
      · right
        simpa [namesOb, rB, Ob.names, namesL, V.names] using h
    rcases hn' with h | h
    · have := namesOb_mO c l m' n h
      rw [hE] at this
      simp only [List.append_nil] at this
      have e : frN (m.frames ++ [(⟨m.at_, m.vars, f, .num hd, some (921, r)⟩ : Fr)]) = frN m.frames ++ [921] := by simp [frN]
      rw [e] at this
      have e2 : frN (m.frames ++ m.fg) = frN m.frames ++ frN m.fg := by simp [frN]
      have ek : keysO (mO c l m ++ [(921, rB r (.slice (r.left.map itC)))]) = [901, 902, 903, 921] := rfl
      rw [e2]
      simp only [List.mem_append, List.mem_cons, List.not_mem_nil, or_false, keysO, mO, List.map_append, List.map_cons, List.map_nil] at this ⊢
      rcases this with (h | h | h) | h | h
      all_goals simp [h]
    · subst h
      simp [keysO, mO]
end
end Go.Proofs.YtodjpfpmhjdhbaaGreatDoor
