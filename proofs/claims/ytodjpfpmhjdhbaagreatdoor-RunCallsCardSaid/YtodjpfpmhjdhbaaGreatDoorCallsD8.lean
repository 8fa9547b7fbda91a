/- Part of the proof: contracts of the machine's step and of its run; no conditions. -/
import Derived.Test.YtodjpfpmhjdhbaaGreatDoorCallsD3
import Derived.Test.YtodjpfpmhjdhbaaGreatDoorCallsD7
import Derived.Test.YtodjpfpmhjdhbaaGreatDoorCallsB1
import Derived.Test.YtodjpfpmhjdhbaaGreatDoorCallsA4
set_option linter.unusedVariables false
set_option linter.unusedSimpArgs false
set_option linter.unusedSectionVars false
namespace Go.Proofs.YtodjpfpmhjdhbaaGreatDoor
open Go.Lg
set_option maxRecDepth 10000
set_option maxHeartbeats 4000000
section
variable (c : List Ins) (l : Nat) (m : Ms) (s : List It) (b f x : It) (hs : m.stack = s ++ [b, f, x]) (hl : m.stack.length ≤ 1000000) (hN : ∀ n ∈ frN (m.frames ++ m.fg), 1000 ≤ n)
include hs hl hN
theorem rec_nat_full (k : Nat) (hk : ¬ k = 0) (hk2 : k ≤ 1000000) (p : Nat) (vs : List It) (hf : f = .fn p vs) (hx : x = .num k) (r : Rd) (hr : r = ⟨f, 0, none, k, b, [b]⟩)
    (q : PV) (he : AC Tryz.prog gl 115 [.loc 901 0, .pv (itP f), .pv (itP (.num 0)), rpV (some (921, r))] [(901, mB c l (pop3 m s b f x)), (903, mF (pop3 m s b f x))] (.panic q) []) :
    AC Tryz.prog gl 131 [.loc 901 0, .pv (.bool false)] (mO c l m) (.panic q) [] := by
  have p1 := pop_ok c l m (s ++ [b, f]) x (by simp [hs]) hl
  have p2 := pop_ok c l { m with stack := s ++ [b, f], sg := x :: m.sg } (s ++ [b]) f (by simp) (by simp [hs] at hl ⊢; omega)
  have p3 := pop_ok c l { m with stack := s ++ [b], sg := f :: x :: m.sg } s b rfl (by simp [hs] at hl ⊢; omega)
  have hw := want_ok f
  have hkf : f.kind = 5 := by rw [hf]; rfl
  rw [hkf] at hw
  have hw2 := want_ok x
  have hb := begin_nat_new ⟨f, 0, none, k, b, []⟩ .nils rfl (by simp)
  have eF : mF (pop3 m s b f x) = mF m := rfl
  rw [eF] at he
  have q1 := vcells_one (itP_one f)
  have q2 := vcells_one (itP_one b)
  have q3 : (V.pv (itP f)).one = true := by rw [one_pv]; exact itP_one f
  have q4 : (V.pv (itP b)).one = true := by rw [one_pv]; exact itP_one b
  refine bodyM [(24, .box 921)] (frN (m.frames ++ m.fg)) Tryz.func131 Tryz.ntmps131 ?_ (hms1 := mO_1 c l m rfl) (hms2 := mO_2 c l m (fun n hn => by have := hN n hn; omega)) (hms3 := by simp [keysO]) (hna := mO_3 c l m rfl) (hno := by simp [subL, Out.names, namesOb])
  · simp only [mO]
    unfold pop3 at he
    clear eF
    have h921 : 921 ∉ frN (m.frames ++ m.fg) := fun h => by have := hN 921 h; omega
    have h951 : 951 ∉ frN (m.frames ++ m.fg) := fun h => by have := hN 951 h; omega
    have h952 : 952 ∉ frN (m.frames ++ m.fg) := fun h => by have := hN 952 h; omega
    clear hN
    generalize frN (m.frames ++ m.fg) = ms at *
    generalize mF m = F0 at *
    generalize mB c l m = B0 at *
    generalize mS m = S0 at *
    generalize mB c l { m with stack := s ++ [b, f], sg := x :: m.sg } = B1 at *
    generalize mS { m with stack := s ++ [b, f], sg := x :: m.sg } = S1 at *
    generalize mB c l { m with stack := s ++ [b], sg := f :: x :: m.sg } = B2 at *
    generalize mS { m with stack := s ++ [b], sg := f :: x :: m.sg } = S2 at *
    generalize mB c l { m with stack := s, sg := b :: f :: x :: m.sg } = B3 at *
    generalize mS { m with stack := s, sg := b :: f :: x :: m.sg } = S3 at *
    subst hr hx
    simp only [rB, argsP, rpV, It.kind, itP, Int.cast_ofNat_Int, List.map_cons, List.map_nil, itC] at *
    have hk0 : ¬ (k : Int) = 0 := by omega
    clear hs hf hkf
    generalize itP f = vf at *
    generalize itP b = vb at *
    refine gg ?_
    refine call p1 ?_
    refine gg ?_
    refine call p2 ?_
    refine gg ?_
    refine call p3 ?_
    refine gg ?_
    refine call hw ?_
    refine gg ?_
    refine call hw2 ?_
    refine gg ?_
    refine call hb ?_
    refine gg ?_
    refine callP he ?_
    refine gg ?_
    exact ⟨rfl, trivial⟩
theorem rec_list_full (L : List Nat) (hk : ¬ L = []) (hk2 : L.length ≤ 1000000) (p : Nat) (vs : List It) (hf : f = .fn p vs) (hx : x = .list L) (hd : Nat) (tl : List Nat) (hg : (foldArgs L)[0]? = some (hd, tl)) (r : Rd) (hr : r = ⟨f, 0, some (foldArgs L), L.length, b, [.list tl, b]⟩)
    (q : PV) (he : AC Tryz.prog gl 115 [.loc 901 0, .pv (itP f), .pv (itP (.num hd)), rpV (some (921, r))] [(901, mB c l (pop3 m s b f x)), (903, mF (pop3 m s b f x))] (.panic q) []) :
    AC Tryz.prog gl 131 [.loc 901 0, .pv (.bool true)] (mO c l m) (.panic q) [] := by
  have p1 := pop_ok c l m (s ++ [b, f]) x (by simp [hs]) hl
  have p2 := pop_ok c l { m with stack := s ++ [b, f], sg := x :: m.sg } (s ++ [b]) f (by simp) (by simp [hs] at hl ⊢; omega)
  have p3 := pop_ok c l { m with stack := s ++ [b], sg := f :: x :: m.sg } s b rfl (by simp [hs] at hl ⊢; omega)
  have hw := want_ok f
  have hkf : f.kind = 5 := by rw [hf]; rfl
  rw [hkf] at hw
  have hw2 := want_ok x
  have hb := begin_list_new ⟨f, 0, some (foldArgs L), L.length, b, []⟩ .nils (foldArgs L) rfl hd tl hg
  have eF : mF (pop3 m s b f x) = mF m := rfl
  rw [eF] at he
  have hFn : namesE ((m.frames ++ m.fg).map frV) = frN (m.frames ++ m.fg) := namesE_frV _
  have q1 := vcells_one (itP_one f)
  have q2 := vcells_one (itP_one b)
  have q3 : (V.pv (itP f)).one = true := by rw [one_pv]; exact itP_one f
  have q4 : (V.pv (itP b)).one = true := by rw [one_pv]; exact itP_one b
  refine bodyM [(24, .box 921), (29, .arr 951 1 87), (8, .arr 952 1 163)] (frN (m.frames ++ m.fg)) Tryz.func131 Tryz.ntmps131 ?_ (hms1 := mO_1 c l m rfl) (hms2 := mO_2 c l m (fun n hn => by have := hN n hn; omega)) (hms3 := by simp [keysO]) (hna := mO_3 c l m rfl) (hno := by simp [subL, Out.names, namesOb])
  · simp only [mO]
    unfold pop3 at he
    clear eF
    have h921 : 921 ∉ frN (m.frames ++ m.fg) := fun h => by have := hN 921 h; omega
    have h951 : 951 ∉ frN (m.frames ++ m.fg) := fun h => by have := hN 951 h; omega
    have h952 : 952 ∉ frN (m.frames ++ m.fg) := fun h => by have := hN 952 h; omega
    clear hN
    generalize mB c l m = B0 at *
    generalize mS m = S0 at *
    generalize mB c l { m with stack := s ++ [b, f], sg := x :: m.sg } = B1 at *
    generalize mS { m with stack := s ++ [b, f], sg := x :: m.sg } = S1 at *
    generalize mB c l { m with stack := s ++ [b], sg := f :: x :: m.sg } = B2 at *
    generalize mS { m with stack := s ++ [b], sg := f :: x :: m.sg } = S2 at *
    simp only [mB, mS, mF] at *
    generalize frN (m.frames ++ m.fg) = ms at *
    generalize (m.frames ++ m.fg).map frV = FS at *
    generalize (s ++ b :: f :: x :: m.sg).map itC = SS at *
    subst hr hx
    simp only [rB, argsP, rpV, It.kind, itP, Int.cast_ofNat_Int, List.map_cons, List.map_nil, itC] at *
    clear hs hf hkf
    generalize itP f = vf at *
    generalize itP b = vb at *
    generalize c.map insP = cs at *
    generalize varsP m.vars = vv at *
    have hLp : 0 < L.length := by cases L <;> simp_all
    have hk0 : ¬ (L.length : Int) = 0 := by omega
    refine gg ?_
    refine call p1 ?_
    refine gg ?_
    refine call p2 ?_
    refine gg ?_
    refine call p3 ?_
    refine gg ?_
    refine call hw ?_
    refine gg ?_
    refine call hw2 ?_
    refine gg ?_
    refine AWP.loopN L.length (fun k => ⟨[(0, .loc 901 0), (6, .pv vb), (7, .loc 921 0), (8, .arr 952 k k), (9, .pv (linkP (L.drop k)))],
      [(901, .box [.pv (.slice cs), .pv (.int l), .pv (.int m.steps), .pv .nilfn, .pv .nilfn, .arr 902 m.sv s.length, .arr 903 m.fv m.frames.length, .pv (.int m.at_), .pv vv]), (902, .arr m.sv 1 132 (pvE SS)), (903, .arr m.fv 5 206 FS),
       (921, .box [.pv vf, .pv (.int 0), .arr 951 0 0, .pv (.int 0), .pv vb, .pv .nils]), (951, .arr 0 1 87 []), (952, .arr k 1 163 (pvE (tailsC L k)))], [921, 951, 952, 901, 902, 903] ++ ms⟩) ?_ ?_
    · refine ⟨by simp [slotsLe, getS], by simp [subO, getO, tailsC, pvE], ?_⟩
      rw [subL_iff]
      intro n hn
      simp only [namesSl, V.names, namesOb, Ob.names, namesL, namesE, namesE_pvE, XX_given, hFn, List.mem_append, List.mem_cons, List.not_mem_nil, or_false, false_or, List.append_nil, List.nil_append, List.cons_append] at hn ⊢
      grind
    intro k hkk
    have htl := tailsC_len L k
    have htt : (tailsC L k).take k = tailsC L k := List.take_of_length_le (by omega)
    by_cases h : k < L.length
    · obtain ⟨y, t, hyt⟩ : ∃ y t, L.drop k = y :: t := by
        cases e : L.drop k with
        | nil => simp at e; omega
        | cons y t => exact ⟨y, t, rfl⟩
      have ht1 : L.drop (k + 1) = t := by rw [← List.drop_drop, hyt]; rfl
      have hts := tailsC_succ L k
      rw [hyt] at hts
      rw [hyt]
      simp only [linkP] at *
      generalize ((t.length + 1 : Nat) : Int) = tn at *
      generalize hlt : linkP t = vt at *
      generalize tailsC L k = TS at *
      refine gg ?_
      refine ⟨h, ?_, ?_, ?_⟩
      · simp [slotsLe, getS, ht1, hlt]
      · simp [subO, getO, hts, pvE, pvL, htt]
      rw [subL_iff]
      intro n hn
      simp only [namesSl, V.names, namesOb, Ob.names, namesL, namesE, namesE_pvE, XX_given, hFn, List.mem_append, List.mem_cons, List.not_mem_nil, or_false, false_or, List.append_nil, List.nil_append, List.cons_append] at hn ⊢
      grind
    · have hkl : k = L.length := by omega
      subst hkl
      have hdn : L.drop L.length = [] := by simp
      rw [hdn]
      simp only [linkP]
      refine gg ?_
      refine AWP.loopN L.length (fun j => ⟨[(0, .loc 901 0), (6, .pv vb), (7, .loc 921 0), (8, .arr 952 L.length L.length), (10, .pv (.int ((L.length : Int) - 1 - j)))],
        [(901, .box [.pv (.slice cs), .pv (.int l), .pv (.int m.steps), .pv .nilfn, .pv .nilfn, .arr 902 m.sv s.length, .arr 903 m.fv m.frames.length, .pv (.int m.at_), .pv vv]), (902, .arr m.sv 1 132 (pvE SS)), (903, .arr m.fv 5 206 FS),
         (921, .box [.pv vf, .pv (.int 0), .arr 951 j j, .pv (.int 0), .pv vb, .pv .nils]), (951, .arr j 1 87 (pvE (((foldArgs L).take j).map argC))), (952, .arr L.length 1 163 (pvE (tailsC L L.length)))], [921, 951, 952, 901, 902, 903] ++ ms⟩) ?_ ?_
      · refine ⟨by simp [slotsLe, getS], by simp [subO, getO, pvE], ?_⟩
        rw [subL_iff]
        intro n hn
        simp only [namesSl, V.names, namesOb, Ob.names, namesL, namesE, namesE_pvE, XX_given, hFn, List.mem_append, List.mem_cons, List.not_mem_nil, or_false, false_or, List.append_nil, List.nil_append, List.cons_append] at hn ⊢
        grind
      intro j hj
      have hal : (((foldArgs L).take j).map argC).length = j := by simp [foldArgs_len]; omega
      have hat : (((foldArgs L).take j).map argC).take j = ((foldArgs L).take j).map argC := List.take_of_length_le (by omega)
      by_cases h' : j < L.length
      · obtain ⟨y, t, hyt⟩ : ∃ y t, L.drop (L.length - 1 - j) = y :: t := by
          cases e : L.drop (L.length - 1 - j) with
          | nil => simp at e; omega
          | cons y t => exact ⟨y, t, rfl⟩
        have hfa := foldArgs_get L j y t h' hyt
        have hsn := take_snoc hfa
        have hnum := num_item_ok y
        have hg1 := tailsC_get L L.length (L.length - 1 - j) (by omega)
        have hi : ((L.length : Int) - 1 - j).toNat = L.length - 1 - j := by omega
        have hb1 : (0 : Int) ≤ (L.length : Int) - 1 - j := by omega
        have hb2 : (L.length : Int) - 1 - j < L.length := by omega
        have hnx : (L.length : Int) - 1 - j - 1 = (L.length : Int) - 1 - ((j + 1 : Nat) : Int) := by omega
        have hA : ((foldArgs L).take (j + 1)).map argC = ((foldArgs L).take j).map argC ++ [[.slice [[itP (.num y)], [itP (.list t)]]]] := by rw [hsn]; simp [argC]
        rw [hyt] at hg1
        simp only [linkP, itP] at hg1 hnum hA
        rw [hA]
        have hvt := vcells_one (linkP_one t)
        have hvo : (V.pv (linkP t)).one = true := by rw [one_pv]; exact linkP_one t
        clear hfa hsn hyt hA hg hb he hw hw2 p1 p2 p3 hk
        generalize ((t.length + 1 : Nat) : Int) = tn at *
        generalize linkP t = vt at *
        generalize tailsC L L.length = TS at *
        generalize ((foldArgs L).take j).map argC = AS at *
        refine gg ?_
        refine call hnum ?_
        refine gg ?_
        refine ⟨by rfl, ?_⟩
        refine gg ?_
        refine ⟨h', ?_, ?_, ?_⟩
        · simp [slotsLe, getS, hnx]
        · simp [subO, getO, pvE, pvL, hat]
        · rw [subL_iff]
          intro n hn
          simp only [namesSl, V.names, namesOb, Ob.names, namesL, namesE, namesE_pvE, XX_given, hFn, List.mem_append, List.mem_cons, List.not_mem_nil, or_false, false_or, List.append_nil, List.nil_append, List.cons_append] at hn ⊢
          grind
      · have hjl : j = L.length := by omega
        subst hjl
        have hneg : ¬ (0 : Int) ≤ (L.length : Int) - 1 - (L.length : Int) := by omega
        have hat2 : (foldArgs L).take L.length = foldArgs L := List.take_of_length_le (by rw [foldArgs_len]; omega)
        rw [hat2] at hal hat ⊢
        generalize hAS : (foldArgs L).map argC = AS at *
        generalize tailsC L L.length = TS at *
        refine frz 951 ?_ (hσ := by simp only [St.frz, frzS, frzA, frzV, frzL, frzO, frzOb, Nat.reduceEqDiff, false_and, and_self, true_and, ↓reduceIte, hat]; rfl)
        refine gg ?_
        refine call hb ?_
        refine gg ?_
        refine callP he ?_
        refine gg ?_
        exact ⟨rfl, trivial⟩
end
end Go.Proofs.YtodjpfpmhjdhbaaGreatDoor
/- One step under the names that there are. -/
namespace Go.Proofs.YtodjpfpmhjdhbaaGreatDoor
open Go.Lg
set_option maxRecDepth 10000
theorem getO_app (a b : List (Nat × Ob)) (k : Nat) : getO (a ++ b) k = match getO a k with | some o => some o | none => getO b k := by
  induction a with
  | nil => rfl
  | cons p r ih =>
    obtain ⟨n, o⟩ := p
    simp only [List.cons_append, getO, ih]
    split <;> rfl
theorem getO_none {l : List (Nat × Ob)} {n : Nat} (hn : n ∉ keysO l) : getO l n = none := by
  cases e : getO l n with
  | none => rfl
  | some o => exact absurd (getO_some_mem e) hn
theorem keysO_app (a b : List (Nat × Ob)) : keysO (a ++ b) = keysO a ++ keysO b := by simp [keysO]
def rdB (r : Rd) : Ob := rB r (.slice (r.left.map itC))
def rdO (l : List Fr) : List (Nat × Ob) := l.filterMap fun fr => fr.rd.map fun p => (p.1, rdB p.2)
theorem rdO_app (a b : List Fr) : rdO (a ++ b) = rdO a ++ rdO b := by simp [rdO]
theorem rdO_keys (l : List Fr) : keysO (rdO l) = frN l := by
  induction l with
  | nil => rfl
  | cons fr l ih =>
    simp only [rdO, frN, keysO] at ih ⊢
    cases h : fr.rd <;> simp [h, ih]
structure Nm (m : Ms) : Prop where
  nd : (frN m.frames).Nodup
  lo : ∀ n ∈ frN (m.frames ++ m.fg), 1000 ≤ n
  hi : ∀ n ∈ frN (m.frames ++ m.fg), n < 1000 + m.steps
/-- a step from one state to another, in the program -/
def StepTo (c : List Ins) (l : Nat) (b : Bool) (m m' : Ms) : Prop :=
  ∃ objs objs', AC Tryz.prog gl 113 [.loc 901 0] objs (.ret (.pv (.bool b))) objs' ∧ subO objs (mO c l m ++ rdO m.frames) ∧ (∀ k ∈ keysO objs', k ∈ keysO objs ∨ k = 1000 + m.steps) ∧
    (∀ k o, getO (mO c l m' ++ rdO m'.frames) k = some o → getO objs' k = some o ∨ (getO objs' k = none ∧ k ∉ keysO objs ∧ getO (mO c l m ++ rdO m.frames) k = some o)) ∧ Nm m'
theorem keys_mO (c : List Ins) (l : Nat) (m : Ms) : keysO (mO c l m) = [901, 902, 903] := rfl
theorem subO_mem {a l : List (Nat × Ob)} (h : ∀ p ∈ a, getO l p.1 = some p.2) : subO a l := by
  induction a with
  | nil => trivial
  | cons p r ih => exact ⟨h p (by simp), ih (fun q hq => h q (by simp [hq]))⟩
theorem getO_nodup {a : List (Nat × Ob)} (h : (keysO a).Nodup) : ∀ p ∈ a, getO a p.1 = some p.2 := by
  induction a with
  | nil => intro p hp; cases hp
  | cons q r ih =>
    intro p hp
    simp only [keysO, List.map_cons, List.nodup_cons] at h
    simp only [getO]
    rcases List.mem_cons.1 hp with rfl | hp
    · simp
    · have : ¬ q.1 = p.1 := fun e => h.1 (e ▸ List.mem_map_of_mem hp)
      rw [if_neg this]
      exact ih h.2 p hp
theorem StepTo.of {c : List Ins} {l : Nat} {b : Bool} {m m' : Ms} (A Xs Ys : List (Nat × Ob)) (hX : rdO m.frames = A ++ Xs) (hY : rdO m'.frames = A ++ Ys) (hnm : Nm m) (hnm' : Nm m') (hk : ∀ k ∈ keysO Ys, k ∈ keysO Xs ∨ k = 1000 + m.steps)
    (h : AC Tryz.prog gl 113 [.loc 901 0] (mO c l m ++ Xs) (.ret (.pv (.bool b))) (mO c l m' ++ Ys)) : StepTo c l b m m' := by
  have kX : frN m.frames = keysO A ++ keysO Xs := by rw [← rdO_keys, hX, keysO_app]
  have kY : frN m'.frames = keysO A ++ keysO Ys := by rw [← rdO_keys, hY, keysO_app]
  have n1 := hnm.nd
  have n2 := hnm'.nd
  rw [kX, List.nodup_append] at n1
  rw [kY, List.nodup_append] at n2
  have l1 : ∀ k ∈ keysO A ++ keysO Xs, 1000 ≤ k := fun k hk => hnm.lo k (by rw [frN_app, kX]; exact List.mem_append.2 (.inl hk))
  have l2 : ∀ k ∈ keysO A ++ keysO Ys, 1000 ≤ k := fun k hk => hnm'.lo k (by rw [frN_app, kY]; exact List.mem_append.2 (.inl hk))
  refine ⟨_, _, h, ?_, ?_, ?_, hnm'⟩
  · refine subO_mem ?_
    intro p hp
    rw [hX, getO_app]
    rcases List.mem_append.1 hp with hp | hp
    · have : getO (mO c l m) p.1 = some p.2 := getO_nodup (by rw [keys_mO]; decide) p hp
      rw [this]
    · have hpk : p.1 ∈ keysO Xs := List.mem_map_of_mem hp
      have h1 : getO (mO c l m) p.1 = none := getO_none (by
        rw [keys_mO]
        have := l1 p.1 (List.mem_append.2 (.inr hpk))
        simp; omega)
      have h2 : getO A p.1 = none := getO_none (fun hA => n1.2.2 _ hA _ hpk rfl)
      rw [h1]
      simp only
      rw [getO_app, h2]
      exact getO_nodup n1.2.1 p hp
  · intro k hk'
    rw [keysO_app] at hk' ⊢
    rcases List.mem_append.1 hk' with hk' | hk'
    · exact .inl (List.mem_append.2 (.inl hk'))
    · rcases hk k hk' with h | h
      · exact .inl (List.mem_append.2 (.inr h))
      · exact .inr h
  · intro k o ho
    rw [hY, getO_app] at ho
    rw [getO_app, keysO_app, hX, getO_app]
    cases e : getO (mO c l m') k with
    | some o1 =>
      rw [e] at ho
      exact .inl ho
    | none =>
      rw [e] at ho
      simp only at ho ⊢
      rw [getO_app] at ho
      cases eA : getO A k with
      | none =>
        rw [eA] at ho
        exact .inl ho
      | some o1 =>
        rw [eA] at ho
        have hkA := getO_some_mem eA
        have hkl := l1 k (List.mem_append.2 (.inl hkA))
        have h0 : k ∉ keysO (mO c l m) := by rw [keys_mO]; simp; omega
        refine .inr ⟨getO_none (fun hy => n2.2.2 _ hkA _ hy rfl), ?_, ?_⟩
        · intro hm
          rcases List.mem_append.1 hm with hm | hm
          · exact h0 hm
          · exact n1.2.2 _ hkA _ hm rfl
        · rw [getO_none h0]
          simp only
          rw [getO_app, eA]
          exact ho
/-- other names -/
def frRen (ρ : Nat → Nat) (fr : Fr) : Fr := { fr with rd := fr.rd.map fun p => (ρ p.1, p.2) }
def msRen (ρ : Nat → Nat) (m : Ms) : Ms := { m with frames := m.frames.map (frRen ρ), fg := m.fg.map (frRen ρ) }
theorem frN_ren (ρ : Nat → Nat) (l : List Fr) : frN (l.map (frRen ρ)) = (frN l).map ρ := by
  induction l with
  | nil => rfl
  | cons fr l ih =>
    simp only [frN, List.map_cons] at ih ⊢
    obtain ⟨a, v, f, x, rd⟩ := fr
    cases rd <;> simp [frRen, ih]
theorem renL_frV (ρ : Nat → Nat) (fr : Fr) : renL ρ (frV fr) = frV (frRen ρ fr) := by
  obtain ⟨a, v, f, x, rd⟩ := fr
  cases rd <;> rfl
theorem renE_pvE (ρ : Nat → Nat) (es : List (List PV)) : renE ρ (pvE es) = pvE es := by
  have h : ∀ l : List PV, renL ρ (pvL l) = pvL l := by
    intro l
    induction l with
    | nil => rfl
    | cons p l ih => simp [pvL, renL, V.ren] at ih ⊢; exact ih
  induction es with
  | nil => rfl
  | cons e es ih => simp only [pvE, List.map_cons, renE, h] at ih ⊢; rw [ih]
theorem renE_frV (ρ : Nat → Nat) (l : List Fr) : renE ρ (l.map frV) = (l.map (frRen ρ)).map frV := by
  induction l with
  | nil => rfl
  | cons fr l ih => simp only [List.map_cons, renE, ih, renL_frV]
theorem mO_ren {ρ : Nat → Nat} (h1 : ρ 901 = 901) (h2 : ρ 902 = 902) (h3 : ρ 903 = 903) (c : List Ins) (l : Nat) (m : Ms) : renO ρ (mO c l m) = mO c l (msRen ρ m) := by
  simp only [mO, renO, h1, h2, h3, mB, mS, mF, Ob.ren, renL, V.ren, renE_pvE, renE_frV, msRen, List.length_map]
  rw [List.map_append (f := frRen ρ)]
theorem renO_app (ρ : Nat → Nat) (a b : List (Nat × Ob)) : renO ρ (a ++ b) = renO ρ a ++ renO ρ b := by
  induction a with
  | nil => rfl
  | cons p r ih => simp only [List.cons_append, renO, ih]
theorem rB_ren (ρ : Nat → Nat) (r : Rd) (lv : PV) : (rB r lv).ren ρ = rB r lv := rfl
theorem frRen_id {ρ : Nat → Nat} {fr : Fr} (h : ∀ n r, fr.rd = some (n, r) → ρ n = n) : frRen ρ fr = fr := by
  obtain ⟨a, v, f, x, rd⟩ := fr
  cases rd with
  | none => rfl
  | some p => simp [frRen, h p.1 p.2 rfl]
theorem mem_frN {l : List Fr} {n : Nat} : n ∈ frN l ↔ ∃ fr ∈ l, ∃ r, fr.rd = some (n, r) := by
  simp only [frN, List.mem_filterMap, Option.map_eq_some_iff, Prod.exists]
  constructor
  · rintro ⟨fr, hf, a, r, h, rfl⟩; exact ⟨fr, hf, r, h⟩
  · rintro ⟨fr, hf, r, h⟩; exact ⟨fr, hf, n, r, h, rfl⟩
theorem map_frRen_id {ρ : Nat → Nat} {l : List Fr} (h : ∀ n ∈ frN l, ρ n = n) : l.map (frRen ρ) = l := by
  conv => rhs; rw [← List.map_id l]
  exact List.map_congr_left fun fr hf => frRen_id fun n r e => h n (mem_frN.2 ⟨fr, hf, r, e⟩)
theorem frRen_frRen {ρ : Nat → Nat} (hρ : ∀ n, ρ (ρ n) = n) (fr : Fr) : frRen ρ (frRen ρ fr) = fr := by
  obtain ⟨a, v, f, x, rd⟩ := fr
  cases rd <;> simp [frRen, hρ]
theorem map_frRen_2 {ρ : Nat → Nat} (hρ : ∀ n, ρ (ρ n) = n) (l : List Fr) : (l.map (frRen ρ)).map (frRen ρ) = l := by
  rw [List.map_map]
  conv => rhs; rw [← List.map_id l]
  exact List.map_congr_left fun fr _ => frRen_frRen hρ fr
theorem msRen_msRen {ρ : Nat → Nat} (hρ : ∀ n, ρ (ρ n) = n) (m : Ms) : msRen ρ (msRen ρ m) = m := by
  simp only [msRen, map_frRen_2 hρ]
theorem msRen_id {ρ : Nat → Nat} {m : Ms} (h : ∀ n ∈ frN (m.frames ++ m.fg), ρ n = n) : msRen ρ m = m := by
  simp only [msRen]
  rw [map_frRen_id (fun n hn => h n (by rw [frN_app]; exact List.mem_append.2 (.inl hn))), map_frRen_id (fun n hn => h n (by rw [frN_app]; exact List.mem_append.2 (.inr hn)))]
theorem Nm.next {m m' : Ms} (h : Nm m) (hs : m'.steps = m.steps + 1) (h1 : (frN m'.frames).Nodup) (h2 : ∀ n ∈ frN (m'.frames ++ m'.fg), n ∈ frN (m.frames ++ m.fg) ∨ n = 1000 + m.steps) : Nm m' :=
  ⟨h1, fun n hn => (h2 n hn).elim (h.lo n) (fun e => by omega), fun n hn => (h2 n hn).elim (fun e => by have := h.hi n e; omega) (fun e => by omega)⟩
theorem StepTo.same {c : List Ins} {l : Nat} {b : Bool} {m m' : Ms} (hnm : Nm m) (hs : m'.steps = m.steps + 1) (hf : rdO m'.frames = rdO m.frames) (h2 : ∀ n ∈ frN m'.fg, n ∈ frN (m.frames ++ m.fg))
    (h : AC Tryz.prog gl 113 [.loc 901 0] (mO c l m) (.ret (.pv (.bool b))) (mO c l m')) : StepTo c l b m m' := by
  have hf' : frN m'.frames = frN m.frames := by rw [← rdO_keys, hf, rdO_keys]
  refine StepTo.of (rdO m.frames) [] [] (by simp) (by simp [hf]) hnm (hnm.next hs (by rw [hf']; exact hnm.nd) ?_) (by simp [keysO]) (by simpa using h)
  intro n hn
  rw [frN_app, hf'] at hn
  rcases List.mem_append.1 hn with hn | hn
  · exact .inl (by rw [frN_app]; exact List.mem_append.2 (.inl hn))
  · exact .inl (h2 n hn)
def StepErr (c : List Ins) (l : Nat) (m : Ms) (e : Nat) : Prop :=
  ∃ objs, AC Tryz.prog gl 113 [.loc 901 0] objs (.panic (fail e)) [] ∧ subO objs (mO c l m ++ rdO m.frames)
theorem StepErr.of {c : List Ins} {l : Nat} {m : Ms} {e : Nat} (A Xs : List (Nat × Ob)) (hX : rdO m.frames = A ++ Xs) (hnm : Nm m) (h : AC Tryz.prog gl 113 [.loc 901 0] (mO c l m ++ Xs) (.panic (fail e)) []) : StepErr c l m e := by
  have kX : frN m.frames = keysO A ++ keysO Xs := by rw [← rdO_keys, hX, keysO_app]
  have n1 := hnm.nd
  rw [kX, List.nodup_append] at n1
  have l1 : ∀ k ∈ keysO A ++ keysO Xs, 1000 ≤ k := fun k hk => hnm.lo k (by rw [frN_app, kX]; exact List.mem_append.2 (.inl hk))
  refine ⟨_, h, subO_mem ?_⟩
  intro p hp
  rw [hX, getO_app]
  rcases List.mem_append.1 hp with hp | hp
  · have : getO (mO c l m) p.1 = some p.2 := getO_nodup (by rw [keys_mO]; decide) p hp
    rw [this]
  · have hpk : p.1 ∈ keysO Xs := List.mem_map_of_mem hp
    have h1 : getO (mO c l m) p.1 = none := getO_none (by
      rw [keys_mO]
      have := l1 p.1 (List.mem_append.2 (.inr hpk))
      simp; omega)
    have h2 : getO A p.1 = none := getO_none (fun hA => n1.2.2 _ hA _ hpk rfl)
    rw [h1]
    simp only
    rw [getO_app, h2]
    exact getO_nodup n1.2.1 p hp
theorem StepErr.same {c : List Ins} {l : Nat} {m : Ms} {e : Nat} (hnm : Nm m) (h : AC Tryz.prog gl 113 [.loc 901 0] (mO c l m) (.panic (fail e)) []) : StepErr c l m e :=
  .of (rdO m.frames) [] (by simp) hnm (by simpa using h)
def StepR (c : List Ins) (l : Nat) (m : Ms) : Res → Prop
  | .go m' => StepTo c l true m m'
  | .stop m' => StepTo c l false m m'
  | .err e => StepErr c l m e
def Okc (c : List Ins) : Prop := ∀ (p : Nat) (op a : Nat), c[p]? = some (op, a) → p ≤ 1000000 ∧ a ≤ 1000000 ∧ 1 ≤ op ∧ op ≤ 14 ∧ (op = 1 ∨ op = 2 ∨ a = 0)
end Go.Proofs.YtodjpfpmhjdhbaaGreatDoor
namespace Go.Proofs.YtodjpfpmhjdhbaaGreatDoor
open Go.Lg
set_option maxRecDepth 10000
theorem kind_1 {x : It} (h : x.kind = 1) : ∃ k, x = .num k := by cases x <;> simp [It.kind] at h ⊢
theorem kind_2 {x : It} (h : x.kind = 2) : ∃ k, x = .list k := by cases x <;> simp [It.kind] at h ⊢
section
variable (c : List Ins) (l : Nat) (m : Ms) (p : Nat) (hat : m.at_ = ((p : Nat) : Int)) (hst : ¬ m.steps = l) (hsl : m.steps ≤ 800000) (hp : p ≤ 1000000) (hnm : Nm m) {b0 : Nat} (hb0 : b0 ≤ 800000) (hok : Okm b0 m)
include hat hst hsl hp hnm hb0 hok
/-- the operations without frames -/
theorem full_1 (op a : Nat) (ha : a ≤ 1000000) (h0 : op = 1 ∨ op = 2 ∨ a = 0) (hop : op ∈ [1, 2, 4, 5, 7, 8, 10, 11, 12, 13]) (hc : c[p]? = some (op, a)) (r : Res) (hr : (nxt m).exec 0 op a = some r) : StepR c l m r := by
  have hsl' : m.steps ≤ 1000000 := by omega
  have hl : m.stack.length ≤ 900000 := by have := hok.len; omega
  have hN := hnm.lo
  have ex : ∀ x, StepTo c l true m ((nxt m).push x) ↔ StepTo c l true m ((nxt m).push x) := fun _ => Iff.rfl
  have rest : ∀ n ∈ frN m.fg, n ∈ frN (m.frames ++ m.fg) := fun n hn => by rw [frN_app]; exact List.mem_append.2 (.inr hn)
  simp only [List.mem_cons, List.not_mem_nil, or_false] at hop
  rcases hop with rfl | rfl | rfl | rfl | rfl | rfl | rfl | rfl | rfl | rfl
  · simp only [Ms.exec] at hr
    split at hr
    · rename_i x hx
      cases hr
      exact .same hnm rfl rfl rest (step_var c l m p hat hst hsl' hp hN hl a ha x hx hc)
    · rename_i hx
      cases hr
      exact .same hnm (step_var_err c l m p hat hst hsl' hp hN hl a ha hx hc)
  · simp only [Ms.exec, made] at hr
    cases hr
    split
    · rename_i h
      exact .same hnm (step_fun_err c l m p hat hst hsl' hp hN hl a (by simp only [It.more] at h; simp only [nxt] at h; omega) hc)
    · rename_i h
      exact .same hnm rfl rfl rest (step_fun c l m p hat hst hsl' hp hN hl a (by simp only [It.more] at h; simp only [nxt] at h; omega) hc)
  all_goals (simp only [Nat.reduceEqDiff, false_or] at h0; subst h0)
  · simp only [Ms.exec] at hr
    cases hr
    exact .same hnm rfl rfl rest (step_zero c l m p hat hst hsl' hp hN hl hc)
  · simp only [Ms.exec] at hr
    split at hr
    · cases hr
    · rename_i k m1 h1
      obtain ⟨s, hs, rfl⟩ := pop_inv h1
      cases hr
      have hk : Bd b0 (.num k) := (hok.pop (m' := { m with stack := s, sg := .num k :: m.sg }) (by simp only [nxt] at hs; simp [Ms.pop, hs])).1
      simp only [Bd] at hk
      exact .same hnm rfl rfl rest (step_succ c l m p hat hst hsl' hp hN hl s _ hs k (by omega) rfl hc)
    · rename_i q hne h1
      cases hr
      obtain ⟨x, m1⟩ := q
      obtain ⟨s, hs, rfl⟩ := pop_inv h1
      exact .same hnm (step_succ_err c l m p hat hst hsl' hp hN hl s x hs (fun e => by obtain ⟨k, rfl⟩ := kind_1 e; exact hne _ _ rfl) hc)
  · simp only [Ms.exec] at hr
    cases hr
    exact .same hnm rfl rfl rest (step_nil c l m p hat hst hsl' hp hN hl hc)
  · simp only [Ms.exec] at hr
    split at hr
    · cases hr
    · rename_i y m1 h1
      split at hr
      · cases hr
      · rename_i x m2 h2
        obtain ⟨s1, hs1, rfl⟩ := pop_inv h1
        obtain ⟨s, hs, rfl⟩ := pop_inv h2
        simp only at hs
        subst hs
        have hs : m.stack = s ++ [x, y] := by simpa [nxt] using hs1
        split at hr
        · rename_i k L
          split at hr
          · cases hr
            exact .same hnm (step_cons_err3 c l m p hat hst hsl' hp hN hl s _ _ hs k L rfl rfl (by assumption) hc)
          · cases hr
            exact .same hnm rfl rfl rest (step_cons c l m p hat hst hsl' hp hN hl s _ _ hs k L rfl rfl (by omega) hc)
        · rename_i hne
          cases hr
          by_cases hk : x.kind = 1
          · refine .same hnm (step_cons_err2 c l m p hat hst hsl' hp hN hl s _ _ hs hk (fun e => ?_) hc)
            obtain ⟨k, rfl⟩ := kind_1 hk
            obtain ⟨L, rfl⟩ := kind_2 e
            exact hne _ _ rfl rfl
          · exact .same hnm (step_cons_err1 c l m p hat hst hsl' hp hN hl s _ _ hs hk hc)
  · simp only [Ms.exec] at hr
    split at hr
    · cases hr
    · rename_i y m1 h1
      split at hr
      · cases hr
      · rename_i x m2 h2
        obtain ⟨s1, hs1, rfl⟩ := pop_inv h1
        obtain ⟨s, hs, rfl⟩ := pop_inv h2
        simp only at hs
        subst hs
        have hs : m.stack = s ++ [x, y] := by simpa [nxt] using hs1
        have hst2 := hok.stack
        rw [hs, BdL_app] at hst2
        simp only [BdL] at hst2
        have m1 := hst2.2.1.more
        have m2 := hst2.2.2.1.more
        simp only [made] at hr
        cases hr
        split
        · exact .same hnm (step_pair_err c l m p hat hst hsl' hp hN hl s _ _ hs (by omega) (by omega) (by omega) hc)
        · exact .same hnm rfl rfl rest (step_pair c l m p hat hst hsl' hp hN hl s _ _ hs (by omega) hc)
  · simp only [Ms.exec] at hr
    split at hr
    · cases hr
    · rename_i x y m1 h1
      obtain ⟨s, hs, rfl⟩ := pop_inv h1
      cases hr
      exact .same hnm rfl rfl rest (step_fst c l m p hat hst hsl' hp hN hl s _ hs x y rfl hc)
    · rename_i q hne h1
      cases hr
      obtain ⟨x, m1⟩ := q
      obtain ⟨s, hs, rfl⟩ := pop_inv h1
      exact .same hnm (step_fst_err c l m p hat hst hsl' hp hN hl s x hs (fun e => by cases x <;> simp [It.kind] at e; exact hne _ _ _ rfl) hc)
  · simp only [Ms.exec] at hr
    split at hr
    · cases hr
    · rename_i x y m1 h1
      obtain ⟨s, hs, rfl⟩ := pop_inv h1
      cases hr
      exact .same hnm rfl rfl rest (step_snd c l m p hat hst hsl' hp hN hl s _ hs x y rfl hc)
    · rename_i q hne h1
      cases hr
      obtain ⟨x, m1⟩ := q
      obtain ⟨s, hs, rfl⟩ := pop_inv h1
      exact .same hnm (step_snd_err c l m p hat hst hsl' hp hN hl s x hs (fun e => by cases x <;> simp [It.kind] at e; exact hne _ _ _ rfl) hc)
  · simp only [Ms.exec] at hr
    cases hr
    exact .same hnm rfl rfl rest (step_unit c l m p hat hst hsl' hp hN hl hc)
end
end Go.Proofs.YtodjpfpmhjdhbaaGreatDoor
namespace Go.Proofs.YtodjpfpmhjdhbaaGreatDoor
open Go.Lg
set_option maxRecDepth 10000
theorem fn_len {b p : Nat} {vs : List It} (h : Bd b (.fn p vs)) : vs.length ≤ 100000 ∧ insideL vs ≤ 100000 := by
  simp only [Bd] at h
  have := inside_len vs
  omega
/-- entering, in the program -/
theorem enter_go {c : List Ins} {l b : Nat} {m m' : Ms} {f a : It} {rd : Option (Nat × Rd)} (hf : Bd b f) (ha : Bd b a) (hN : ∀ n ∈ frN (m.frames ++ m.fg), 905 ≤ n) (hn : ∀ n ∈ rpN rd, 905 ≤ n) (he : m.enter f a rd = .go m') :
    AC Tryz.prog gl 115 [.loc 901 0, .pv (itP f), .pv (itP a), rpV rd] [(901, mB c l m), (903, mF m)] (.ret (.pv (.tuple []))) [(901, mB c l m'), (903, mF m')] ∧ m'.stack = m.stack ∧ m'.sg = m.sg ∧ m'.sv = m.sv ∧ m'.steps = m.steps ∧ m'.fg = [] ∧ m'.frames = m.frames ++ [⟨m.at_, m.vars, f, a, rd⟩] := by
  unfold Ms.enter at he
  split at he
  · rename_i p vs
    split at he
    · cases he
    · cases he
      have := fn_len hf
      have := ha.more
      exact ⟨enter_ok c l m p vs a rd (by omega) hN hn (by omega) (by omega) (by omega), rfl, rfl, rfl, rfl, rfl, rfl⟩
  · cases he
theorem enter_err {c : List Ins} {l e : Nat} {m : Ms} {f a : It} {rd : Option (Nat × Rd)} (hfl : m.frames.length ≤ 1024) (hN : ∀ n ∈ frN (m.frames ++ m.fg), 905 ≤ n) (hn : ∀ n ∈ rpN rd, 905 ≤ n) (he : m.enter f a rd = .err e) :
    AC Tryz.prog gl 115 [.loc 901 0, .pv (itP f), .pv (itP a), rpV rd] [(901, mB c l m), (903, mF m)] (.panic (fail e)) [] := by
  unfold Ms.enter at he
  split at he
  · rename_i p vs
    split at he
    · cases he
      exact enter_full c l m p vs a rd (by assumption) (by omega) hN hn
    · cases he
  · rename_i hne
    cases he
    exact enter_stuck c l m f a rd (fun e => by cases f <;> simp [It.kind] at e; exact hne _ _ rfl) hN hn
theorem enter_stop {m m' : Ms} {f a : It} {rd : Option (Nat × Rd)} : ¬ m.enter f a rd = .stop m' := by
  intro he
  unfold Ms.enter at he
  split at he
  · split at he <;> cases he
  · cases he
section
variable (c : List Ins) (l : Nat) (m : Ms) (p : Nat) (hat : m.at_ = ((p : Nat) : Int)) (hst : ¬ m.steps = l) (hsl : m.steps ≤ 800000) (hp : p ≤ 1000000) (hnm : Nm m) {b0 : Nat} (hb0 : b0 ≤ 800000) (hok : Okm b0 m)
include hat hst hsl hp hnm hb0 hok
theorem full_3 (hc : c[p]? = some (3, 0)) (r : Res) (n : Nat) (hr : (nxt m).exec n 3 0 = some r) : StepR c l m r := by
  have hsl' : m.steps ≤ 1000000 := by omega
  have hl : m.stack.length ≤ 900000 := by have := hok.len; omega
  have hN := hnm.lo
  have hN' : ∀ n ∈ frN (m.frames ++ m.fg), 905 ≤ n := fun n hn => by have := hN n hn; omega
  simp only [Ms.exec] at hr
  split at hr
  · cases hr
  · rename_i y m1 h1
    split at hr
    · cases hr
    · rename_i x m2 h2
      obtain ⟨s1, hs1, rfl⟩ := pop_inv h1
      obtain ⟨s, hs, rfl⟩ := pop_inv h2
      simp only at hs
      subst hs
      have hs : m.stack = s ++ [x, y] := by simpa [nxt] using hs1
      have hst2 := hok.stack
      rw [hs, BdL_app] at hst2
      simp only [BdL] at hst2
      cases hr
      cases e : Ms.enter _ x y none with
      | stop m' => exact absurd e enter_stop
      | err k =>
        refine .same hnm (step_apply_err c l m p hat hst hsl' hp hN hl s x y hs _ ?_ hc)
        exact enter_err (rd := none) hok.few hN' (by simp [rpN]) e
      | go m' =>
        obtain ⟨he, e1, e2, e3, e4, e5, e6⟩ := enter_go (c := c) (l := l) (m := pop1 (pop1 (nxt m) (s ++ [x]) y) s x) (rd := none) hst2.2.1 hst2.2.2.1 hN' (by simp [rpN]) e
        refine .same hnm e4 (by rw [e6, rdO_app]; simp [rdO, nxt, pop1]) (by simp [e5, frN]) (step_apply c l m p hat hst hsl' hp hN hl s x y hs m' ?_ ?_ he hc)
        · simp only [mS, e1, e2, e3]
        · intro n hn
          rw [e5, e6, frN_app, frN_app] at hn
          simp only [frN, List.filterMap_cons, List.filterMap_nil, Option.map_none, List.append_nil] at hn
          rw [frN_app]
          exact List.mem_append.2 (.inl hn)
theorem full_rec (op : Nat) (list : Bool) (hop : (op = 6 ∧ list = false) ∨ (op = 9 ∧ list = true)) (hc : c[p]? = some (op, 0)) (r : Res) (hr : (nxt m).recursion (1000 + m.steps) list = some r) : StepR c l m r := by
  have hsl' : m.steps ≤ 1000000 := by omega
  have hl : m.stack.length ≤ 900000 := by have := hok.len; omega
  have hN := hnm.lo
  have serr : ∀ e : Nat, AC Tryz.prog gl 131 [.loc 901 0, .pv (.bool list)] (mO c l (nxt m)) (.panic (fail e)) [] → StepR c l m (.err e) := by
    intro e he
    rcases hop with ⟨rfl, rfl⟩ | ⟨rfl, rfl⟩
    · exact .same hnm (step_rec_err c l m p hat hst hsl' hp hN hl _ he hc)
    · exact .same hnm (step_fold_err c l m p hat hst hsl' hp hN hl _ he hc)
  have szero : ∀ m', frN (m'.frames ++ m'.fg) = frN (m.frames ++ m.fg) → AC Tryz.prog gl 131 [.loc 901 0, .pv (.bool list)] (mO c l (nxt m)) (.ret (.pv (.tuple []))) (mO c l m') → AC Tryz.prog gl 113 [.loc 901 0] (mO c l m) (.ret (.pv (.bool true))) (mO c l m') := by
    intro m' hm' he
    rcases hop with ⟨rfl, rfl⟩ | ⟨rfl, rfl⟩
    · exact step_rec_zero c l m p hat hst hsl' hp hN hl m' (fun n hn => by rw [← hm']; exact hn) he hc
    · exact step_fold_zero c l m p hat hst hsl' hp hN hl m' (fun n hn => by rw [← hm']; exact hn) he hc
  have sgo : ∀ m' RB, RB.names = [] → (∀ n ∈ frN (m'.frames ++ m'.fg), n ∈ frN (m.frames ++ m.fg) ∨ n = 921) → AC Tryz.prog gl 131 [.loc 901 0, .pv (.bool list)] (mO c l (nxt m)) (.ret (.pv (.tuple []))) (mO c l m' ++ [(921, RB)]) → AC Tryz.prog gl 113 [.loc 901 0] (mO c l m) (.ret (.pv (.bool true))) (mO c l m' ++ [(921, RB)]) := by
    intro m' RB hRB hm' he
    rcases hop with ⟨rfl, rfl⟩ | ⟨rfl, rfl⟩
    · exact step_rec c l m p hat hst hsl' hp hN hl m' RB hRB hm' he hc
    · exact step_fold c l m p hat hst hsl' hp hN hl m' RB hRB hm' he hc
  -- under the new name
  have snew : ∀ (m0 : Ms) (q : Nat) (f a : It) (vs : List It) (rr : Rd), m0 = { m0 with frames := m.frames ++ [⟨(nxt m).at_, m.vars, f, a, some (921, rr)⟩], fg := [], steps := m.steps + 1 } →
      AC Tryz.prog gl 131 [.loc 901 0, .pv (.bool list)] (mO c l (nxt m)) (.ret (.pv (.tuple []))) (mO c l m0 ++ [(921, rdB rr)]) →
      StepTo c l true m { m0 with frames := m.frames ++ [⟨(nxt m).at_, m.vars, f, a, some (1000 + m.steps, rr)⟩] } := by
    intro m0 q f a vs rr hm0 he
    have hfr : m0.frames = m.frames ++ [⟨(nxt m).at_, m.vars, f, a, some (921, rr)⟩] := by rw [hm0]
    have hfg : m0.fg = [] := by rw [hm0]
    have hss : m0.steps = m.steps + 1 := by rw [hm0]
    have h67 := sgo m0 (rdB rr) (rB_names _ _) (by
      intro n hn
      rw [hfr, hfg, frN_app, frN_app] at hn
      simp [frN] at hn
      rcases hn with ⟨fr, h1, k, h2⟩ | rfl
      · exact .inl (mem_frN.2 ⟨fr, List.mem_append.2 (.inl h1), k, h2⟩)
      · exact .inr rfl) he
    have hne : ∀ n ∈ frN (m.frames ++ m.fg), swapN 921 (1000 + m.steps) n = n := by
      intro n hn
      have h1 := hN n hn
      have h2 := hnm.hi n hn
      unfold swapN
      rw [if_neg (by omega), if_neg (by omega)]
    have hr := AC.ren (swapN_inv 921 (1000 + m.steps)) h67
    have s1 : swapN 921 (1000 + m.steps) 901 = 901 := by unfold swapN; rw [if_neg (by omega), if_neg (by omega)]
    have s2 : swapN 921 (1000 + m.steps) 902 = 902 := by unfold swapN; rw [if_neg (by omega), if_neg (by omega)]
    have s3 : swapN 921 (1000 + m.steps) 903 = 903 := by unfold swapN; rw [if_neg (by omega), if_neg (by omega)]
    have s4 : swapN 921 (1000 + m.steps) 921 = 1000 + m.steps := by simp [swapN]
    have hid : msRen (swapN 921 (1000 + m.steps)) m = m := msRen_id hne
    have hfid : m.frames.map (frRen (swapN 921 (1000 + m.steps))) = m.frames := map_frRen_id fun n hn => hne n (by rw [frN_app]; exact List.mem_append.2 (.inl hn))
    rw [renO_app, mO_ren s1 s2 s3, mO_ren s1 s2 s3, hid] at hr
    have hm1 : msRen (swapN 921 (1000 + m.steps)) m0 = { m0 with frames := m.frames ++ [⟨(nxt m).at_, m.vars, f, a, some (1000 + m.steps, rr)⟩] } := by
      simp only [msRen, hfr, hfg, List.map_append, hfid, List.map_cons, List.map_nil, frRen, Option.map_some, s4]
    rw [hm1] at hr
    simp only [renL, V.ren, s1, Out.ren, renO, s4] at hr
    have hB : (rdB rr).ren (swapN 921 (1000 + m.steps)) = rdB rr := rB_ren _ _ _
    rw [hB] at hr
    refine StepTo.of (rdO m.frames) [] [(1000 + m.steps, rdB rr)] (by simp) ?_ hnm (hnm.next hss ?_ ?_) (by simp [keysO]) (by simpa using hr)
    · show rdO (m.frames ++ _) = _
      rw [rdO_app]
      rfl
    · show (frN (m.frames ++ _)).Nodup
      rw [frN_app, List.nodup_append]
      refine ⟨hnm.nd, by simp [frN], ?_⟩
      intro x hx y hy
      simp [frN] at hy
      have := hnm.hi x (by rw [frN_app]; exact List.mem_append.2 (.inl hx))
      omega
    · show ∀ n ∈ frN ((m.frames ++ _) ++ m0.fg), _
      intro n hn
      rw [hfg, List.append_nil, frN_app] at hn
      rcases List.mem_append.1 hn with hn | hn
      · exact .inl (by rw [frN_app]; exact List.mem_append.2 (.inl hn))
      · simp [frN] at hn
        exact .inr hn
  unfold Ms.recursion at hr
  split at hr
  · cases hr
  · rename_i x m1 h1
    split at hr
    · cases hr
    · rename_i f m2 h2
      split at hr
      · cases hr
      · rename_i b m3 h3
        obtain ⟨s1, hs1, rfl⟩ := pop_inv h1
        obtain ⟨s2, hs2, rfl⟩ := pop_inv h2
        obtain ⟨s, hs3, rfl⟩ := pop_inv h3
        simp only at hs2 hs3
        subst hs3
        subst hs2
        have hs : m.stack = s ++ [b, f, x] := by simpa [nxt] using hs1
        have hsn : (nxt m).stack = s ++ [b, f, x] := hs
        have hst2 := hok.stack
        rw [hs, BdL_app] at hst2
        simp only [BdL] at hst2
        obtain ⟨-, hbb, hbf, hbx, -⟩ := hst2
        have hl1 : (nxt m).stack.length ≤ 1000000 := by show m.stack.length ≤ 1000000; omega
        split at hr
        · rename_i pf vs
          split at hr
          · rename_i hrd
            cases hr
            refine serr 44 (rec_err2 c l (nxt m) s b _ x hsn hl1 hN list rfl ?_)
            intro hk
            cases list with
            | true => obtain ⟨L, rfl⟩ := kind_2 hk; cases hrd
            | false => obtain ⟨L, rfl⟩ := kind_1 hk; cases hrd
          · rename_i rr hrd
            have hfn := fn_len hbf
            split at hr
            · rename_i hz
              cases hr
              refine .same hnm rfl rfl (fun n hn => by rw [frN_app]; exact List.mem_append.2 (.inr hn)) (szero ((pop3 (nxt m) s b (.fn pf vs) x).push b) rfl (rec_zero c l (nxt m) s b _ x hsn hl1 hN list rfl ?_))
              cases list with
              | true =>
                cases x with
                | list L =>
                  cases hrd
                  simp only [List.length_eq_zero_iff] at hz
                  rw [hz]; rfl
                | _ => cases hrd
              | false =>
                cases x with
                | num k => cases hrd; simp only at hz; rw [hz]; rfl
                | _ => cases hrd
            · rename_i hz
              split at hr
              · rename_i g a r' hbeg
                cases hr
                cases list with
                | false =>
                  cases x with
                  | num k =>
                    cases hrd
                    simp only [Rd.begin, Option.some.injEq, Prod.mk.injEq] at hbeg
                    obtain ⟨rfl, rfl, rfl⟩ := hbeg
                    simp only [Bd] at hbx
                    simp only [Ms.enter]
                    split
                    · rename_i hfl
                      exact serr 4 (rec_nat_full c l (nxt m) s b _ _ hsn hl1 hN k hz (by omega) pf vs rfl rfl _ rfl _ (enter_full c l (pop3 (nxt m) s b (.fn pf vs) (.num k)) pf vs _ (some (921, _)) hfl (by have := hok.few; show m.frames.length ≤ 1000000; omega) (fun n hn => by have := hN n hn; omega) (by simp [rpN])))
                    · rename_i hfl
                      exact snew _ pf _ _ vs _ rfl (rec_nat c l (nxt m) s b _ _ hsn hl1 hN k hz (by omega) pf vs rfl rfl hfn.1 hfn.2 (by show m.frames.length < 1024; simp only [nxt] at hfl; omega) _ rfl _ rfl)
                  | _ => cases hrd
                | true =>
                  cases x with
                  | list L =>
                    cases hrd
                    simp only [Rd.begin] at hbeg
                    split at hbeg
                    · rename_i hd tl hg
                      simp only [Option.some.injEq, Prod.mk.injEq] at hbeg
                      obtain ⟨rfl, rfl, rfl⟩ := hbeg
                      simp only [Bd] at hbx
                      have hLne : ¬ L = [] := fun e => hz (by simp [e])
                      simp only [Ms.enter]
                      split
                      · rename_i hfl
                        exact serr 4 (rec_list_full c l (nxt m) s b _ _ hsn hl1 hN L hLne (by omega) pf vs rfl rfl hd tl hg _ rfl _ (enter_full c l (pop3 (nxt m) s b (.fn pf vs) (.list L)) pf vs _ (some (921, _)) hfl (by have := hok.few; show m.frames.length ≤ 1000000; omega) (fun n hn => by have := hN n hn; omega) (by simp [rpN])))
                      · rename_i hfl
                        exact snew _ pf _ _ vs _ rfl (rec_list c l (nxt m) s b _ _ hsn hl1 hN L hLne (by omega) pf vs rfl rfl hfn.1 hfn.2 (by show m.frames.length < 1024; simp only [nxt] at hfl; omega) hd tl hg _ rfl _ rfl)
                    · cases hbeg
                  | _ => cases hrd
              · cases hr
        · rename_i hne
          cases hr
          exact serr 44 (rec_err c l (nxt m) s b f x hsn hl1 hN list (fun e => by cases f <;> simp [It.kind] at e; exact hne _ _ rfl))
end
end Go.Proofs.YtodjpfpmhjdhbaaGreatDoor
namespace Go.Proofs.YtodjpfpmhjdhbaaGreatDoor
open Go.Lg
set_option maxRecDepth 10000
def retP : Option (It × It) → PV
  | none => .tuple [.nil, .nil, .bool true]
  | some (f, a) => .tuple [itP f, itP a, .bool false]
theorem rd_ret {b : Nat} (hb : b ≤ 800000) {r r' : Rd} {x : It} {q : Option (It × It)} (hr : RdOk b r) (hlt : r.next < r.count) (h : r.returned x = some (q, r')) :
    AC Tryz.prog gl 134 [.loc 920 0, .pv (itP x)] [(920, rdB r)] (.ret (.pv (retP q))) [(920, rdB r')] := by
  have hcnt := hr.count
  unfold Rd.returned at h
  split at h
  · rename_i a rest e
    cases h
    have := ret_call_ok r x a rest
    unfold rdB
    rw [e]
    exact this
  · rename_i e
    split at h
    · rename_i hn
      cases h
      have := ret_done_ok r x hn (by omega)
      unfold rdB
      simp only [e]
      exact this
    · rename_i hn
      split at h
      · rename_i f a r'' hbeg
        cases h
        unfold rdB
        rw [e]
        unfold Rd.begin at hbeg
        split at hbeg
        · rename_i ea
          simp only [Option.some.injEq, Prod.mk.injEq] at hbeg
          obtain ⟨rfl, rfl, rfl⟩ := hbeg
          refine ret_next_ok r x _ _ _ hn (by omega) ?_
          exact begin_nat_ok { r with result := x, next := r.next + 1 } (.slice []) ea (by simp only; omega)
        · rename_i L ea
          split at hbeg
          · rename_i hd tl hg
            simp only [Option.some.injEq, Prod.mk.injEq] at hbeg
            obtain ⟨rfl, rfl, rfl⟩ := hbeg
            refine ret_next_ok r x _ _ _ hn (by omega) ?_
            exact begin_list_ok { r with result := x, next := r.next + 1 } (.slice []) L ea hd tl hg
          · cases hbeg
      · cases h
theorem enter_ren (ρ : Nat → Nat) {m m' : Ms} {f a : It} {n : Nat} {r : Rd} (h : m.enter f a (some (n, r)) = .go m') : (msRen ρ m).enter f a (some (ρ n, r)) = .go (msRen ρ m') := by
  unfold Ms.enter at h ⊢
  split at h
  · split at h
    · cases h
    · rename_i hl
      cases h
      rw [if_neg (by simpa [msRen] using hl)]
      simp [msRen, frRen]
  · cases h
theorem enter_ren_err (ρ : Nat → Nat) {m : Ms} {f a : It} {n e : Nat} {r : Rd} (h : m.enter f a (some (n, r)) = .err e) : (msRen ρ m).enter f a (some (ρ n, r)) = .err e := by
  unfold Ms.enter at h ⊢
  split at h
  · split at h
    · rename_i hl
      rw [if_pos (by simpa [msRen] using hl)]
      exact h
    · cases h
  · exact h
section
variable (c : List Ins) (l : Nat) (m : Ms) (p : Nat) (hat : m.at_ = ((p : Nat) : Int)) (hst : ¬ m.steps = l) (hsl : m.steps ≤ 800000) (hp : p ≤ 1000000) (hnm : Nm m) {b0 : Nat} (hb0 : b0 ≤ 800000) (hok : Okm b0 m)
include hat hst hsl hp hnm hb0 hok
theorem full_ret (hc : c[p]? = some (14, 0)) (r : Res) (hr : (nxt m).leave = some r) : StepR c l m r := by
  have hsl' : m.steps ≤ 1000000 := by omega
  have hl : m.stack.length ≤ 900000 := by have := hok.len; omega
  have hl1 : (nxt m).stack.length ≤ 1000000 := by show m.stack.length ≤ 1000000; omega
  have hN := hnm.lo
  have hfew := hok.few
  unfold Ms.leave at hr
  split at hr
  · cases hr
  · rename_i x m1 h1
    have hbx : Bd b0 x := (Okm.pop (m := nxt m) ⟨hok.stack, hok.len, hok.vars, hok.inside, hok.frames, hok.few⟩ h1).1
    obtain ⟨s, hs, rfl⟩ := pop_inv h1
    split at hr
    · rename_i h2
      cases hr
      have hf : m.frames = [] := by
        unfold Ms.popF at h2
        split at h2
        · cases h2
        · rename_i e
          simpa [nxt] using e
      refine .same hnm rfl rfl (fun n hn => by rw [frN_app]; exact List.mem_append.2 (.inr hn)) (step_ret c l m p hat hst hsl' hp hN hl false _ (fun n hn => hn) (leave_last c l (nxt m) s x hs hl1 hf hN) hc)
    · rename_i fr m2 h2
      have hfr : ∃ fs, m.frames = fs ++ [fr] ∧ m2 = popFr (pop1 (nxt m) s x) fs fr := by
        unfold Ms.popF at h2
        split at h2
        · rename_i y e
          cases h2
          exact ⟨_, last_split e, rfl⟩
        · cases h2
      obtain ⟨fs, hf, rfl⟩ := hfr
      have hfl : (nxt m).frames.length ≤ 1000000 := by show m.frames.length ≤ 1000000; omega
      have hfro := hok.frames fr (by rw [hf]; simp)
      split at hr
      · rename_i hrd
        cases hr
        have hpl := leave_plain c l (nxt m) s x hs hl1 fs fr hf hfl hrd hN
        have hnames : frN (((popFr (pop1 (nxt m) s x) fs fr).push x).frames ++ ((popFr (pop1 (nxt m) s x) fs fr).push x).fg) = frN (m.frames ++ m.fg) := by
          show frN (fs ++ fr :: m.fg) = _
          rw [hf]; simp
        have h67 := step_ret c l m p hat hst hsl' hp hN hl _ _ (fun n hn => by rw [← hnames]; exact hn) hpl hc
        have hfs : rdO fs = rdO m.frames := by rw [hf, rdO_app]; simp [rdO, hrd]
        have hfg : ∀ n ∈ frN ((popFr (pop1 (nxt m) s x) fs fr).push x).fg, n ∈ frN (m.frames ++ m.fg) := fun n hn => by
          rw [← hnames, frN_app]; exact List.mem_append.2 (.inr hn)
        unfold stopIf
        split
        · rename_i hpos
          have hpos : 0 ≤ fr.at_ := hpos
          rw [show decide (0 ≤ fr.at_) = true by simpa using hpos] at h67
          exact .same hnm rfl hfs hfg h67
        · rename_i hpos
          have hpos : ¬ 0 ≤ fr.at_ := hpos
          rw [show decide (0 ≤ fr.at_) = false by simpa using hpos] at h67
          exact .same hnm rfl hfs hfg h67
      · rename_i n0 rr hrd
        have hrr := hfro.rd _ _ hrd
        have hA : rdO m.frames = rdO fs ++ [(n0, rdB rr)] := by rw [hf, rdO_app]; simp [rdO, hrd]
        have hn0 : n0 ∈ frN (m.frames ++ m.fg) := mem_frN.2 ⟨fr, by rw [hf]; simp, rr, hrd⟩
        have hn0l := hN n0 hn0
        have hk : frN m.frames = frN fs ++ [n0] := by rw [← rdO_keys, hA, keysO_app, rdO_keys]; rfl
        generalize hρ : swapN 920 n0 = ρ at *
        have hinv : ∀ n, ρ (ρ n) = n := by rw [← hρ]; exact swapN_inv 920 n0
        have s1 : ρ 901 = 901 := by rw [← hρ]; unfold swapN; rw [if_neg (by omega), if_neg (by omega)]
        have s2 : ρ 902 = 902 := by rw [← hρ]; unfold swapN; rw [if_neg (by omega), if_neg (by omega)]
        have s3 : ρ 903 = 903 := by rw [← hρ]; unfold swapN; rw [if_neg (by omega), if_neg (by omega)]
        have s4 : ρ 920 = n0 := by rw [← hρ]; simp [swapN]
        have s5 : ρ n0 = 920 := by rw [← s4, hinv]
        have hN1 : ∀ n ∈ frN ((msRen ρ m).frames ++ (msRen ρ m).fg), n = 920 ∨ 1000 ≤ n := by
          intro n hn
          have : n ∈ (frN (m.frames ++ m.fg)).map ρ := by
            rw [frN_app]
            rw [frN_app] at hn
            simp only [msRen, frN_ren] at hn
            rw [List.map_append]
            exact hn
          obtain ⟨k, hk, rfl⟩ := List.mem_map.1 this
          by_cases e : k = n0
          · subst e; exact .inl s5
          · right
            have := hN k hk
            have : ρ k = k := by rw [← hρ]; unfold swapN; rw [if_neg (by omega), if_neg e]
            omega
        have hf1 : (nxt (msRen ρ m)).frames = fs.map (frRen ρ) ++ [frRen ρ fr] := by
          show m.frames.map _ = _
          rw [hf]; simp
        have hrd1 : (frRen ρ fr).rd = some (920, rr) := by simp [frRen, hrd, s5]
        have hmm : popFr (pop1 (nxt (msRen ρ m)) s x) (fs.map (frRen ρ)) (frRen ρ fr) = msRen ρ (popFr (pop1 (nxt m) s x) fs fr) := by
          simp [popFr, pop1, nxt, msRen, frRen]
        have hfl1 : (nxt (msRen ρ m)).frames.length ≤ 1000000 := by
          show (m.frames.map _).length ≤ _
          simp; omega
        have back : ∀ (out : Out) (m' : Ms) (Y : List (Nat × Ob)), AC Tryz.prog gl 113 [.loc 901 0] (mO c l (msRen ρ m) ++ [(920, rdB rr)]) out (mO c l (msRen ρ m') ++ Y) → AC Tryz.prog gl 113 [.loc 901 0] (mO c l m ++ [(n0, rdB rr)]) (out.ren ρ) (mO c l m' ++ renO ρ Y) := by
          intro out m' Y h
          have := AC.ren hinv h
          rw [renO_app, renO_app, mO_ren s1 s2 s3, mO_ren s1 s2 s3, msRen_msRen hinv, msRen_msRen hinv] at this
          have hB : (rdB rr).ren ρ = rdB rr := rB_ren _ _ _
          simp only [renL, V.ren, renO, s1, s4, hB] at this
          exact this
        have backE : ∀ (q : PV), AC Tryz.prog gl 113 [.loc 901 0] (mO c l (msRen ρ m) ++ [(920, rdB rr)]) (.panic q) [] → AC Tryz.prog gl 113 [.loc 901 0] (mO c l m ++ [(n0, rdB rr)]) (.panic q) [] := by
          intro q h
          have := AC.ren hinv h
          rw [renO_app, mO_ren s1 s2 s3, msRen_msRen hinv] at this
          have hB : (rdB rr).ren ρ = rdB rr := rB_ren _ _ _
          simp only [renL, V.ren, renO, s1, s4, hB] at this
          exact this
        have nd1 := hnm.nd
        rw [hk, List.nodup_append] at nd1
        split at hr
        · cases hr
        · rename_i r' hret
          cases hr
          have h83 := rd_ret hb0 hrr.1 hrr.2 hret
          have h81 := leave_done c l (nxt (msRen ρ m)) s x hs hl1 (fs.map (frRen ρ)) (frRen ρ fr) hf1 hfl1 rr hrd1 hN1 (rdB rr) (rdB r') (rB_names _ _) (rB_names _ _) h83
          have hm1 : (popFr (pop1 (nxt (msRen ρ m)) s x) (fs.map (frRen ρ)) (frRen ρ fr)).push x = msRen ρ ((popFr (pop1 (nxt m) s x) fs fr).push x) := by rw [hmm]; rfl
          rw [hm1] at h81
          have hnames : ∀ n ∈ frN ((msRen ρ ((popFr (pop1 (nxt m) s x) fs fr).push x)).frames ++ (msRen ρ ((popFr (pop1 (nxt m) s x) fs fr).push x)).fg), n ∈ frN ((msRen ρ m).frames ++ (msRen ρ m).fg) := by
            intro n hn
            have e : (msRen ρ ((popFr (pop1 (nxt m) s x) fs fr).push x)).frames ++ (msRen ρ ((popFr (pop1 (nxt m) s x) fs fr).push x)).fg = (msRen ρ m).frames ++ (msRen ρ m).fg := by
              show fs.map (frRen ρ) ++ (fr :: m.fg).map (frRen ρ) = m.frames.map (frRen ρ) ++ m.fg.map (frRen ρ)
              rw [hf]; simp
            rw [← e]; exact hn
          have h67 := stepR_done c l (msRen ρ m) p hat hst hsl' hp hN1 (rdB rr) (rB_names _ _) hc _ _ hnames h81
          have h67' := back (.ret (.pv (.bool (decide (0 ≤ fr.at_))))) _ [] (by rw [List.append_nil]; exact h67)
          simp only [Out.ren, V.ren, renO] at h67'
          have hnm' : Nm ((popFr (pop1 (nxt m) s x) fs fr).push x) := hnm.next rfl nd1.1 (fun n hn => .inl (by
            have e : ((popFr (pop1 (nxt m) s x) fs fr).push x).frames ++ ((popFr (pop1 (nxt m) s x) fs fr).push x).fg = m.frames ++ m.fg := by
              show fs ++ fr :: m.fg = _
              rw [hf]; simp
            rw [← e]; exact hn))
          unfold stopIf
          split
          · rename_i hpos
            have hpos : 0 ≤ fr.at_ := hpos
            rw [show decide (0 ≤ fr.at_) = true by simpa using hpos] at h67'
            exact .of (rdO fs) [(n0, rdB rr)] [] hA (by simp; rfl) hnm hnm' (by simp [keysO]) h67'
          · rename_i hpos
            have hpos : ¬ 0 ≤ fr.at_ := hpos
            rw [show decide (0 ≤ fr.at_) = false by simpa using hpos] at h67'
            exact .of (rdO fs) [(n0, rdB rr)] [] hA (by simp; rfl) hnm hnm' (by simp [keysO]) h67'
        · rename_i f a r' hret
          cases hr
          have h83 := rd_ret hb0 hrr.1 hrr.2 hret
          obtain ⟨hbf, hba, -⟩ := hrr.1.returned hbx hrr.2 hret f a rfl
          have hNmm : ∀ n ∈ frN ((msRen ρ (popFr (pop1 (nxt m) s x) fs fr)).frames ++ (msRen ρ (popFr (pop1 (nxt m) s x) fs fr)).fg), 905 ≤ n := by
            intro n hn
            have e : (msRen ρ (popFr (pop1 (nxt m) s x) fs fr)).frames ++ (msRen ρ (popFr (pop1 (nxt m) s x) fs fr)).fg = (msRen ρ m).frames ++ (msRen ρ m).fg := by
              show fs.map (frRen ρ) ++ (fr :: m.fg).map (frRen ρ) = m.frames.map (frRen ρ) ++ m.fg.map (frRen ρ)
              rw [hf]; simp
            rw [e] at hn
            have := hN1 n hn
            omega
          cases e : Ms.enter (popFr (pop1 (nxt m) s x) fs fr) f a (some (n0, r')) with
          | stop m' => exact absurd e enter_stop
          | err k =>
            have e1 := enter_ren_err ρ e
            rw [s5] at e1
            have he := enter_err (c := c) (l := l) (by
              show (fs.map _).length ≤ 1024
              have : m.frames.length = fs.length + 1 := by rw [hf]; simp
              simp; omega) hNmm (by simp [rpN]) e1
            rw [← hmm] at he
            have h81 := leave_err c l (nxt (msRen ρ m)) s x hs hl1 (fs.map (frRen ρ)) (frRen ρ fr) hf1 hfl1 rr hrd1 hN1 (rdB rr) (rdB r') (rB_names _ _) (rB_names _ _) _ _ _ h83 he
            have h67 := stepR_err c l (msRen ρ m) p hat hst hsl' hp hN1 (rdB rr) (rB_names _ _) hc _ h81
            exact .of (rdO fs) [(n0, rdB rr)] hA hnm (backE _ h67)
          | go m' =>
            have e1 := enter_ren ρ e
            rw [s5] at e1
            obtain ⟨he, g1, g2, g3, g4, g5, g6⟩ := enter_go (c := c) (l := l) hbf hba hNmm (by simp [rpN]) e1
            obtain ⟨-, k1, k2, k3, k4, k5, k6⟩ := enter_go (c := c) (l := l) hbf hba (fun n hn => by
              have e : (popFr (pop1 (nxt m) s x) fs fr).frames ++ (popFr (pop1 (nxt m) s x) fs fr).fg = m.frames ++ m.fg := by
                show fs ++ fr :: m.fg = _
                rw [hf]; simp
              rw [e] at hn
              have := hN n hn
              omega) (by simp [rpN]; omega) e
            rw [← hmm] at he
            have hsub : ∀ n ∈ frN fs, n ∈ frN (m.frames ++ m.fg) := fun n hn => by rw [frN_app, hk]; simp [hn]
            have hfn : frN (m'.frames ++ m'.fg) = frN fs ++ [n0] := by
              rw [k5, k6, List.append_nil, frN_app]
              rfl
            have h81 := leave_go c l (nxt (msRen ρ m)) s x hs hl1 (fs.map (frRen ρ)) (frRen ρ fr) hf1 hfl1 rr hrd1 hN1 (rdB rr) (rdB r') (rB_names _ _) (rB_names _ _) _ _ (msRen ρ m') (by
              rw [hmm]
              simp only [mS, g1, g2, g3]) (by
              intro n hn
              rw [frN_app] at hn
              simp only [msRen, frN_ren] at hn
              rw [← List.map_append, ← frN_app, hfn] at hn
              obtain ⟨k, hk1, rfl⟩ := List.mem_map.1 hn
              rcases List.mem_append.1 hk1 with h | h
              · left
                show ρ k ∈ frN (m.frames.map (frRen ρ) ++ m.fg.map (frRen ρ))
                rw [← List.map_append, frN_ren]
                exact List.mem_map_of_mem (hsub k h)
              · right
                simp only [List.mem_singleton] at h
                subst h
                exact s5) h83 he
            have h67 := stepR_go c l (msRen ρ m) p hat hst hsl' hp hN1 (rdB rr) (rB_names _ _) hc (msRen ρ m') (rdB r') (rB_names _ _) (by
              intro n hn
              rw [frN_app] at hn
              simp only [msRen, frN_ren] at hn
              rw [← List.map_append, ← frN_app, hfn] at hn
              obtain ⟨k, hk1, rfl⟩ := List.mem_map.1 hn
              rcases List.mem_append.1 hk1 with h | h
              · left
                show ρ k ∈ frN (m.frames.map (frRen ρ) ++ m.fg.map (frRen ρ))
                rw [← List.map_append, frN_ren]
                exact List.mem_map_of_mem (hsub k h)
              · right
                simp only [List.mem_singleton] at h
                subst h
                exact s5) h81
            have h67' := back _ _ _ h67
            have hB : (rdB r').ren ρ = rdB r' := rB_ren _ _ _
            simp only [Out.ren, V.ren, renO, s4, hB] at h67'
            refine .of (rdO fs) [(n0, rdB rr)] [(n0, rdB r')] hA ?_ hnm (hnm.next k4 ?_ ?_) (by simp [keysO]) h67'
            · rw [k6, rdO_app]; rfl
            · rw [k6, frN_app]
              show (frN fs ++ [n0]).Nodup
              rw [List.nodup_append]
              exact nd1
            · rw [hfn]
              intro n hn
              rcases List.mem_append.1 hn with h | h
              · exact .inl (hsub n h)
              · simp only [List.mem_singleton] at h
                subst h
                exact .inl hn0
/-- one step, in the program -/
theorem step_full (hcode : Okc c) (r : Res) (hr : m.step c l (1000 + m.steps) = some r) : StepR c l m r := by
  unfold Ms.step at hr
  rw [if_neg hst, if_neg (by omega)] at hr
  split at hr
  · cases hr
  · rename_i op a hc
    rw [hat] at hc
    simp only [Int.toNat_natCast] at hc
    obtain ⟨h1, h2, h3, h4, h5⟩ := hcode p op a hc
    have hr : (nxt m).exec (1000 + m.steps) op a = some r := hr
    by_cases hop : op ∈ [1, 2, 4, 5, 7, 8, 10, 11, 12, 13]
    · refine full_1 c l m p hat hst hsl hp hnm hb0 hok op a h2 h5 hop hc r ?_
      simp only [List.mem_cons, List.not_mem_nil, or_false] at hop
      rcases hop with rfl | rfl | rfl | rfl | rfl | rfl | rfl | rfl | rfl | rfl <;> exact hr
    · simp only [List.mem_cons, List.not_mem_nil, or_false] at hop
      have ha : a = 0 := by omega
      subst ha
      have : op = 3 ∨ op = 6 ∨ op = 9 ∨ op = 14 := by omega
      rcases this with rfl | rfl | rfl | rfl
      · exact full_3 c l m p hat hst hsl hp hnm hb0 hok hc r _ hr
      · exact full_rec c l m p hat hst hsl hp hnm hb0 hok 6 false (.inl ⟨rfl, rfl⟩) hc r hr
      · exact full_rec c l m p hat hst hsl hp hnm hb0 hok 9 true (.inr ⟨rfl, rfl⟩) hc r hr
      · exact full_ret c l m p hat hst hsl hp hnm hb0 hok hc r hr
end
theorem step_full_limit (c : List Ins) (l : Nat) (m : Ms) (hst : m.steps = l) (hnm : Nm m) : StepErr c l m 5 :=
  .same hnm (step_limit c l m hst (fun n hn => by have := hnm.lo n hn; omega))
end Go.Proofs.YtodjpfpmhjdhbaaGreatDoor
