/- Part of the proof: contracts of the evaluator, of values and of the inference of types; no conditions. -/
import Derived.Test.YtodjpfpmhjdhbaaGreatDoorCallsB3
set_option linter.unusedVariables false
set_option linter.unusedSimpArgs false
set_option linter.unusedSectionVars false
/- What a term evaluates to, plainly, and that its program returns just that. -/
namespace Go.Proofs.YtodjpfpmhjdhbaaGreatDoor
open Go.Lg
/-- results of the evaluation of terms; the values of a closure: variable 0 first -/
inductive Rs where
  | num (n : Nat)
  | list (l : List Nat)
  | unit
  | pair (a b : Rs)
  | clo (b : Tm) (e : List Rs)
/-- what is evaluated: a term, a call, rounds of a recursion, rounds of a fold -/
inductive Jd where
  | ev (e : List Rs) (t : Tm)
  | ap (f x : Rs)
  | rc (f b : Rs) (k n : Nat)
  | fd (f b : Rs) (l : List (Nat × List Nat))
inductive Ev : Jd → Rs → Prop
  | var {e i r} : e[i]? = some r → Ev (.ev e (.var i)) r
  | lam {e s b} : Ev (.ev e (.lam s b)) (.clo b e)
  | app {e f a g x r} : Ev (.ev e f) g → Ev (.ev e a) x → Ev (.ap g x) r → Ev (.ev e (.app f a)) r
  | zero {e} : Ev (.ev e .zero) (.num 0)
  | succ {e a n} : Ev (.ev e a) (.num n) → Ev (.ev e (.succ a)) (.num (n + 1))
  | recn {e s x y z b fb fe n r} : Ev (.ev e x) b → Ev (.ev e y) (.clo fb fe) → Ev (.ev e z) (.num n) → Ev (.rc (.clo fb fe) b 0 n) r → Ev (.ev e (.recn s x y z)) r
  | nil {e} : Ev (.ev e .nil) (.list [])
  | cons {e x y n l} : Ev (.ev e x) (.num n) → Ev (.ev e y) (.list l) → Ev (.ev e (.cons x y)) (.list (n :: l))
  | fold {e s x y z b fb fe l r} : Ev (.ev e x) b → Ev (.ev e y) (.clo fb fe) → Ev (.ev e z) (.list l) → Ev (.fd (.clo fb fe) b (foldArgs l)) r → Ev (.ev e (.fold s x y z)) r
  | pair {e x y a b} : Ev (.ev e x) a → Ev (.ev e y) b → Ev (.ev e (.pair x y)) (.pair a b)
  | fst {e x a b} : Ev (.ev e x) (.pair a b) → Ev (.ev e (.fst x)) a
  | snd {e x a b} : Ev (.ev e x) (.pair a b) → Ev (.ev e (.snd x)) b
  | unit {e} : Ev (.ev e .unit) .unit
  | ap {b e x r} : Ev (.ev (x :: e) b) r → Ev (.ap (.clo b e) x) r
  | rcDone {f b k} : Ev (.rc f b k k) b
  | rcStep {f b k n g b' r} : k < n → Ev (.ap f (.num k)) g → Ev (.ap g b) b' → Ev (.rc f b' (k + 1) n) r → Ev (.rc f b k n) r
  | fdDone {f b} : Ev (.fd f b []) b
  | fdStep {f b h t l g g' b' r} : Ev (.ap f (.num h)) g → Ev (.ap g (.list t)) g' → Ev (.ap g' b) b' → Ev (.fd f b' l) r → Ev (.fd f b ((h, t) :: l)) r
/-- a cell of the machine for a result -/
inductive VR (c : List Ins) : It → Rs → Prop
  | num (n) : VR c (.num n) (.num n)
  | list (l) : VR c (.list l) (.list l)
  | unit : VR c .unit .unit
  | pair {a b x y} : VR c a x → VR c b y → VR c (.pair a b) (.pair x y)
  | fn {A e vs env b} : TA c b A e → c[e]? = some (14, 0) → vs.length = env.length → (∀ (i : Nat) (x : It) (r : Rs), vs[i]? = some x → env[i]? = some r → VR c x r) → VR c (.fn A vs) (.clo b env)
def VRs (c : List Ins) (vs : List It) (env : List Rs) : Prop := vs.length = env.length ∧ ∀ (i : Nat) (x : It) (r : Rs), vs[i]? = some x → env[i]? = some r → VR c x r
theorem VRs.cons {c : List Ins} {vs : List It} {env : List Rs} {x : It} {r : Rs} (h : VRs c vs env) (hx : VR c x r) : VRs c (x :: vs) (r :: env) := by
  refine ⟨by simp [h.1], fun i y s hy hs => ?_⟩
  cases i with
  | zero => simp at hy hs; subst hy hs; exact hx
  | succ i => exact h.2 i y s (by simpa using hy) (by simpa using hs)
/-- the machine fails by a limit, or gets somewhere -/
def Out (c : List Ins) (l : Nat) (m : Ms) (P : Ms → Prop) : Prop := (∃ e, Runs c l m (.err e) ∧ (e = 4 ∨ e = 5)) ∨ ∃ m', Gos c l m m' ∧ P m'
def OutR (c : List Ins) (l : Nat) (r : Res) (P : Ms → Prop) : Prop := match r with
  | .go m => Out c l m P
  | .stop _ => False
  | .err e => e = 4 ∨ e = 5
theorem Out.bind {c : List Ins} {l : Nat} {m : Ms} {P Q : Ms → Prop} (h : Out c l m P) (k : ∀ m', P m' → Out c l m' Q) : Out c l m Q := by
  rcases h with h | ⟨m', g, hp⟩
  · exact .inl h
  · rcases k m' hp with ⟨e, hr, he⟩ | ⟨m2, g2, hq⟩
    · exact .inl ⟨e, g.runs hr, he⟩
    · exact .inr ⟨m2, g.trans g2, hq⟩
/-- one step -/
theorem Out.step {c : List Ins} {l : Nat} {m : Ms} {P : Ms → Prop} {op a p : Nat} (hp : m.at_ = ((p : Nat) : Int)) (hc : c[p]? = some (op, a)) {r : Res} (he : Ms.exec { m with steps := m.steps + 1, at_ := ((p + 1 : Nat) : Int) } (1000 + m.steps) op a = some r) (k : OutR c l r P) : Out c l m P := by
  by_cases hs : m.steps = l
  · refine .inl ⟨5, .err ?_, .inr rfl⟩
    unfold Ms.step
    rw [if_pos hs]
  · have hst : m.step c l (1000 + m.steps) = some r := by
      unfold Ms.step
      rw [if_neg hs, if_neg (by omega), hp, Int.toNat_natCast, hc]
      rw [← he]
      congr 1
    cases r with
    | go m' =>
      rcases k with ⟨e, hr, he⟩ | ⟨m2, g, hq⟩
      · exact .inl ⟨e, .go hst hr, he⟩
      · exact .inr ⟨m2, .step hst g, hq⟩
    | stop _ => exact k.elim
    | err e => exact .inl ⟨e, .err hst, k⟩
theorem Out.now {c : List Ins} {l : Nat} {m : Ms} {P : Ms → Prop} (h : P m) : Out c l m P := .inr ⟨m, .refl, h⟩
/-- a value came, and nothing else changed -/
def Got (c : List Ins) (m : Ms) (q : Nat) (r : Rs) (m' : Ms) : Prop := ∃ x, VR c x r ∧ m'.stack = m.stack ++ [x] ∧ m'.at_ = ((q : Nat) : Int) ∧ m'.vars = m.vars ∧ m'.frames = m.frames
/-- a value is on the stack before the return of a call -/
def Call1 (c : List Ins) (m : Ms) (F X : It) (rd : Option (Nat × Rd)) (r : Rs) (m' : Ms) : Prop := ∃ x e, VR c x r ∧ m'.stack = m.stack ++ [x] ∧ m'.at_ = ((e : Nat) : Int) ∧ c[e]? = some (14, 0) ∧ m'.frames = m.frames ++ [⟨m.at_, m.vars, F, X, rd⟩]
def Back (c : List Ins) (m : Ms) (r : Rs) (m' : Ms) : Prop := ∃ x, VR c x r ∧ m'.stack = m.stack ++ [x] ∧ m'.at_ = m.at_ ∧ m'.vars = m.vars ∧ m'.frames = m.frames
def Means (c : List Ins) (l : Nat) : Jd → Rs → Prop
  | .ev env t, r => ∀ p q m, TA c t p q → m.at_ = ((p : Nat) : Int) → VRs c m.vars env → Out c l m (Got c m q r)
  | .ap f x, r => ∀ m F X rd, VR c F f → VR c X x → OutR c l (m.enter F X rd) (Call1 c m F X rd r)
  | .rc f b k n, r => k < n → ∀ m nm F B, (∃ p : Nat, m.at_ = ((p : Nat) : Int)) → VR c F f → VR c B b → OutR c l (m.enter F (.num k) (some (nm, ⟨F, k, none, n, B, [B]⟩))) (Back c m r)
  | .fd f b zs, r => ∀ h t zs', zs = (h, t) :: zs' → ∀ m nm F B (all : List (Nat × List Nat)) k, (∃ p : Nat, m.at_ = ((p : Nat) : Int)) → VR c F f → VR c B b → all.drop k = zs → OutR c l (m.enter F (.num h) (some (nm, ⟨F, k, some all, all.length, B, [.list t, B]⟩))) (Back c m r)
theorem OutR.bind {c : List Ins} {l : Nat} {r : Res} {P Q : Ms → Prop} (h : OutR c l r P) (k : ∀ m', P m' → Out c l m' Q) : OutR c l r Q := by
  cases r with
  | go m => exact Out.bind h k
  | stop _ => exact h
  | err _ => exact h
theorem OutR.go {c : List Ins} {l : Nat} {m : Ms} {P : Ms → Prop} (h : P m) : OutR c l (.go m) P := Out.now h
theorem pop_mk {n : Nat} {st s sg : List It} {sv : Nat} {fr fg : List Fr} {fv : Nat} {a : Int} {vs : List It} {x : It} (h : st = s ++ [x]) : Ms.pop ⟨n, st, sg, sv, fr, fg, fv, a, vs⟩ = some (x, ⟨n, s, x :: sg, sv, fr, fg, fv, a, vs⟩) := pop_eq h
theorem stopIf_go {m : Ms} (h : 0 ≤ m.at_) : stopIf m = .go m := if_pos h
/-- the return of a call without rounds -/
theorem ret_none {c : List Ins} {l : Nat} {m m' : Ms} {F X : It} {r : Rs} (hat : ∃ p : Nat, m.at_ = ((p : Nat) : Int)) (h : Call1 c m F X none r m') : Out c l m' (Back c m r) := by
  obtain ⟨p, hp⟩ := hat
  obtain ⟨x, e, hx, hs, ha, hc, hf⟩ := h
  refine Out.step (p := e) ha hc (by
    simp only [Ms.exec, Ms.leave]
    rw [pop_mk hs]
    simp only [Ms.popF, hf, List.getLast?_append, List.getLast?_singleton, List.dropLast_concat, Option.some_or]
    rw [stopIf_go (by simp only [Ms.push]; omega)]) ?_
  exact OutR.go ⟨x, hx, rfl, rfl, rfl, rfl⟩
/-- what goes on behind a call of a round -/
def RetR (c : List Ins) (l : Nat) (m : Ms) (nm : Nat) (x : It) (o : Option (Option (It × It) × Rd)) (P : Ms → Prop) : Prop := match o with
  | none => False
  | some (none, _) => OutR c l (stopIf (m.push x)) P
  | some (some (f, a), r') => OutR c l (m.enter f a (some (nm, r'))) P
theorem ret_rd {c : List Ins} {l : Nat} {m m' : Ms} {F X : It} {nm : Nat} {rd : Rd} {g : Rs} {P : Ms → Prop} (h : Call1 c m F X (some (nm, rd)) g m')
    (k : ∀ G m2, VR c G g → m2.stack = m.stack → m2.at_ = m.at_ → m2.vars = m.vars → m2.frames = m.frames → RetR c l m2 nm G (rd.returned G) P) : Out c l m' P := by
  obtain ⟨x, e, hx, hs, ha, hc, hf⟩ := h
  have hk := k x ⟨m'.steps + 1, m.stack, x :: m'.sg, m'.sv, m.frames, ⟨m.at_, m.vars, F, X, some (nm, rd)⟩ :: m'.fg, m'.fv, m.at_, m.vars⟩ hx rfl rfl rfl rfl
  have hex : Ms.exec { m' with steps := m'.steps + 1, at_ := ((e + 1 : Nat) : Int) } (1000 + m'.steps) 14 0 = (match rd.returned x with
        | none => none
        | some (none, _) => some (stopIf (Ms.push ⟨m'.steps + 1, m.stack, x :: m'.sg, m'.sv, m.frames, ⟨m.at_, m.vars, F, X, some (nm, rd)⟩ :: m'.fg, m'.fv, m.at_, m.vars⟩ x))
        | some (some (f, a), r') => some (Ms.enter ⟨m'.steps + 1, m.stack, x :: m'.sg, m'.sv, m.frames, ⟨m.at_, m.vars, F, X, some (nm, rd)⟩ :: m'.fg, m'.fv, m.at_, m.vars⟩ f a (some (nm, r')))) := by
    simp only [Ms.exec, Ms.leave]
    rw [pop_mk hs]
    simp only [Ms.popF, hf, List.getLast?_append, List.getLast?_singleton, List.dropLast_concat, Option.some_or]
    rfl
  unfold RetR at hk
  match hr : rd.returned x with
  | none => rw [hr] at hk; exact hk.elim
  | some (none, r') =>
    rw [hr] at hk hex
    exact Out.step (p := e) ha hc hex hk
  | some (some (f, a), r') =>
    rw [hr] at hk hex
    exact Out.step (p := e) ha hc hex hk
theorem Back.of {c : List Ins} {m m2 m' : Ms} {r : Rs} (h : Back c m2 r m') (h1 : m2.stack = m.stack) (h2 : m2.at_ = m.at_) (h3 : m2.vars = m.vars) (h4 : m2.frames = m.frames) : Back c m r m' := by
  obtain ⟨x, a, b, d, e, f⟩ := h
  exact ⟨x, a, by rw [b, h1], by rw [d, h2], by rw [e, h3], by rw [f, h4]⟩
theorem OutR.mono {c : List Ins} {l : Nat} {r : Res} {P Q : Ms → Prop} (h : OutR c l r P) (k : ∀ m, P m → Q m) : OutR c l r Q := h.bind (fun m hm => Out.now (k m hm))
theorem rc_inv {f b r : Rs} {k : Nat} (h : Ev (.rc f b k k) r) : r = b := by
  cases h with
  | rcDone => rfl
  | rcStep h _ _ _ => omega
theorem fd_inv {f b r : Rs} (h : Ev (.fd f b []) r) : r = b := by
  cases h with
  | fdDone => rfl
/-- a value that is pushed behind the last round -/
theorem last_push {c : List Ins} {l : Nat} {m m2 : Ms} {x : It} {r : Rs} (hat : ∃ p : Nat, m.at_ = ((p : Nat) : Int)) (hx : VR c x r) (h1 : m2.stack = m.stack) (h2 : m2.at_ = m.at_) (h3 : m2.vars = m.vars) (h4 : m2.frames = m.frames) : OutR c l (stopIf (m2.push x)) (Back c m r) := by
  obtain ⟨p, hp⟩ := hat
  rw [stopIf_go (by simp only [Ms.push]; omega)]
  exact OutR.go ⟨x, hx, by simp only [Ms.push, h1], h2, h3, h4⟩
theorem means {c : List Ins} {l : Nat} {j : Jd} {r : Rs} (h : Ev j r) : Means c l j r := by
  induction h with
  | @var e i r hi =>
    rintro p q m ⟨h1, rfl⟩ hp hv
    obtain ⟨x, hx⟩ : ∃ x, m.vars[i]? = some x := ⟨_, List.getElem?_eq_getElem (by rw [hv.1]; exact (List.getElem?_eq_some_iff.1 hi).1)⟩
    refine Out.step hp h1 (by simp only [Ms.exec, hx]; rfl) ?_
    exact OutR.go ⟨x, hv.2 i x r hx hi, rfl, rfl, rfl, rfl⟩
  | @lam e s b =>
    rintro p q m ⟨⟨A, ee, h1, h2, h3⟩, rfl⟩ hp hv
    refine Out.step hp h1 (by simp only [Ms.exec]; rfl) ?_
    simp only [made]
    split
    · exact .inl rfl
    · exact OutR.go ⟨_, .fn h2 h3 hv.1 hv.2, rfl, rfl, rfl, rfl⟩
  | @app e f a g x r _ _ _ i1 i2 i3 =>
    rintro p q m ⟨m1, m2, t1, t2, t3, rfl⟩ hp hv
    refine (i1 p m1 m t1 hp hv).bind ?_
    rintro ma ⟨F, hF, sa, aa, va, fa⟩
    refine (i2 m1 m2 ma t2 aa (by rw [va]; exact hv)).bind ?_
    rintro mb ⟨X, hX, sb, ab, vb, fb⟩
    have hst : mb.stack = (m.stack ++ [F]) ++ [X] := by rw [sb, sa]
    refine Out.step ab t3 (r := Ms.enter { mb with steps := mb.steps + 1, at_ := ((m2 + 1 : Nat) : Int), stack := m.stack, sg := F :: X :: mb.sg } F X none) (by
      simp only [Ms.exec]
      rw [pop_mk hst]
      simp only
      rw [pop_mk rfl]) ?_
    refine (i3 _ F X none hF hX).bind ?_
    intro mc hc
    refine (ret_none ⟨_, rfl⟩ hc).bind ?_
    rintro md ⟨y, hy, h1, h2, h3, h4⟩
    exact Out.now ⟨y, hy, h1, h2, h3.trans (vb.trans va), h4.trans (fb.trans fa)⟩
  | zero =>
    rintro p q m ⟨h1, rfl⟩ hp hv
    refine Out.step hp h1 (by simp only [Ms.exec]; rfl) ?_
    exact OutR.go ⟨_, .num 0, rfl, rfl, rfl, rfl⟩
  | nil =>
    rintro p q m ⟨h1, rfl⟩ hp hv
    refine Out.step hp h1 (by simp only [Ms.exec]; rfl) ?_
    exact OutR.go ⟨_, .list [], rfl, rfl, rfl, rfl⟩
  | unit =>
    rintro p q m ⟨h1, rfl⟩ hp hv
    refine Out.step hp h1 (by simp only [Ms.exec]; rfl) ?_
    exact OutR.go ⟨_, .unit, rfl, rfl, rfl, rfl⟩
  | @succ e a n _ i1 =>
    rintro p q m ⟨m1, t1, t2, rfl⟩ hp hv
    refine (i1 p m1 m t1 hp hv).bind ?_
    rintro ma ⟨F, hF, sa, aa, va, fa⟩
    cases hF
    refine Out.step aa t2 (by
      simp only [Ms.exec]
      rw [pop_mk sa]) ?_
    exact OutR.go ⟨_, .num (n + 1), rfl, rfl, va, fa⟩
  | @fst e x a b _ i1 =>
    rintro p q m ⟨m1, t1, t2, rfl⟩ hp hv
    refine (i1 p m1 m t1 hp hv).bind ?_
    rintro ma ⟨F, hF, sa, aa, va, fa⟩
    cases hF with
    | @pair u v _ _ hu hv' =>
      refine Out.step aa t2 (by
        simp only [Ms.exec]
        rw [pop_mk sa]) ?_
      exact OutR.go ⟨_, hu, rfl, rfl, va, fa⟩
  | @snd e x a b _ i1 =>
    rintro p q m ⟨m1, t1, t2, rfl⟩ hp hv
    refine (i1 p m1 m t1 hp hv).bind ?_
    rintro ma ⟨F, hF, sa, aa, va, fa⟩
    cases hF with
    | @pair u v _ _ hu hv' =>
      refine Out.step aa t2 (by
        simp only [Ms.exec]
        rw [pop_mk sa]) ?_
      exact OutR.go ⟨_, hv', rfl, rfl, va, fa⟩
  | @cons e x y n zs _ _ i1 i2 =>
    rintro p q m ⟨m1, m2, t1, t2, t3, rfl⟩ hp hv
    refine (i1 p m1 m t1 hp hv).bind ?_
    rintro ma ⟨F, hF, sa, aa, va, fa⟩
    refine (i2 m1 m2 ma t2 aa (by rw [va]; exact hv)).bind ?_
    rintro mb ⟨X, hX, sb, ab, vb, fb⟩
    cases hF
    cases hX
    have hst : mb.stack = (m.stack ++ [.num n]) ++ [.list zs] := by rw [sb, sa]
    by_cases hl : 1024 ≤ zs.length
    · refine Out.step ab t3 (r := .err 4) (by
        simp only [Ms.exec]
        rw [pop_mk hst]
        simp only
        rw [pop_mk rfl]
        simp only
        rw [if_pos hl]) (.inl rfl)
    · refine Out.step ab t3 (by
        simp only [Ms.exec]
        rw [pop_mk hst]
        simp only
        rw [pop_mk rfl]
        simp only
        rw [if_neg hl]) ?_
      exact OutR.go ⟨_, .list _, rfl, rfl, vb.trans va, fb.trans fa⟩
  | @pair e x y a b _ _ i1 i2 =>
    rintro p q m ⟨m1, m2, t1, t2, t3, rfl⟩ hp hv
    refine (i1 p m1 m t1 hp hv).bind ?_
    rintro ma ⟨F, hF, sa, aa, va, fa⟩
    refine (i2 m1 m2 ma t2 aa (by rw [va]; exact hv)).bind ?_
    rintro mb ⟨X, hX, sb, ab, vb, fb⟩
    have hst : mb.stack = (m.stack ++ [F]) ++ [X] := by rw [sb, sa]
    refine Out.step ab t3 (r := made { mb with steps := mb.steps + 1, at_ := ((m2 + 1 : Nat) : Int), stack := m.stack, sg := F :: X :: mb.sg } (.pair F X)) (by
      simp only [Ms.exec]
      rw [pop_mk hst]
      simp only
      rw [pop_mk rfl]) ?_
    simp only [made]
    split
    · exact .inl rfl
    · exact OutR.go ⟨_, .pair hF hX, rfl, rfl, vb.trans va, fb.trans fa⟩
  | @ap b e x r _ i1 =>
    intro m F X rd hF hX
    cases hF with
    | @fn A ee vs _ _ h2 h3 h4 h5 =>
      simp only [Ms.enter]
      split
      · exact .inl rfl
      · refine Out.bind (i1 A ee _ h2 rfl (VRs.cons ⟨h4, h5⟩ hX)) ?_
        rintro m' ⟨y, hy, s1, a1, v1, f1⟩
        exact Out.now ⟨y, ee, hy, s1, a1, h3, f1⟩
  | @recn e s x y z b gb ge n r _ _ _ h4 i1 i2 i3 i4 =>
    rintro p q m ⟨k1, m1, m2, t1, t2, t3, t4, rfl⟩ hp hv
    refine (i1 p k1 m t1 hp hv).bind ?_
    rintro ma ⟨B, hB, sa, aa, va, fa⟩
    refine (i2 k1 m1 ma t2 aa (by rw [va]; exact hv)).bind ?_
    rintro mb ⟨F, hF, sb, ab, vb, fb⟩
    refine (i3 m1 m2 mb t3 ab (by rw [vb, va]; exact hv)).bind ?_
    rintro mc ⟨X, hX, sc, ac, vc, fc⟩
    cases hX
    have hst : mc.stack = ((m.stack ++ [B]) ++ [F]) ++ [.num n] := by rw [sc, sb, sa]
    have hF' := hF
    cases hF with
    | @fn A ee vs _ _ g1 g2 g3 g4 =>
      have hex : Ms.exec { mc with steps := mc.steps + 1, at_ := ((m2 + 1 : Nat) : Int) } (1000 + mc.steps) 6 0 = some (if n = 0 then .go (Ms.push ⟨mc.steps + 1, m.stack, B :: .fn A vs :: .num n :: mc.sg, mc.sv, mc.frames, mc.fg, mc.fv, ((m2 + 1 : Nat) : Int), mc.vars⟩ B)
          else Ms.enter ⟨mc.steps + 1, m.stack, B :: .fn A vs :: .num n :: mc.sg, mc.sv, mc.frames, mc.fg, mc.fv, ((m2 + 1 : Nat) : Int), mc.vars⟩ (.fn A vs) (.num 0) (some (1000 + mc.steps, ⟨.fn A vs, 0, none, n, B, [B]⟩))) := by
        simp only [Ms.exec, Ms.recursion]
        rw [pop_mk hst]
        simp only
        rw [pop_mk rfl]
        simp only
        rw [pop_mk rfl]
        simp only [rdOf, Rd.begin]
        split <;> rfl
      refine Out.step ac t4 hex ?_
      by_cases hn : n = 0
      · subst hn
        obtain rfl := rc_inv h4
        rw [if_pos rfl]
        exact OutR.go ⟨B, hB, rfl, rfl, vc.trans (vb.trans va), fc.trans (fb.trans fa)⟩
      · rw [if_neg hn]
        refine (i4 (by omega) _ _ _ B ⟨_, rfl⟩ hF' hB).mono ?_
        rintro md ⟨y, hy, e1, e2, e3, e4⟩
        exact ⟨y, hy, e1, e2, e3.trans (vc.trans (vb.trans va)), e4.trans (fc.trans (fb.trans fa))⟩
  | @fold e s x y z b gb ge zs r _ _ _ h4 i1 i2 i3 i4 =>
    rintro p q m ⟨k1, m1, m2, t1, t2, t3, t4, rfl⟩ hp hv
    refine (i1 p k1 m t1 hp hv).bind ?_
    rintro ma ⟨B, hB, sa, aa, va, fa⟩
    refine (i2 k1 m1 ma t2 aa (by rw [va]; exact hv)).bind ?_
    rintro mb ⟨F, hF, sb, ab, vb, fb⟩
    refine (i3 m1 m2 mb t3 ab (by rw [vb, va]; exact hv)).bind ?_
    rintro mc ⟨X, hX, sc, ac, vc, fc⟩
    cases hX
    have hst : mc.stack = ((m.stack ++ [B]) ++ [F]) ++ [.list zs] := by rw [sc, sb, sa]
    have hF' := hF
    cases hF with
    | @fn A ee vs _ _ g1 g2 g3 g4 =>
      have hlen := foldArgs_len zs
      cases hz : foldArgs zs with
      | nil =>
        rw [hz] at h4 hlen
        obtain rfl := fd_inv h4
        have hz0 : zs.length = 0 := by simpa using hlen.symm
        have hex : Ms.exec { mc with steps := mc.steps + 1, at_ := ((m2 + 1 : Nat) : Int) } (1000 + mc.steps) 9 0 = some (.go (Ms.push ⟨mc.steps + 1, m.stack, B :: .fn A vs :: .list zs :: mc.sg, mc.sv, mc.frames, mc.fg, mc.fv, ((m2 + 1 : Nat) : Int), mc.vars⟩ B)) := by
          simp only [Ms.exec, Ms.recursion]
          rw [pop_mk hst]
          simp only
          rw [pop_mk rfl]
          simp only
          rw [pop_mk rfl]
          simp only [rdOf]
          rw [if_pos hz0]
        refine Out.step ac t4 hex ?_
        exact OutR.go ⟨B, hB, rfl, rfl, vc.trans (vb.trans va), fc.trans (fb.trans fa)⟩
      | cons ht rest =>
        obtain ⟨h, t⟩ := ht
        have hz0 : ¬ zs.length = 0 := by rw [hz] at hlen; simp at hlen; omega
        have hg : (foldArgs zs)[0]? = some (h, t) := by rw [hz]; rfl
        have hex : Ms.exec { mc with steps := mc.steps + 1, at_ := ((m2 + 1 : Nat) : Int) } (1000 + mc.steps) 9 0 = some (Ms.enter ⟨mc.steps + 1, m.stack, B :: .fn A vs :: .list zs :: mc.sg, mc.sv, mc.frames, mc.fg, mc.fv, ((m2 + 1 : Nat) : Int), mc.vars⟩ (.fn A vs) (.num h) (some (1000 + mc.steps, ⟨.fn A vs, 0, some (foldArgs zs), zs.length, B, [.list t, B]⟩))) := by
          simp only [Ms.exec, Ms.recursion]
          rw [pop_mk hst]
          simp only
          rw [pop_mk rfl]
          simp only
          rw [pop_mk rfl]
          simp only [rdOf]
          rw [if_neg hz0]
          simp only [Rd.begin, hg]
        refine Out.step ac t4 hex ?_
        rw [← hlen]
        refine (i4 h t rest hz _ _ _ B _ 0 ⟨_, rfl⟩ hF' hB rfl).mono ?_
        rintro md ⟨y, hy, e1, e2, e3, e4⟩
        exact ⟨y, hy, e1, e2, e3.trans (vc.trans (vb.trans va)), e4.trans (fc.trans (fb.trans fa))⟩
  | rcDone =>
    intro h
    omega
  | @rcStep f b k n g b' r hk _ _ h3 i1 i2 i3 =>
    intro _ m nm F B hat hF hB
    refine (i1 m F (.num k) _ hF (.num k)).bind ?_
    intro m' hc
    refine ret_rd hc ?_
    intro G m2 hG s1 s2 s3 s4
    simp only [Rd.returned, RetR]
    refine (i2 m2 G B _ hG hB).bind ?_
    intro m3 hc2
    refine ret_rd hc2 ?_
    intro B' m4 hB' r1 r2 r3 r4
    simp only [Rd.returned]
    have hat2 : ∃ p : Nat, m2.at_ = ((p : Nat) : Int) := by rw [s2]; exact hat
    by_cases hn : k + 1 = n
    · rw [if_pos hn]
      subst hn
      obtain rfl := rc_inv h3
      simp only [RetR]
      exact (last_push hat2 hB' r1 r2 r3 r4).mono (fun _ h => h.of s1 s2 s3 s4)
    · rw [if_neg hn]
      simp only [Rd.begin, RetR]
      refine (i3 (by omega) m4 nm F B' (by rw [r2]; exact hat2) hF hB').mono ?_
      intro _ h
      exact (h.of r1 r2 r3 r4).of s1 s2 s3 s4
  | fdDone =>
    intro h t zs' e
    cases e
  | @fdStep f b h t zs g g' b' r _ _ _ h4 i1 i2 i3 i4 =>
    intro h' t' zs' e m nm F B all k hat hF hB hall
    cases e
    refine (i1 m F (.num h) _ hF (.num h)).bind ?_
    intro m' hc
    refine ret_rd hc ?_
    intro G m2 hG s1 s2 s3 s4
    simp only [Rd.returned, RetR]
    refine (i2 m2 G (.list t) _ hG (.list t)).bind ?_
    intro m3 hc2
    refine ret_rd hc2 ?_
    intro G' m4 hG' r1 r2 r3 r4
    simp only [Rd.returned, RetR]
    refine (i3 m4 G' B _ hG' hB).bind ?_
    intro m5 hc3
    refine ret_rd hc3 ?_
    intro B' m6 hB' u1 u2 u3 u4
    simp only [Rd.returned]
    have hat2 : ∃ p : Nat, m2.at_ = ((p : Nat) : Int) := by rw [s2]; exact hat
    have hat4 : ∃ p : Nat, m4.at_ = ((p : Nat) : Int) := by rw [r2]; exact hat2
    have hl := congrArg List.length hall
    simp only [List.length_drop, List.length_cons] at hl
    have hd : all.drop (k + 1) = zs := by
      have := congrArg (List.drop 1) hall
      simpa [List.drop_drop, Nat.add_comm] using this
    by_cases hn : k + 1 = all.length
    · rw [if_pos hn]
      have hz : zs = [] := by rw [← hd, hn]; simp
      subst hz
      obtain rfl := fd_inv h4
      simp only [RetR]
      exact (last_push hat4 hB' u1 u2 u3 u4).mono (fun _ h => (h.of r1 r2 r3 r4).of s1 s2 s3 s4)
    · rw [if_neg hn]
      cases zs with
      | nil => simp at hl; omega
      | cons ht rest =>
        obtain ⟨h2, t2⟩ := ht
        have hg : all[k + 1]? = some (h2, t2) := by
          have := congrArg (fun l => l[0]?) hd
          simpa using this
        simp only [Rd.begin, hg, RetR]
        refine (i4 h2 t2 rest rfl m6 nm F B' all (k + 1) (by rw [u2]; exact hat4) hF hB' hd).mono ?_
        intro _ h
        exact ((h.of u1 u2 u3 u4).of r1 r2 r3 r4).of s1 s2 s3 s4
end Go.Proofs.YtodjpfpmhjdhbaaGreatDoor
/- The evaluator of ref06: cells of results, and its call. -/
namespace Go.Proofs.YtodjpfpmhjdhbaaGreatDoor
open Go.Lg
set_option maxRecDepth 10000
set_option maxHeartbeats 4000000
def numsR (L : List Nat) : List (List PV) := L.map fun (n : Nat) => [.int n]
mutual
/-- the cells of a result: the number, the list, the pair, the body, the values of the variables (the last one first in Rs, last in Go) -/
def rsC : Rs → List PV
  | .num n => [.int n, .slice [], .slice [], .int 0, .int 0, .int 0, .slice [], .slice [], .slice []]
  | .list l => [.int 0, .slice (numsR l), .slice [], .int 0, .int 0, .int 0, .slice [], .slice [], .slice []]
  | .unit => [.int 0, .slice [], .slice [], .int 0, .int 0, .int 0, .slice [], .slice [], .slice []]
  | .pair a b => [.int 0, .slice [], .slice [rsC a, rsC b], .int 0, .int 0, .int 0, .slice [], .slice [], .slice []]
  | .clo b e => [.int 0, .slice [], .slice [], .int b.kind, .int b.idx, .int b.ty.kind, .slice (b.ty.args.map Ty.cells), .slice (b.args.map Tm.cells), .slice (rsE e)]
/-- the values of variables, in Go's order -/
def rsE : List Rs → List (List PV)
  | [] => []
  | r :: e => rsE e ++ [rsC r]
end
theorem rsE_eq (e : List Rs) : rsE e = (e.map rsC).reverse := by
  induction e with
  | nil => rfl
  | cons r e ih => simp [rsE, ih]
theorem rsE_len (e : List Rs) : (rsE e).length = e.length := by simp [rsE_eq]
theorem rsC_len (r : Rs) : (rsC r).length = 9 := by cases r <;> rfl
theorem rsE_all (e : List Rs) : ∀ y ∈ rsE e, y.length = 9 := by
  intro y hy
  rw [rsE_eq, List.mem_reverse, List.mem_map] at hy
  obtain ⟨r, _, rfl⟩ := hy
  exact rsC_len r
theorem rsC_shape (r : Rs) : ∃ n l p k i tk ta bs e, rsC r = [.int n, .slice l, .slice p, .int k, .int i, .int tk, .slice ta, .slice bs, .slice e] := by
  cases r <;> exact ⟨_, _, _, _, _, _, _, _, _, rfl⟩
def mc (used most : Nat) (out : Bool) : Ob := .box [.pv (.int used), .pv (.int most), .pv (.bool out)]
/-- a call of a closure evaluates its body -/
theorem call_of (b : Tm) (e : List Rs) (x : Rs) (y : List PV) (u u' most : Nat) (out : Bool) (he : e.length ≤ 100000) (hy : ∃ r, y = rsC r) (h : AC Tryz.prog gl 51 [.loc 970 0, .pv (.agg b.cells), .pv (.slice (rsE (x :: e)))] [(970, mc u most false)] (.ret (.pv (.agg y))) [(970, mc u' most out)]) :
    AC Tryz.prog gl 52 [.loc 970 0, .pv (.agg (rsC (.clo b e))), .pv (.agg (rsC x))] [(970, mc u most false)] (.ret (.pv (.agg y))) [(970, mc u' most out)] := by
  rw [Tm.cells_eq] at h
  simp only [rsE, rsC] at h ⊢
  have hle := rsE_len e
  have hal := rsE_all e
  obtain ⟨n1, l1, p1, k1, i1, tk1, ta1, bs1, e1, ex⟩ := rsC_shape x
  obtain ⟨r, rfl⟩ := hy
  obtain ⟨n2, l2, p2, k2, i2, tk2, ta2, bs2, e2, er⟩ := rsC_shape r
  rw [ex] at h ⊢
  rw [er] at h ⊢
  unfold mc at *
  generalize rsE e = ev at *
  have hlb : ev.length ≤ 100000 := by omega
  generalize b.ty.args.map Ty.cells = ta at *
  generalize b.args.map Tm.cells = bs at *
  clear ex er
  refine body [] Tryz.func52 Tryz.ntmps52 ?_
  refine gg ?_
  refine go ?_ (hc := by simp only [buildC, and_true, true_and, implies_true, true_implies, and_self]; exact ⟨hal, by unfold maxLen; omega, by omega⟩)
  refine gg ?_
  refine call h ?_
  refine gg ?_
  refine ⟨by rfl, ?_⟩
  refine gg ?_
  exact ⟨by simp [retIs, resV, resL, resOne, mkTup, getS, getO, rdV, mkAgg, unL, V.un, TI.isAgg, XX_T, tt109, Tryz.f52], by simp [subO, getO, tt109, Tryz.f52]⟩
end Go.Proofs.YtodjpfpmhjdhbaaGreatDoor
