/- Part of the proof of RunLimits and RunPairs: the machine and its programs, plainly; no conditions. -/
import Derived.Test.YtodjpfpmhjdhbaaDoorC8
import Derived.Test.YtodjpfpmhjdhbaaDoorA4
import Derived.Test.YtodjpfpmhjdhbaaDoorB1
set_option linter.unusedVariables false
set_option linter.unusedSimpArgs false
set_option linter.unusedSectionVars false
/- Typed code does not get stuck. -/
namespace Go.Proofs.YtodjpfpmhjdhbaaDoor
open Go.Lg
/-- the block of a term lies in the code from p to q -/
def TA (c : List Ins) : Tm → Nat → Nat → Prop
  | .var i, p, q => c[p]? = some (1, i) ∧ q = p + 1
  | .lam _ b, p, q => (∃ A e, c[p]? = some (2, A) ∧ TA c b A e ∧ c[e]? = some (14, 0)) ∧ q = p + 1
  | .app f a, p, q => ∃ m n, TA c f p m ∧ TA c a m n ∧ c[n]? = some (3, 0) ∧ q = n + 1
  | .zero, p, q => c[p]? = some (4, 0) ∧ q = p + 1
  | .succ a, p, q => ∃ m, TA c a p m ∧ c[m]? = some (5, 0) ∧ q = m + 1
  | .recn _ x y z, p, q => ∃ k m n, TA c x p k ∧ TA c y k m ∧ TA c z m n ∧ c[n]? = some (6, 0) ∧ q = n + 1
  | .nil, p, q => c[p]? = some (7, 0) ∧ q = p + 1
  | .cons f a, p, q => ∃ m n, TA c f p m ∧ TA c a m n ∧ c[n]? = some (8, 0) ∧ q = n + 1
  | .fold _ x y z, p, q => ∃ k m n, TA c x p k ∧ TA c y k m ∧ TA c z m n ∧ c[n]? = some (9, 0) ∧ q = n + 1
  | .pair f a, p, q => ∃ m n, TA c f p m ∧ TA c a m n ∧ c[n]? = some (10, 0) ∧ q = n + 1
  | .fst a, p, q => ∃ m, TA c a p m ∧ c[m]? = some (11, 0) ∧ q = m + 1
  | .snd a, p, q => ∃ m, TA c a p m ∧ c[m]? = some (12, 0) ∧ q = m + 1
  | .unit, p, q => c[p]? = some (13, 0) ∧ q = p + 1
/-- typed code: in a context (variable 0 first), from a place, with types on the stack (the top first), the block returns a type -/
inductive CT (c : List Ins) : List Ty → Nat → List Ty → Ty → Prop where
  | ret {g p t} : c[p]? = some (14, 0) → CT c g p [t] t
  | var {g p s r i t} : c[p]? = some (1, i) → g[i]? = some t → CT c g (p + 1) (t :: s) r → CT c g p s r
  | fn {g p s r A a b} : c[p]? = some (2, A) → CT c (a :: g) A [] b → CT c g (p + 1) (.fn a b :: s) r → CT c g p s r
  | app {g p s r a b} : c[p]? = some (3, 0) → CT c g (p + 1) (b :: s) r → CT c g p (a :: .fn a b :: s) r
  | zero {g p s r} : c[p]? = some (4, 0) → CT c g (p + 1) (.nat :: s) r → CT c g p s r
  | succ {g p s r} : c[p]? = some (5, 0) → CT c g (p + 1) (.nat :: s) r → CT c g p (.nat :: s) r
  | recn {g p s r t} : c[p]? = some (6, 0) → CT c g (p + 1) (t :: s) r → CT c g p (.nat :: .fn .nat (.fn t t) :: t :: s) r
  | nil {g p s r} : c[p]? = some (7, 0) → CT c g (p + 1) (.list :: s) r → CT c g p s r
  | cons {g p s r} : c[p]? = some (8, 0) → CT c g (p + 1) (.list :: s) r → CT c g p (.list :: .nat :: s) r
  | fold {g p s r t} : c[p]? = some (9, 0) → CT c g (p + 1) (t :: s) r → CT c g p (.list :: .fn .nat (.fn .list (.fn t t)) :: t :: s) r
  | pair {g p s r a b} : c[p]? = some (10, 0) → CT c g (p + 1) (.pair a b :: s) r → CT c g p (b :: a :: s) r
  | fst {g p s r a b} : c[p]? = some (11, 0) → CT c g (p + 1) (a :: s) r → CT c g p (.pair a b :: s) r
  | snd {g p s r a b} : c[p]? = some (12, 0) → CT c g (p + 1) (b :: s) r → CT c g p (.pair a b :: s) r
  | unit {g p s r} : c[p]? = some (13, 0) → CT c g (p + 1) (.unit :: s) r → CT c g p s r
theorem TA_CT {c : List Ins} {g : List Ty} {t : Tm} {τ : Ty} (h : HasTy g t τ) : ∀ {p q : Nat} {s : List Ty} {r : Ty}, TA c t p q → CT c g.reverse q (τ :: s) r → CT c g.reverse p s r := by
  induction h with
  | var hi => rintro p q s r ⟨h1, rfl⟩ h; exact .var h1 hi h
  | lam hb ih =>
    rintro p q s r ⟨⟨A, e, h1, h2, h3⟩, rfl⟩ h
    refine .fn h1 ?_ h
    have := ih (s := []) h2 (.ret h3)
    simpa using this
  | app _ _ i1 i2 => rintro p q s r ⟨m, n, h1, h2, h3, rfl⟩ h; exact i1 h1 (i2 h2 (.app h3 h))
  | zero => rintro p q s r ⟨h1, rfl⟩ h; exact .zero h1 h
  | succ _ i => rintro p q s r ⟨m, h1, h2, rfl⟩ h; exact i h1 (.succ h2 h)
  | recn _ _ _ i1 i2 i3 => rintro p q s r ⟨k, m, n, h1, h2, h3, h4, rfl⟩ h; exact i1 h1 (i2 h2 (i3 h3 (.recn h4 h)))
  | nil => rintro p q s r ⟨h1, rfl⟩ h; exact .nil h1 h
  | cons _ _ i1 i2 => rintro p q s r ⟨m, n, h1, h2, h3, rfl⟩ h; exact i1 h1 (i2 h2 (.cons h3 h))
  | fold _ _ _ i1 i2 i3 => rintro p q s r ⟨k, m, n, h1, h2, h3, h4, rfl⟩ h; exact i1 h1 (i2 h2 (i3 h3 (.fold h4 h)))
  | pair _ _ i1 i2 => rintro p q s r ⟨m, n, h1, h2, h3, rfl⟩ h; exact i1 h1 (i2 h2 (.pair h3 h))
  | fst _ i => rintro p q s r ⟨m, h1, h2, rfl⟩ h; exact i h1 (.fst h2 h)
  | snd _ i => rintro p q s r ⟨m, h1, h2, rfl⟩ h; exact i h1 (.snd h2 h)
  | unit => rintro p q s r ⟨h1, rfl⟩ h; exact .unit h1 h
mutual
inductive VT (c : List Ins) : It → Ty → Prop where
  | num {n} : VT c (.num n) .nat
  | list {l} : VT c (.list l) .list
  | unit : VT c .unit .unit
  | pair {a b s t} : VT c a s → VT c b t → VT c (.pair a b) (.pair s t)
  | fn {p vs g a b} : CT c (a :: g) p [] b → VTs c vs g → VT c (.fn p vs) (.fn a b)
inductive VTs (c : List Ins) : List It → List Ty → Prop where
  | nil : VTs c [] []
  | cons {x t xs ts} : VT c x t → VTs c xs ts → VTs c (x :: xs) (t :: ts)
end
theorem VTs.get {c : List Ins} : ∀ {xs : List It} {ts : List Ty}, VTs c xs ts → ∀ {i : Nat} {t : Ty}, ts[i]? = some t → ∃ x, xs[i]? = some x ∧ VT c x t
  | _, _, .nil, i, t, h => by simp at h
  | _, _, .cons hx hr, 0, t, h => by simp at h; subst h; exact ⟨_, rfl, hx⟩
  | _, _, .cons hx hr, i + 1, t, h => by simpa using hr.get (by simpa using h)
/-- the calls of a round that are left: a value of the first type leads to one of the last -/
inductive LT (c : List Ins) : List It → Ty → Ty → Prop where
  | nil {t} : LT c [] t t
  | cons {x l a b t} : VT c x a → LT c l b t → LT c (x :: l) (.fn a b) t
inductive RT (c : List Ins) : Rd → Ty → Ty → Prop where
  | nat {r ρ t} : r.args = none → VT c r.f (.fn .nat (.fn t t)) → r.next < r.count → LT c r.left ρ t → RT c r ρ t
  | list {r l ρ t} : r.args = some l → l.length = r.count → VT c r.f (.fn .nat (.fn .list (.fn t t))) → r.next < r.count → LT c r.left ρ t → RT c r ρ t
/-- frames (the top first) over a stack: what they do with a value of a type -/
inductive FT (c : List Ins) : List Fr → List It → Ty → Ty → Prop where
  | nil {t} : FT c [] [] t t
  | plain {fr rest lo seg g s p ρ ρ' t} : fr.rd = none → fr.at_ = ((p : Nat) : Int) → VTs c seg.reverse s → VTs c fr.vars g → CT c g p (ρ :: s) ρ' → FT c rest lo ρ' t → FT c (fr :: rest) (lo ++ seg) ρ t
  | rds {fr rest lo seg g s p ρ ρ' t n r u} : fr.rd = some (n, r) → RT c r ρ u → fr.at_ = ((p : Nat) : Int) → VTs c seg.reverse s → VTs c fr.vars g → CT c g p (u :: s) ρ' → FT c rest lo ρ' t → FT c (fr :: rest) (lo ++ seg) ρ t
structure WT (c : List Ins) (m : Ms) (t : Ty) : Prop where
  ok : ∃ g p s ρ lo seg, m.at_ = ((p : Nat) : Int) ∧ m.stack = lo ++ seg ∧ VTs c seg.reverse s ∧ VTs c m.vars g ∧ CT c g p s ρ ∧ FT c m.frames.reverse lo ρ t
theorem pop_eq {m : Ms} {s : List It} {x : It} (h : m.stack = s ++ [x]) : m.pop = some (x, { m with stack := s, sg := x :: m.sg }) := by
  simp [Ms.pop, h]
/-- what can come of a step of typed code -/
def Fine (c : List Ins) (t : Ty) : Option Res → Prop
  | some (.go m) => WT c m t
  | some (.stop m) => ∃ x, m.stack = [x] ∧ VT c x t ∧ m.frames = []
  | some (.err e) => e = 4 ∨ e = 5
  | none => False
theorem seg_top {c : List Ins} {seg : List It} {a : Ty} {s : List Ty} (h : VTs c seg.reverse (a :: s)) : ∃ sg x, seg = sg ++ [x] ∧ VT c x a ∧ VTs c sg.reverse s := by
  generalize hr : seg.reverse = l at h
  cases h with
  | cons hx hs =>
    rename_i x xs
    refine ⟨xs.reverse, x, ?_, hx, by simpa using hs⟩
    have := congrArg List.reverse hr
    simpa using this
theorem seg_push {c : List Ins} {seg : List It} {x : It} {a : Ty} {s : List Ty} (hx : VT c x a) (h : VTs c seg.reverse s) : VTs c (seg ++ [x]).reverse (a :: s) := by
  simp only [List.reverse_append, List.reverse_cons, List.reverse_nil, List.nil_append, List.cons_append]
  exact .cons hx h
theorem VT.isFn {c : List Ins} {x : It} {a b : Ty} (h : VT c x (.fn a b)) : ∃ p vs g, x = .fn p vs ∧ CT c (a :: g) p [] b ∧ VTs c vs g := by
  cases h with
  | fn h1 h2 => exact ⟨_, _, _, rfl, h1, h2⟩
/-- a function is entered, and something goes on behind it -/
theorem enter_fine {c : List Ins} {m : Ms} {f a : It} {rd : Option (Nat × Rd)} {α ρ t : Ty} (hf : VT c f (.fn α ρ)) (ha : VT c a α) (hF : ∀ fr : Fr, fr.at_ = m.at_ → fr.vars = m.vars → fr.rd = rd → FT c (fr :: m.frames.reverse) m.stack ρ t) : Fine c t (some (m.enter f a rd)) := by
  obtain ⟨p, vs, g, rfl, hc, hv⟩ := hf.isFn
  unfold Ms.enter
  simp only
  split
  · exact .inl rfl
  · refine ⟨α :: g, p, [], ρ, m.stack, [], rfl, by simp, .nil, .cons ha hv, hc, ?_⟩
    simp only [List.reverse_append, List.reverse_cons, List.reverse_nil, List.nil_append, List.cons_append]
    exact hF _ rfl rfl rfl
end Go.Proofs.YtodjpfpmhjdhbaaDoor
/- One step of typed code. -/
namespace Go.Proofs.YtodjpfpmhjdhbaaDoor
open Go.Lg
theorem VTs.nil_inv {c : List Ins} {l : List It} (h : VTs c l []) : l = [] := by cases h; rfl
theorem wt_push {c : List Ins} {m : Ms} {t : Ty} {g : List Ty} {p : Nat} {s : List Ty} {ρ a : Ty} {lo seg : List It} {x : It} (h1 : m.at_ = ((p : Nat) : Int)) (h2 : m.stack = lo ++ seg) (h3 : VTs c seg.reverse s) (h4 : VTs c m.vars g) (h5 : CT c g p (a :: s) ρ)
    (h6 : FT c m.frames.reverse lo ρ t) (hx : VT c x a) : WT c (m.push x) t :=
  ⟨g, p, a :: s, ρ, lo, seg ++ [x], h1, by simp [Ms.push, h2], seg_push hx h3, h4, h5, h6⟩
theorem made_fine {c : List Ins} {m : Ms} {t : Ty} {g : List Ty} {p : Nat} {s : List Ty} {ρ a : Ty} {lo seg : List It} {x : It} (h1 : m.at_ = ((p : Nat) : Int)) (h2 : m.stack = lo ++ seg) (h3 : VTs c seg.reverse s) (h4 : VTs c m.vars g) (h5 : CT c g p (a :: s) ρ)
    (h6 : FT c m.frames.reverse lo ρ t) (hx : VT c x a) : Fine c t (some (made m x)) := by
  unfold made
  split
  · exact .inl rfl
  · exact wt_push h1 h2 h3 h4 h5 h6 hx
/-- the next call of the rounds -/
theorem begin_fine {c : List Ins} {r : Rd} {u : Ty} (hb : VT c r.result u) (h : (r.args = none ∧ VT c r.f (.fn .nat (.fn u u)) ∧ r.next < r.count) ∨ ∃ l, r.args = some l ∧ l.length = r.count ∧ VT c r.f (.fn .nat (.fn .list (.fn u u))) ∧ r.next < r.count) :
    ∃ f a r' ρ, r.begin = some (f, a, r') ∧ VT c f (.fn .nat ρ) ∧ VT c a .nat ∧ RT c r' ρ u := by
  rcases h with ⟨h1, h2, h3⟩ | ⟨l, h1, h2, h3, h4⟩
  · refine ⟨r.f, .num r.next, { r with left := [r.result] }, .fn u u, by simp [Rd.begin, h1], h2, .num, ?_⟩
    exact .nat h1 h2 h3 (.cons hb .nil)
  · obtain ⟨q, hq⟩ : ∃ q, l[r.next]? = some q := ⟨_, List.getElem?_eq_getElem (by omega)⟩
    obtain ⟨hd, tl⟩ := q
    refine ⟨r.f, .num hd, { r with left := [.list tl, r.result] }, .fn .list (.fn u u), by simp [Rd.begin, h1, hq], h3, .num, ?_⟩
    exact .list h1 h2 h3 h4 (.cons .list (.cons hb .nil))
theorem returned_fine {c : List Ins} {r : Rd} {ρ u : Ty} {x : It} (h : RT c r ρ u) (hx : VT c x ρ) :
    (∃ r', r.returned x = some (none, r') ∧ VT c x u) ∨ ∃ f a r' α ρ', r.returned x = some (some (f, a), r') ∧ VT c f (.fn α ρ') ∧ VT c a α ∧ RT c r' ρ' u := by
  have key : LT c r.left ρ u → ((r.args = none ∧ VT c r.f (.fn .nat (.fn u u)) ∧ r.next < r.count) ∨ ∃ l, r.args = some l ∧ l.length = r.count ∧ VT c r.f (.fn .nat (.fn .list (.fn u u))) ∧ r.next < r.count) →
      (∃ r', r.returned x = some (none, r') ∧ VT c x u) ∨ ∃ f a r' α ρ', r.returned x = some (some (f, a), r') ∧ VT c f (.fn α ρ') ∧ VT c a α ∧ RT c r' ρ' u := by
    intro hl hor
    generalize he : r.left = left at hl
    cases hl with
    | nil =>
      by_cases hn : r.next + 1 = r.count
      · left
        exact ⟨{ r with result := x, next := r.next + 1 }, by simp [Rd.returned, he, hn], hx⟩
      · right
        obtain ⟨f, a, r', ρ', h1, h2, h3, h4⟩ := begin_fine (r := { r with result := x, next := r.next + 1 }) (u := ρ) hx (by
          rcases hor with ⟨a1, a2, a3⟩ | ⟨l, a1, a2, a3, a4⟩
          · exact .inl ⟨a1, a2, by simp only; omega⟩
          · exact .inr ⟨l, a1, a2, a3, by simp only; omega⟩)
        rw [he] at h1
        exact ⟨f, a, r', .nat, ρ', by simp [Rd.returned, he, hn, h1], h2, h3, h4⟩
    | cons ha hl =>
      rename_i y l α β
      right
      refine ⟨x, y, { r with left := l }, α, β, by simp [Rd.returned, he], hx, ha, ?_⟩
      rcases hor with ⟨a1, a2, a3⟩ | ⟨l', a1, a2, a3, a4⟩
      · exact .nat a1 a2 a3 hl
      · exact .list a1 a2 a3 a4 hl
  cases h with
  | nat a1 a2 a3 a4 => exact key a4 (.inl ⟨a1, a2, a3⟩)
  | list a1 a2 a3 a4 a5 => exact key a5 (.inr ⟨_, a1, a2, a3, a4⟩)
theorem leave_fine {c : List Ins} {m : Ms} {t ρ : Ty} {lo : List It} {x : It} (hs : m.stack = lo ++ [x]) (hx : VT c x ρ) (hF : FT c m.frames.reverse lo ρ t) : Fine c t m.leave := by
  unfold Ms.leave
  rw [pop_eq hs]
  simp only
  generalize hr : m.frames.reverse = fr at hF
  have hfr : m.frames = fr.reverse := by rw [← hr]; simp
  cases hF with
  | nil =>
    simp only [Ms.popF, hfr, List.reverse_nil, List.getLast?_nil]
    exact ⟨x, by simp [Ms.push], hx, by simp [Ms.push, hfr]⟩
  | plain h1 h2 h3 h4 h5 h6 =>
    rename_i fr rest lo seg g s p ρ'
    simp only [Ms.popF, hfr, List.reverse_cons, List.getLast?_append, List.getLast?_singleton, Option.some_or, List.dropLast_concat, h1]
    have : (0 : Int) ≤ fr.at_ := by rw [h2]; omega
    simp only [stopIf, Ms.push, this, if_true]
    exact wt_push (m := { m with stack := lo ++ seg, sg := x :: m.sg, frames := rest.reverse, fg := fr :: m.fg, at_ := fr.at_, vars := fr.vars }) h2 rfl h3 h4 h5 (by simpa using h6) hx
  | rds h1 h2 h3 h4 h5 h6 h7 =>
    rename_i fr rest lo seg g s p ρ' n r u
    simp only [Ms.popF, hfr, List.reverse_cons, List.getLast?_append, List.getLast?_singleton, Option.some_or, List.dropLast_concat, h1]
    have : (0 : Int) ≤ fr.at_ := by rw [h3]; omega
    rcases returned_fine h2 hx with ⟨r', hr', hxu⟩ | ⟨f, a, r', α, ρ'', hr', hf, ha, hR⟩
    · simp only [hr', stopIf, Ms.push, this, if_true]
      exact wt_push (m := { m with stack := lo ++ seg, sg := x :: m.sg, frames := rest.reverse, fg := fr :: m.fg, at_ := fr.at_, vars := fr.vars }) h3 rfl h4 h5 h6 (by simpa using h7) hxu
    · simp only [hr']
      refine enter_fine hf ha ?_
      intro fr' e1 e2 e3
      simp only at e1 e2
      rw [List.reverse_reverse]
      exact .rds e3 hR (e1.trans h3) h4 (e2 ▸ h5) h6 h7
theorem recursion_fine {c : List Ins} {m : Ms} {t u ρ : Ty} {lo sg : List It} {x f b : It} {g : List Ty} {s : List Ty} {p n : Nat} {list : Bool} (h1 : m.at_ = ((p : Nat) : Int)) (hs : m.stack = lo ++ (sg ++ [b, f, x])) (hb : VT c b u)
    (hx : (list = false ∧ VT c x .nat ∧ VT c f (.fn .nat (.fn u u))) ∨ (list = true ∧ VT c x .list ∧ VT c f (.fn .nat (.fn .list (.fn u u))))) (h3 : VTs c sg.reverse s) (h4 : VTs c m.vars g) (h5 : CT c g p (u :: s) ρ) (h6 : FT c m.frames.reverse lo ρ t) : Fine c t (m.recursion n list) := by
  have q1 : m.stack = (lo ++ sg ++ [b, f]) ++ [x] := by simp [hs]
  unfold Ms.recursion
  rw [pop_eq q1]
  simp only
  rw [pop_eq (m := { m with stack := lo ++ sg ++ [b, f], sg := x :: m.sg }) (s := lo ++ sg ++ [b]) (x := f) (by simp)]
  simp only
  rw [pop_eq (m := { m with stack := lo ++ sg ++ [b], sg := f :: x :: m.sg }) (s := lo ++ sg) (x := b) (by simp)]
  simp only
  have hfn : ∃ p' vs, f = .fn p' vs := by
    rcases hx with ⟨_, _, h⟩ | ⟨_, _, h⟩
    · obtain ⟨p', vs, _, e, _⟩ := h.isFn; exact ⟨p', vs, e⟩
    · obtain ⟨p', vs, _, e, _⟩ := h.isFn; exact ⟨p', vs, e⟩
  obtain ⟨p', vs, rfl⟩ := hfn
  simp only
  have key : ∀ r : Rd, rdOf (.fn p' vs) b list x = some r → r.result = b → r.next = 0 → ((r.args = none ∧ VT c r.f (.fn .nat (.fn u u))) ∨ ∃ l, r.args = some l ∧ l.length = r.count ∧ VT c r.f (.fn .nat (.fn .list (.fn u u)))) →
      Fine c t (match rdOf (.fn p' vs) b list x with
        | none => some (.err 44)
        | some r => if r.count = 0 then some (.go (Ms.push { m with stack := lo ++ sg, sg := b :: .fn p' vs :: x :: m.sg } b))
          else match r.begin with
            | some (g, a, r') => some (Ms.enter { m with stack := lo ++ sg, sg := b :: .fn p' vs :: x :: m.sg } g a (some (n, r')))
            | none => none) := by
    intro r hr hres hnext hor
    rw [hr]
    simp only
    split
    · exact wt_push (m := { m with stack := lo ++ sg, sg := b :: .fn p' vs :: x :: m.sg }) h1 rfl h3 h4 h5 h6 hb
    · rename_i hc
      obtain ⟨f', a, r', ρ', e1, e2, e3, e4⟩ := begin_fine (r := r) (u := u) (by rw [hres]; exact hb) (by
        rcases hor with ⟨a1, a2⟩ | ⟨l, a1, a2, a3⟩
        · exact .inl ⟨a1, a2, by omega⟩
        · exact .inr ⟨l, a1, a2, a3, by omega⟩)
      rw [e1]
      simp only
      refine enter_fine e2 e3 ?_
      intro fr' k1 k2 k3
      simp only at k1 k2
      exact .rds k3 e4 (k1.trans h1) h3 (k2 ▸ h4) h5 h6
  rcases hx with ⟨rfl, hx, hf⟩ | ⟨rfl, hx, hf⟩
  · cases hx with
    | num => exact key _ rfl rfl rfl (.inl ⟨rfl, hf⟩)
  · cases hx with
    | list => exact key _ rfl rfl rfl (.inr ⟨_, rfl, foldArgs_len _, hf⟩)
theorem step_fine {c : List Ins} {m : Ms} {t : Ty} (limit n : Nat) (h : WT c m t) : Fine c t (m.step c limit n) := by
  obtain ⟨g, p, s, ρ, lo, seg, h1, h2, h3, h4, h5, h6⟩ := h.ok
  unfold Ms.step
  split
  · exact .inr rfl
  rw [if_neg (by rw [h1]; omega), h1, Int.toNat_natCast]
  have hp1 : ((p : Nat) : Int) + 1 = ((p + 1 : Nat) : Int) := by omega
  rw [hp1]
  generalize hm1 : ({ m with steps := m.steps + 1, at_ := ((p + 1 : Nat) : Int) } : Ms) = m1
  have k1 : m1.at_ = ((p + 1 : Nat) : Int) := by rw [← hm1]
  have k2 : m1.stack = lo ++ seg := by rw [← hm1]; exact h2
  have k4 : VTs c m1.vars g := by rw [← hm1]; exact h4
  have k6 : FT c m1.frames.reverse lo ρ t := by rw [← hm1]; exact h6
  have topop : ∀ {sg : List It} {x : It}, seg = sg ++ [x] → m1.stack = (lo ++ sg) ++ [x] := by intro sg x e; rw [k2, e]; simp
  cases h5 with
  | ret hc =>
    rw [hc]
    obtain ⟨sg, x, rfl, hx, hs⟩ := seg_top h3
    have : sg = [] := by have := hs.nil_inv; simpa using this
    subst this
    exact leave_fine (by simpa using k2) hx k6
  | var hc hi hn =>
    rw [hc]
    obtain ⟨x, hx, hv⟩ := k4.get hi
    simp only [Ms.exec, hx]
    exact wt_push k1 k2 h3 k4 hn k6 hv
  | fn hc hb hn =>
    rw [hc]
    exact made_fine k1 k2 h3 k4 hn k6 (.fn hb k4)
  | app hc hn =>
    rw [hc]
    obtain ⟨sg, a, rfl, ha, hs⟩ := seg_top h3
    obtain ⟨sg, f, rfl, hf, hs⟩ := seg_top hs
    simp only [Ms.exec]
    rw [pop_eq (topop rfl)]
    simp only
    rw [pop_eq (m := { m1 with stack := lo ++ (sg ++ [f]), sg := a :: m1.sg }) (s := lo ++ sg) (x := f) (by simp)]
    simp only
    refine enter_fine hf ha ?_
    intro fr e1 e2 e3
    exact .plain e3 (e1.trans k1) hs (e2 ▸ k4) hn k6
  | zero hc hn => rw [hc]; exact wt_push k1 k2 h3 k4 hn k6 .num
  | succ hc hn =>
    rw [hc]
    obtain ⟨sg, a, rfl, ha, hs⟩ := seg_top h3
    simp only [Ms.exec]
    rw [pop_eq (topop rfl)]
    cases ha with
    | num => exact wt_push (m := { m1 with stack := lo ++ sg, sg := _ :: m1.sg }) k1 rfl hs k4 hn k6 .num
  | recn hc hn =>
    rw [hc]
    obtain ⟨sg, x, rfl, hx, hs⟩ := seg_top h3
    obtain ⟨sg, f, rfl, hf, hs⟩ := seg_top hs
    obtain ⟨sg, b, rfl, hb, hs⟩ := seg_top hs
    exact recursion_fine (list := false) k1 (by rw [k2]; simp) hb (.inl ⟨rfl, hx, hf⟩) hs k4 hn k6
  | nil hc hn => rw [hc]; exact wt_push k1 k2 h3 k4 hn k6 .list
  | cons hc hn =>
    rw [hc]
    obtain ⟨sg, a, rfl, ha, hs⟩ := seg_top h3
    obtain ⟨sg, f, rfl, hf, hs2⟩ := seg_top hs
    clear hs
    simp only [Ms.exec]
    rw [pop_eq (topop rfl)]
    simp only
    rw [pop_eq (m := { m1 with stack := lo ++ (sg ++ [f]), sg := a :: m1.sg }) (s := lo ++ sg) (x := f) (by simp)]
    simp only
    cases ha with
    | list =>
      cases hf with
      | num =>
        simp only
        split
        · exact .inl rfl
        · exact wt_push (m := { m1 with stack := lo ++ sg, sg := _ :: _ :: m1.sg }) k1 rfl hs2 k4 hn k6 .list
  | fold hc hn =>
    rw [hc]
    obtain ⟨sg, x, rfl, hx, hs⟩ := seg_top h3
    obtain ⟨sg, f, rfl, hf, hs⟩ := seg_top hs
    obtain ⟨sg, b, rfl, hb, hs⟩ := seg_top hs
    exact recursion_fine (list := true) k1 (by rw [k2]; simp) hb (.inr ⟨rfl, hx, hf⟩) hs k4 hn k6
  | pair hc hn =>
    rw [hc]
    obtain ⟨sg, b, rfl, hb, hs⟩ := seg_top h3
    obtain ⟨sg, a, rfl, ha, hs⟩ := seg_top hs
    simp only [Ms.exec]
    rw [pop_eq (topop rfl)]
    simp only
    rw [pop_eq (m := { m1 with stack := lo ++ (sg ++ [a]), sg := b :: m1.sg }) (s := lo ++ sg) (x := a) (by simp)]
    simp only
    exact made_fine (m := { m1 with stack := lo ++ sg, sg := a :: b :: m1.sg }) k1 rfl hs k4 hn k6 (.pair ha hb)
  | fst hc hn =>
    rw [hc]
    obtain ⟨sg, b, rfl, hb, hs⟩ := seg_top h3
    simp only [Ms.exec]
    rw [pop_eq (topop rfl)]
    cases hb with
    | pair ha hb => exact wt_push (m := { m1 with stack := lo ++ sg, sg := _ :: m1.sg }) k1 rfl hs k4 hn k6 ha
  | snd hc hn =>
    rw [hc]
    obtain ⟨sg, b, rfl, hb, hs⟩ := seg_top h3
    simp only [Ms.exec]
    rw [pop_eq (topop rfl)]
    cases hb with
    | pair ha hb => exact wt_push (m := { m1 with stack := lo ++ sg, sg := _ :: m1.sg }) k1 rfl hs k4 hn k6 hb
  | unit hc hn => rw [hc]; exact wt_push k1 k2 h3 k4 hn k6 .unit
end Go.Proofs.YtodjpfpmhjdhbaaDoor
/- Where the blocks of a compiled term lie. -/
namespace Go.Proofs.YtodjpfpmhjdhbaaDoor
open Go.Lg
/-- the shape of a block: functions are still without places -/
def SA (c : List Ins) (L : List (Nat × Tm)) : Tm → Nat → Nat → Prop
  | .var i, p, q => c[p]? = some (1, i) ∧ q = p + 1
  | .lam _ b, p, q => ((∃ A, c[p]? = some (2, A)) ∧ (p, b) ∈ L) ∧ q = p + 1
  | .app f a, p, q => ∃ m n, SA c L f p m ∧ SA c L a m n ∧ c[n]? = some (3, 0) ∧ q = n + 1
  | .zero, p, q => c[p]? = some (4, 0) ∧ q = p + 1
  | .succ a, p, q => ∃ m, SA c L a p m ∧ c[m]? = some (5, 0) ∧ q = m + 1
  | .recn _ x y z, p, q => ∃ k m n, SA c L x p k ∧ SA c L y k m ∧ SA c L z m n ∧ c[n]? = some (6, 0) ∧ q = n + 1
  | .nil, p, q => c[p]? = some (7, 0) ∧ q = p + 1
  | .cons f a, p, q => ∃ m n, SA c L f p m ∧ SA c L a m n ∧ c[n]? = some (8, 0) ∧ q = n + 1
  | .fold _ x y z, p, q => ∃ k m n, SA c L x p k ∧ SA c L y k m ∧ SA c L z m n ∧ c[n]? = some (9, 0) ∧ q = n + 1
  | .pair f a, p, q => ∃ m n, SA c L f p m ∧ SA c L a m n ∧ c[n]? = some (10, 0) ∧ q = n + 1
  | .fst a, p, q => ∃ m, SA c L a p m ∧ c[m]? = some (11, 0) ∧ q = m + 1
  | .snd a, p, q => ∃ m, SA c L a p m ∧ c[m]? = some (12, 0) ∧ q = m + 1
  | .unit, p, q => c[p]? = some (13, 0) ∧ q = p + 1
def Ext (c c' : List Ins) : Prop := ∀ (p op a : Nat), c[p]? = some (op, a) → ∃ a', c'[p]? = some (op, a') ∧ (op ≠ 2 → a' = a)
theorem Ext.refl (c : List Ins) : Ext c c := fun p op a h => ⟨a, h, fun _ => rfl⟩
theorem Ext.trans {a b c : List Ins} (h : Ext a b) (h' : Ext b c) : Ext a c := by
  intro p op x hx
  obtain ⟨y, hy, e⟩ := h p op x hx
  obtain ⟨z, hz, e'⟩ := h' p op y hy
  exact ⟨z, hz, fun hn => by rw [e' hn, e hn]⟩
theorem Ext.app (c d : List Ins) : Ext c (c ++ d) := by
  intro p op a h
  refine ⟨a, ?_, fun _ => rfl⟩
  rw [List.getElem?_append_left (List.getElem?_eq_some_iff.1 h).1]
  exact h
theorem Ext.pre {c d : List Ins} (h : c <+: d) : Ext c d := by
  obtain ⟨e, rfl⟩ := h
  exact .app c e
theorem Ext.set {c : List Ins} {p A : Nat} (h : ∃ B, c[p]? = some (2, B)) : Ext c (c.set p (2, A)) := by
  intro q op a hq
  rw [List.getElem?_set]
  split
  · rename_i e
    subst e
    obtain ⟨B, hB⟩ := h
    rw [hB] at hq
    cases hq
    rw [if_pos (List.getElem?_eq_some_iff.1 hB).1]
    exact ⟨A, rfl, fun hn => absurd rfl hn⟩
  · exact ⟨a, hq, fun _ => rfl⟩
theorem Ext.get {c c' : List Ins} (h : Ext c c') {p op a : Nat} (hn : op ≠ 2) (hp : c[p]? = some (op, a)) : c'[p]? = some (op, a) := by
  obtain ⟨a', h1, h2⟩ := h p op a hp
  rw [h1, h2 hn]
theorem SA.mono {c c' : List Ins} {L L' : List (Nat × Tm)} (hc : Ext c c') (hL : ∀ x ∈ L, x ∈ L') : ∀ {t : Tm} {p q : Nat}, SA c L t p q → SA c' L' t p q := by
  intro t
  induction t with
  | var i => rintro p q ⟨h, e⟩; exact ⟨hc.get (by decide) h, e⟩
  | lam s b ih =>
    rintro p q ⟨⟨⟨A, h⟩, hm⟩, e⟩
    obtain ⟨a', h', -⟩ := hc _ _ _ h
    exact ⟨⟨⟨a', h'⟩, hL _ hm⟩, e⟩
  | app f a i1 i2 => rintro p q ⟨m, n, h1, h2, h3, e⟩; exact ⟨m, n, i1 h1, i2 h2, hc.get (by decide) h3, e⟩
  | zero => rintro p q ⟨h, e⟩; exact ⟨hc.get (by decide) h, e⟩
  | succ a i => rintro p q ⟨m, h1, h2, e⟩; exact ⟨m, i h1, hc.get (by decide) h2, e⟩
  | recn s x y z i1 i2 i3 => rintro p q ⟨k, m, n, h1, h2, h3, h4, e⟩; exact ⟨k, m, n, i1 h1, i2 h2, i3 h3, hc.get (by decide) h4, e⟩
  | nil => rintro p q ⟨h, e⟩; exact ⟨hc.get (by decide) h, e⟩
  | cons f a i1 i2 => rintro p q ⟨m, n, h1, h2, h3, e⟩; exact ⟨m, n, i1 h1, i2 h2, hc.get (by decide) h3, e⟩
  | fold s x y z i1 i2 i3 => rintro p q ⟨k, m, n, h1, h2, h3, h4, e⟩; exact ⟨k, m, n, i1 h1, i2 h2, i3 h3, hc.get (by decide) h4, e⟩
  | pair f a i1 i2 => rintro p q ⟨m, n, h1, h2, h3, e⟩; exact ⟨m, n, i1 h1, i2 h2, hc.get (by decide) h3, e⟩
  | fst a i => rintro p q ⟨m, h1, h2, e⟩; exact ⟨m, i h1, hc.get (by decide) h2, e⟩
  | snd a i => rintro p q ⟨m, h1, h2, e⟩; exact ⟨m, i h1, hc.get (by decide) h2, e⟩
  | unit => rintro p q ⟨h, e⟩; exact ⟨hc.get (by decide) h, e⟩
def Mk.prs (m : Mk) : List (Nat × Tm) := m.places.zip m.bodies
theorem emit_last (m : Mk) (a b : Nat) : (m.emit a b).code[m.code.length]? = some (a, b) := by simp [Mk.emit]
theorem emit_ext (m : Mk) (a b : Nat) : Ext m.code (m.emit a b).code := .app _ _
theorem emit_prs (m : Mk) (a b : Nat) : (m.emit a b).prs = m.prs := rfl
theorem emit_len (m : Mk) (a b : Nat) : (m.emit a b).code.length = m.code.length + 1 := by simp [Mk.emit]
theorem blk_len (t : Tm) (m : Mk) (h : m.places.length = m.bodies.length) : (blkT t m).places.length = (blkT t m).bodies.length := by
  rw [blk_placeslen, blk_bodies, List.length_append, h]
theorem blk_prs (t : Tm) : ∀ m : Mk, m.places.length = m.bodies.length → ∀ x ∈ m.prs, x ∈ (blkT t m).prs := by
  induction t with
  | var i => intro m h x hx; exact hx
  | zero => intro m h x hx; exact hx
  | nil => intro m h x hx; exact hx
  | unit => intro m h x hx; exact hx
  | lam s b ih =>
    intro m h x hx
    simp only [blkT, Mk.prs, List.zip_append h]
    exact List.mem_append.2 (.inl hx)
  | succ a i => intro m h x hx; exact i m h x hx
  | fst a i => intro m h x hx; exact i m h x hx
  | snd a i => intro m h x hx; exact i m h x hx
  | app a b i j => intro m h x hx; exact j _ (blk_len a m h) x (i m h x hx)
  | cons a b i j => intro m h x hx; exact j _ (blk_len a m h) x (i m h x hx)
  | pair a b i j => intro m h x hx; exact j _ (blk_len a m h) x (i m h x hx)
  | recn s a b c i j k => intro m h x hx; exact k _ (blk_len b _ (blk_len a m h)) x (j _ (blk_len a m h) x (i m h x hx))
  | fold s a b c i j k => intro m h x hx; exact k _ (blk_len b _ (blk_len a m h)) x (j _ (blk_len a m h) x (i m h x hx))
theorem blk_SA (t : Tm) : ∀ m : Mk, m.places.length = m.bodies.length → SA (blkT t m).code (blkT t m).prs t m.code.length (blkT t m).code.length := by
  induction t with
  | var i => intro m h; exact ⟨emit_last m _ _, emit_len m _ _⟩
  | zero => intro m h; exact ⟨emit_last m _ _, emit_len m _ _⟩
  | nil => intro m h; exact ⟨emit_last m _ _, emit_len m _ _⟩
  | unit => intro m h; exact ⟨emit_last m _ _, emit_len m _ _⟩
  | lam s b ih =>
    intro m h
    refine ⟨⟨⟨0, ?_⟩, ?_⟩, ?_⟩
    · simp [blkT]
    · simp [blkT, Mk.prs, List.zip_append h]
    · simp [blkT]
  | succ a i => intro m h; exact ⟨_, (i m h).mono (emit_ext _ _ _) (fun x hx => hx), emit_last _ _ _, emit_len _ _ _⟩
  | fst a i => intro m h; exact ⟨_, (i m h).mono (emit_ext _ _ _) (fun x hx => hx), emit_last _ _ _, emit_len _ _ _⟩
  | snd a i => intro m h; exact ⟨_, (i m h).mono (emit_ext _ _ _) (fun x hx => hx), emit_last _ _ _, emit_len _ _ _⟩
  | app a b i j => intro m h; exact ⟨_, _, (i m h).mono ((Ext.pre (blk_code b _)).trans (emit_ext _ _ _)) (blk_prs b _ (blk_len a m h)), (j _ (blk_len a m h)).mono (emit_ext _ _ _) (fun x hx => hx), emit_last _ _ _, emit_len _ _ _⟩
  | cons a b i j => intro m h; exact ⟨_, _, (i m h).mono ((Ext.pre (blk_code b _)).trans (emit_ext _ _ _)) (blk_prs b _ (blk_len a m h)), (j _ (blk_len a m h)).mono (emit_ext _ _ _) (fun x hx => hx), emit_last _ _ _, emit_len _ _ _⟩
  | pair a b i j => intro m h; exact ⟨_, _, (i m h).mono ((Ext.pre (blk_code b _)).trans (emit_ext _ _ _)) (blk_prs b _ (blk_len a m h)), (j _ (blk_len a m h)).mono (emit_ext _ _ _) (fun x hx => hx), emit_last _ _ _, emit_len _ _ _⟩
  | recn s a b c i j k =>
    intro m h
    have l1 := blk_len a m h
    have l2 := blk_len b _ l1
    exact ⟨_, _, _, (i m h).mono (((Ext.pre (blk_code b _)).trans (Ext.pre (blk_code c _))).trans (emit_ext _ _ _)) (fun x hx => blk_prs c _ l2 x (blk_prs b _ l1 x hx)),
      (j _ l1).mono ((Ext.pre (blk_code c _)).trans (emit_ext _ _ _)) (blk_prs c _ l2), (k _ l2).mono (emit_ext _ _ _) (fun x hx => hx), emit_last _ _ _, emit_len _ _ _⟩
  | fold s a b c i j k =>
    intro m h
    have l1 := blk_len a m h
    have l2 := blk_len b _ l1
    exact ⟨_, _, _, (i m h).mono (((Ext.pre (blk_code b _)).trans (Ext.pre (blk_code c _))).trans (emit_ext _ _ _)) (fun x hx => blk_prs c _ l2 x (blk_prs b _ l1 x hx)),
      (j _ l1).mono ((Ext.pre (blk_code c _)).trans (emit_ext _ _ _)) (blk_prs c _ l2), (k _ l2).mono (emit_ext _ _ _) (fun x hx => hx), emit_last _ _ _, emit_len _ _ _⟩
end Go.Proofs.YtodjpfpmhjdhbaaDoor
/- The code of a compiled term. -/
namespace Go.Proofs.YtodjpfpmhjdhbaaDoor
open Go.Lg
/-- places of functions: there are functions, and they differ -/
structure PL (m : Mk) : Prop where
  two : ∀ p ∈ m.places, ∃ A, m.code[p]? = some (2, A)
  nd : m.places.Nodup
theorem PL.emit {m : Mk} (h : PL m) (a b : Nat) : PL (m.emit a b) :=
  ⟨fun p hp => by
    obtain ⟨A, hA⟩ := h.two p hp
    obtain ⟨A', h', -⟩ := emit_ext m a b p 2 A hA
    exact ⟨A', h'⟩, h.nd⟩
theorem blk_PL (t : Tm) : ∀ m : Mk, PL m → PL (blkT t m) := by
  induction t with
  | var i => intro m h; exact h.emit _ _
  | zero => intro m h; exact h.emit _ _
  | nil => intro m h; exact h.emit _ _
  | unit => intro m h; exact h.emit _ _
  | lam s b ih =>
    intro m h
    refine ⟨?_, ?_⟩
    · intro p hp
      simp only [blkT, List.mem_append, List.mem_singleton] at hp ⊢
      rcases hp with hp | rfl
      · obtain ⟨A, hA⟩ := h.two p hp
        exact ⟨A, by rw [List.getElem?_append_left (List.getElem?_eq_some_iff.1 hA).1]; exact hA⟩
      · exact ⟨0, by simp⟩
    · simp only [blkT]
      rw [List.nodup_append]
      refine ⟨h.nd, by simp, ?_⟩
      intro a ha b hb e
      simp only [List.mem_singleton] at hb
      subst e hb
      obtain ⟨A, hA⟩ := h.two _ ha
      have := (List.getElem?_eq_some_iff.1 hA).1
      omega
  | succ a i => intro m h; exact (i m h).emit _ _
  | fst a i => intro m h; exact (i m h).emit _ _
  | snd a i => intro m h; exact (i m h).emit _ _
  | app a b i j => intro m h; exact (j _ (i m h)).emit _ _
  | cons a b i j => intro m h; exact (j _ (i m h)).emit _ _
  | pair a b i j => intro m h; exact (j _ (i m h)).emit _ _
  | recn s a b c i j k => intro m h; exact (k _ (j _ (i m h))).emit _ _
  | fold s a b c i j k => intro m h; exact (k _ (j _ (i m h))).emit _ _
structure KC (t : Tm) (i : Nat) (m : Mk) : Prop where
  len : m.places.length = m.bodies.length
  top : SA m.code m.prs t 0 (inl t) ∧ m.code[inl t]? = some (14, 0)
  pl : PL m
  done : ∀ j, j < i → ∀ p b, m.places[j]? = some p → m.bodies[j]? = some b → ∃ A e, m.code[p]? = some (2, A) ∧ SA m.code m.prs b A e ∧ m.code[e]? = some (14, 0)
theorem KC.start (t : Tm) : KC t 0 (begC t) := by
  have h := blk_SA t ⟨[], [], []⟩ rfl
  have hl := blk_codelen t ⟨[], [], []⟩
  simp only [List.length_nil, Nat.zero_add] at h hl
  refine ⟨blk_len t ⟨[], [], []⟩ rfl, ⟨?_, ?_⟩, (blk_PL t ⟨[], [], []⟩ ⟨by simp, by simp⟩).emit _ _, fun j hj => by omega⟩
  · rw [hl] at h
    exact h.mono (emit_ext _ _ _) (fun x hx => hx)
  · have := emit_last (blkT t ⟨[], [], []⟩) 14 0
    rw [hl] at this
    exact this
theorem KC.next {t : Tm} {i : Nat} {m : Mk} (h : KC t i m) (hi : i < m.bodies.length) : KC t (i + 1) (stepC m i) := by
  obtain ⟨b, hb⟩ : ∃ b, m.bodies[i]? = some b := ⟨_, List.getElem?_eq_getElem hi⟩
  obtain ⟨p, hp⟩ : ∃ p, m.places[i]? = some p := ⟨_, List.getElem?_eq_getElem (by rw [h.len]; exact hi)⟩
  have hbd : m.bodies.getD i .unit = b := by simp [List.getD, hb]
  have hpd : m.places.getD i 0 = p := by simp [List.getD, hp]
  obtain ⟨A0, hA0⟩ := h.pl.two p (List.mem_of_getElem? hp)
  have hpl : p < m.code.length := (List.getElem?_eq_some_iff.1 hA0).1
  have hpatch : m.patch p = ⟨m.code.set p (2, m.code.length), m.bodies, m.places⟩ := by
    unfold Mk.patch
    have : m.code.getD p (0, 0) = (2, A0) := by simp [List.getD, hA0]
    rw [this]
  have hst : stepC m i = (blkT b ⟨m.code.set p (2, m.code.length), m.bodies, m.places⟩).emit 14 0 := by
    unfold stepC
    rw [hbd, hpd, hpatch]
  generalize hm1 : (⟨m.code.set p (2, m.code.length), m.bodies, m.places⟩ : Mk) = m1 at *
  have c1 : m1.code = m.code.set p (2, m.code.length) := by rw [← hm1]
  have b1 : m1.bodies = m.bodies := by rw [← hm1]
  have q1 : m1.places = m.places := by rw [← hm1]
  have pr1 : m1.prs = m.prs := by rw [Mk.prs, b1, q1]; rfl
  have l1 : m1.places.length = m1.bodies.length := by rw [b1, q1]; exact h.len
  have e1 : Ext m.code m1.code := by rw [c1]; exact .set ⟨A0, hA0⟩
  have p1 : PL m1 := ⟨fun p hp => by
    rw [q1] at hp
    obtain ⟨A, hA⟩ := h.pl.two p hp
    obtain ⟨A', h', -⟩ := e1 p 2 A hA
    exact ⟨A', h'⟩, by rw [q1]; exact h.pl.nd⟩
  have e2 : Ext m1.code (stepC m i).code := by
    rw [hst]
    exact (Ext.pre (blk_code b m1)).trans (emit_ext _ _ _)
  have x2 : ∀ (k : Nat) (v : Ins), m1.code[k]? = some v → (stepC m i).code[k]? = some v := by
    intro k v hk
    have hpre : m1.code <+: (stepC m i).code := by
      rw [hst]
      exact (blk_code b m1).trans (by simp [Mk.emit])
    obtain ⟨d, hd⟩ := hpre
    rw [← hd, List.getElem?_append_left (List.getElem?_eq_some_iff.1 hk).1]
    exact hk
  have pr2 : ∀ x ∈ m.prs, x ∈ (stepC m i).prs := by
    intro x hx
    rw [hst, emit_prs]
    exact blk_prs b m1 l1 x (by rw [pr1]; exact hx)
  have hlen2 : (stepC m i).places.length = (stepC m i).bodies.length := by
    rw [hst]
    exact blk_len b m1 l1
  have hbods : (stepC m i).bodies = m.bodies ++ bods b := by
    rw [hst]
    show (blkT b m1).bodies = _
    rw [blk_bodies, b1]
  have hplc : ∃ ps, (stepC m i).places = m.places ++ ps := by
    have key : ∀ (t : Tm) (m : Mk), ∃ ps, (blkT t m).places = m.places ++ ps := by
      intro t
      induction t with
      | var i => intro m; exact ⟨[], by simp [blkT, Mk.emit]⟩
      | zero => intro m; exact ⟨[], by simp [blkT, Mk.emit]⟩
      | nil => intro m; exact ⟨[], by simp [blkT, Mk.emit]⟩
      | unit => intro m; exact ⟨[], by simp [blkT, Mk.emit]⟩
      | lam s b ih => intro m; exact ⟨[m.code.length], rfl⟩
      | succ a i => intro m; exact i m
      | fst a i => intro m; exact i m
      | snd a i => intro m; exact i m
      | app a b i j => intro m; obtain ⟨x, hx⟩ := i m; obtain ⟨y, hy⟩ := j (blkT a m); exact ⟨x ++ y, by simp only [blkT, Mk.emit, hy, hx, List.append_assoc]⟩
      | cons a b i j => intro m; obtain ⟨x, hx⟩ := i m; obtain ⟨y, hy⟩ := j (blkT a m); exact ⟨x ++ y, by simp only [blkT, Mk.emit, hy, hx, List.append_assoc]⟩
      | pair a b i j => intro m; obtain ⟨x, hx⟩ := i m; obtain ⟨y, hy⟩ := j (blkT a m); exact ⟨x ++ y, by simp only [blkT, Mk.emit, hy, hx, List.append_assoc]⟩
      | recn s a b c i j k => intro m; obtain ⟨x, hx⟩ := i m; obtain ⟨y, hy⟩ := j (blkT a m); obtain ⟨z, hz⟩ := k (blkT b (blkT a m)); exact ⟨x ++ y ++ z, by simp only [blkT, Mk.emit, hz, hy, hx, List.append_assoc]⟩
      | fold s a b c i j k => intro m; obtain ⟨x, hx⟩ := i m; obtain ⟨y, hy⟩ := j (blkT a m); obtain ⟨z, hz⟩ := k (blkT b (blkT a m)); exact ⟨x ++ y ++ z, by simp only [blkT, Mk.emit, hz, hy, hx, List.append_assoc]⟩
    obtain ⟨ps, hps⟩ := key b m1
    exact ⟨ps, by rw [hst]; show (blkT b m1).places = _; rw [hps, q1]⟩
  obtain ⟨ps, hps⟩ := hplc
  have e12 := e1.trans e2
  refine ⟨hlen2, ⟨h.top.1.mono e12 pr2, e12.get (by decide) h.top.2⟩, by rw [hst]; exact (blk_PL b m1 p1).emit _ _, ?_⟩
  intro j hj p' b' hp' hb'
  have hjl : j < m.bodies.length := by omega
  rw [hbods, List.getElem?_append_left hjl] at hb'
  rw [hps, List.getElem?_append_left (by rw [h.len]; exact hjl)] at hp'
  by_cases e : j = i
  · subst e
    rw [hb] at hb'
    rw [hp] at hp'
    cases hb'
    cases hp'
    refine ⟨m.code.length, (blkT b m1).code.length, ?_, ?_, ?_⟩
    · refine x2 _ _ ?_
      rw [c1, List.getElem?_set_self hpl]
    · have := blk_SA b m1 l1
      have hl : m1.code.length = m.code.length := by rw [c1]; simp
      rw [hl] at this
      rw [hst]
      exact this.mono (emit_ext _ _ _) (fun x hx => hx)
    · rw [hst]
      exact emit_last _ _ _
  · obtain ⟨A, e', h1, h2, h3⟩ := h.done j (by omega) p' b' hp' hb'
    refine ⟨A, e', x2 _ _ ?_, h2.mono e12 pr2, e12.get (by decide) h3⟩
    have hne : p ≠ p' := by
      rintro rfl
      have hj' : j < m.places.length := by rw [h.len]; exact hjl
      have hi' : i < m.places.length := by rw [h.len]; exact hi
      rw [List.getElem?_eq_getElem hj'] at hp'
      rw [List.getElem?_eq_getElem hi'] at hp
      have h1 := Option.some.inj hp'
      have h2 := Option.some.inj hp
      exact e ((List.getElem_inj h.pl.nd).1 (h1.trans h2.symm))
    rw [c1, List.getElem?_set_ne hne]
    exact h1
theorem KC.fin {t : Tm} {fin : Mk} {S : Nat} : ∀ (n i : Nat) (m : Mk), pend m i ≤ n → JC fin S i m → KC t i m → KC t fin.bodies.length fin := by
  intro n
  induction n with
  | zero =>
    intro i m hn hj hk
    obtain ⟨k, -, hr⟩ := hj.run
    have hi : ¬ i < m.bodies.length := by
      intro hi
      have := (hj.next hi).2
      omega
    have : runC k i m = m := by
      cases k with
      | zero => rfl
      | succ k => simp [runC, hi]
    have hle := hj.le
    have e : i = m.bodies.length := by omega
    rw [← hr, this, ← e]
    exact hk
  | succ n ih =>
    intro i m hn hj hk
    by_cases hi : i < m.bodies.length
    · have := hj.next hi
      exact ih (i + 1) (stepC m i) (by omega) this.1 (hk.next hi)
    · obtain ⟨k, -, hr⟩ := hj.run
      have : runC k i m = m := by
        cases k with
        | zero => rfl
        | succ k => simp [runC, hi]
      have hle := hj.le
      have e : i = m.bodies.length := by omega
      rw [← hr, this, ← e]
      exact hk
theorem SA.full {c : List Ins} {L : List (Nat × Tm)} (hL : ∀ x ∈ L, ∃ A e, c[x.1]? = some (2, A) ∧ SA c L x.2 A e ∧ c[e]? = some (14, 0)) : ∀ (n : Nat) {t : Tm} {p q : Nat}, t.size ≤ n → SA c L t p q → TA c t p q := by
  intro n
  induction n with
  | zero => intro t p q hn h; have := t.size_eq; omega
  | succ n ih =>
    intro t p q hn h
    cases t with
    | var i => exact h
    | lam s b =>
      obtain ⟨⟨⟨A, hA⟩, hm⟩, e⟩ := h
      obtain ⟨A', e', h1, h2, h3⟩ := hL _ hm
      simp only at h1 h2
      refine ⟨⟨A', e', h1, ih ?_ h2, h3⟩, e⟩
      simp [Tm.size] at hn; omega
    | zero => exact h
    | nil => exact h
    | unit => exact h
    | app a b => obtain ⟨m, k, h1, h2, h3⟩ := h; exact ⟨m, k, ih (by simp [Tm.size] at hn; omega) h1, ih (by simp [Tm.size] at hn; omega) h2, h3⟩
    | cons a b => obtain ⟨m, k, h1, h2, h3⟩ := h; exact ⟨m, k, ih (by simp [Tm.size] at hn; omega) h1, ih (by simp [Tm.size] at hn; omega) h2, h3⟩
    | pair a b => obtain ⟨m, k, h1, h2, h3⟩ := h; exact ⟨m, k, ih (by simp [Tm.size] at hn; omega) h1, ih (by simp [Tm.size] at hn; omega) h2, h3⟩
    | succ a => obtain ⟨m, h1, h2⟩ := h; exact ⟨m, ih (by simp [Tm.size] at hn; omega) h1, h2⟩
    | fst a => obtain ⟨m, h1, h2⟩ := h; exact ⟨m, ih (by simp [Tm.size] at hn; omega) h1, h2⟩
    | snd a => obtain ⟨m, h1, h2⟩ := h; exact ⟨m, ih (by simp [Tm.size] at hn; omega) h1, h2⟩
    | recn s a b c => obtain ⟨k, m, l, h1, h2, h3, h4⟩ := h; exact ⟨k, m, l, ih (by simp [Tm.size] at hn; omega) h1, ih (by simp [Tm.size] at hn; omega) h2, ih (by simp [Tm.size] at hn; omega) h3, h4⟩
    | fold s a b c => obtain ⟨k, m, l, h1, h2, h3, h4⟩ := h; exact ⟨k, m, l, ih (by simp [Tm.size] at hn; omega) h1, ih (by simp [Tm.size] at hn; omega) h2, ih (by simp [Tm.size] at hn; omega) h3, h4⟩
/-- the block of a term lies at the front of its code -/
theorem fin_TA (t : Tm) : TA (finC t).code t 0 (inl t) ∧ (finC t).code[inl t]? = some (14, 0) := by
  have hk := KC.fin (pend (begC t) 0) 0 (begC t) (Nat.le_refl _) (JC.start t) (KC.start t)
  refine ⟨SA.full ?_ t.size (Nat.le_refl _) hk.top.1, hk.top.2⟩
  rintro ⟨p, b⟩ hx
  obtain ⟨j, hj⟩ := List.mem_iff_getElem?.1 hx
  unfold Mk.prs at hj
  rw [List.getElem?_zip_eq_some] at hj
  exact hk.done j (List.getElem?_eq_some_iff.1 hj.2).1 p b hj.1 hj.2
end Go.Proofs.YtodjpfpmhjdhbaaDoor
/- The instructions of a compiled term; its runs. -/
namespace Go.Proofs.YtodjpfpmhjdhbaaDoor
open Go.Lg
def VB (B : Nat) : Tm → Prop
  | .var i => i ≤ B
  | .lam _ b => VB B b
  | .zero => True | .nil => True | .unit => True
  | .app f a => VB B f ∧ VB B a
  | .succ a => VB B a
  | .recn _ a b c => VB B a ∧ VB B b ∧ VB B c
  | .cons a b => VB B a ∧ VB B b
  | .fold _ a b c => VB B a ∧ VB B b ∧ VB B c
  | .pair a b => VB B a ∧ VB B b
  | .fst a => VB B a
  | .snd a => VB B a
theorem VB_of {g : List Ty} {t : Tm} {τ : Ty} (h : HasTy g t τ) : ∀ B, g.length + t.size ≤ B → VB B t := by
  induction h with
  | @var g i t hi =>
    intro B hB
    have := (List.getElem?_eq_some_iff.1 hi).1
    simp at this
    simp [VB]; omega
  | lam _ ih => intro B hB; simp [Tm.size] at hB; exact ih B (by simp; omega)
  | app _ _ i j => intro B hB; simp [Tm.size] at hB; exact ⟨i B (by omega), j B (by omega)⟩
  | zero => intro B hB; trivial
  | succ _ i => intro B hB; simp [Tm.size] at hB; exact i B (by omega)
  | recn _ _ _ i j k => intro B hB; simp [Tm.size] at hB; exact ⟨i B (by omega), j B (by omega), k B (by omega)⟩
  | nil => intro B hB; trivial
  | cons _ _ i j => intro B hB; simp [Tm.size] at hB; exact ⟨i B (by omega), j B (by omega)⟩
  | fold _ _ _ i j k => intro B hB; simp [Tm.size] at hB; exact ⟨i B (by omega), j B (by omega), k B (by omega)⟩
  | pair _ _ i j => intro B hB; simp [Tm.size] at hB; exact ⟨i B (by omega), j B (by omega)⟩
  | fst _ i => intro B hB; simp [Tm.size] at hB; exact i B (by omega)
  | snd _ i => intro B hB; simp [Tm.size] at hB; exact i B (by omega)
  | unit => intro B hB; trivial
def OkI (B : Nat) (x : Ins) : Prop := 1 ≤ x.1 ∧ x.1 ≤ 14 ∧ x.2 ≤ B ∧ (x.1 = 1 ∨ x.1 = 2 ∨ x.2 = 0)
theorem emit_okI {B : Nat} {m : Mk} {a b : Nat} (h : ∀ x ∈ m.code, OkI B x) (hx : OkI B (a, b)) : ∀ x ∈ (m.emit a b).code, OkI B x := by
  intro x hm
  simp only [Mk.emit, List.mem_append, List.mem_singleton] at hm
  rcases hm with hm | rfl
  · exact h x hm
  · exact hx
theorem okI0 {B a : Nat} (h : 1 ≤ a) (h' : a ≤ 14) : OkI B (a, 0) := ⟨h, h', Nat.zero_le _, .inr (.inr rfl)⟩
theorem blk_okI {B : Nat} (t : Tm) : ∀ m : Mk, VB B t → (∀ x ∈ m.code, OkI B x) → ∀ x ∈ (blkT t m).code, OkI B x := by
  induction t with
  | var i => intro m hv h; exact emit_okI h ⟨by simp, by simp, hv, .inl rfl⟩
  | zero => intro m hv h; exact emit_okI h (okI0 (by decide) (by decide))
  | nil => intro m hv h; exact emit_okI h (okI0 (by decide) (by decide))
  | unit => intro m hv h; exact emit_okI h (okI0 (by decide) (by decide))
  | lam s b ih =>
    intro m hv h
    have := emit_okI (a := 2) (b := 0) h (okI0 (by decide) (by decide))
    exact this
  | succ a i => intro m hv h; exact emit_okI (i m hv h) (okI0 (by decide) (by decide))
  | fst a i => intro m hv h; exact emit_okI (i m hv h) (okI0 (by decide) (by decide))
  | snd a i => intro m hv h; exact emit_okI (i m hv h) (okI0 (by decide) (by decide))
  | app a b i j => intro m hv h; exact emit_okI (j _ hv.2 (i m hv.1 h)) (okI0 (by decide) (by decide))
  | cons a b i j => intro m hv h; exact emit_okI (j _ hv.2 (i m hv.1 h)) (okI0 (by decide) (by decide))
  | pair a b i j => intro m hv h; exact emit_okI (j _ hv.2 (i m hv.1 h)) (okI0 (by decide) (by decide))
  | recn s a b c i j k => intro m hv h; exact emit_okI (k _ hv.2.2 (j _ hv.2.1 (i m hv.1 h))) (okI0 (by decide) (by decide))
  | fold s a b c i j k => intro m hv h; exact emit_okI (k _ hv.2.2 (j _ hv.2.1 (i m hv.1 h))) (okI0 (by decide) (by decide))
theorem bods_VB {B : Nat} (t : Tm) : VB B t → ∀ b ∈ bods t, VB B b := by
  induction t with
  | var i => intro _ b hb; cases hb
  | zero => intro _ b hb; cases hb
  | nil => intro _ b hb; cases hb
  | unit => intro _ b hb; cases hb
  | lam s b ih => intro hv x hx; simp only [bods, List.mem_singleton] at hx; subst hx; exact hv
  | succ a i => exact i
  | fst a i => exact i
  | snd a i => exact i
  | app a b i j => intro hv x hx; exact (List.mem_append.1 hx).elim (i hv.1 x) (j hv.2 x)
  | cons a b i j => intro hv x hx; exact (List.mem_append.1 hx).elim (i hv.1 x) (j hv.2 x)
  | pair a b i j => intro hv x hx; exact (List.mem_append.1 hx).elim (i hv.1 x) (j hv.2 x)
  | recn s a b c i j k => intro hv x hx; exact (List.mem_append.1 hx).elim (fun h => (List.mem_append.1 h).elim (i hv.1 x) (j hv.2.1 x)) (k hv.2.2 x)
  | fold s a b c i j k => intro hv x hx; exact (List.mem_append.1 hx).elim (fun h => (List.mem_append.1 h).elim (i hv.1 x) (j hv.2.1 x)) (k hv.2.2 x)
structure OC (B : Nat) (m : Mk) : Prop where
  code : ∀ x ∈ m.code, OkI B x
  bod : ∀ b ∈ m.bodies, VB B b
theorem OC.next {B i : Nat} {m : Mk} (h : OC B m) (pl : PL m) (hlen : m.places.length = m.bodies.length) (hB : m.code.length ≤ B) (hi : i < m.bodies.length) : OC B (stepC m i) := by
  obtain ⟨b, hb⟩ : ∃ b, m.bodies[i]? = some b := ⟨_, List.getElem?_eq_getElem hi⟩
  obtain ⟨p, hp⟩ : ∃ p, m.places[i]? = some p := ⟨_, List.getElem?_eq_getElem (by rw [hlen]; exact hi)⟩
  have hbd : m.bodies.getD i .unit = b := by simp [List.getD, hb]
  have hpd : m.places.getD i 0 = p := by simp [List.getD, hp]
  obtain ⟨A0, hA0⟩ := pl.two p (List.mem_of_getElem? hp)
  have hpatch : m.patch p = ⟨m.code.set p (2, m.code.length), m.bodies, m.places⟩ := by
    unfold Mk.patch
    have : m.code.getD p (0, 0) = (2, A0) := by simp [List.getD, hA0]
    rw [this]
  have hvb := h.bod b (List.mem_of_getElem? hb)
  unfold stepC
  rw [hbd, hpd, hpatch]
  refine ⟨emit_okI (blk_okI b _ hvb ?_) (okI0 (by decide) (by decide)), ?_⟩
  · intro x hx
    rcases List.mem_or_eq_of_mem_set hx with hx | rfl
    · exact h.code x hx
    · exact ⟨by simp, by simp, hB, .inr (.inl rfl)⟩
  · show ∀ b' ∈ (blkT b _).bodies, _
    rw [blk_bodies]
    intro x hx
    rcases List.mem_append.1 hx with hx | hx
    · exact h.bod x hx
    · exact bods_VB b hvb x hx
theorem OC.fin {t : Tm} {fin : Mk} {S B : Nat} (hB : 2 * S + 1 ≤ B) : ∀ (n i : Nat) (m : Mk), pend m i ≤ n → JC fin S i m → KC t i m → OC B m → OC B fin := by
  intro n
  induction n with
  | zero =>
    intro i m hn hj hk ho
    obtain ⟨k, -, hr⟩ := hj.run
    have hi : ¬ i < m.bodies.length := by
      intro hi
      have := (hj.next hi).2
      omega
    have : runC k i m = m := by
      cases k with
      | zero => rfl
      | succ k => simp [runC, hi]
    rw [← hr, this]
    exact ho
  | succ n ih =>
    intro i m hn hj hk ho
    by_cases hi : i < m.bodies.length
    · have := hj.next hi
      have hc := hj.code
      exact ih (i + 1) (stepC m i) (by omega) this.1 (hk.next hi) (ho.next hk.pl hk.len (by omega) hi)
    · obtain ⟨k, -, hr⟩ := hj.run
      have : runC k i m = m := by
        cases k with
        | zero => rfl
        | succ k => simp [runC, hi]
      rw [← hr, this]
      exact ho
theorem fin_okI {t : Tm} {τ : Ty} (h : HasTy [] t τ) : ∀ x ∈ (finC t).code, OkI (2 * t.size + 1) x := by
  have hvb := VB_of h (2 * t.size + 1) (by simp; omega)
  refine (OC.fin (t := t) (Nat.le_refl _) (pend (begC t) 0) 0 (begC t) (Nat.le_refl _) (JC.start t) (KC.start t) ⟨?_, ?_⟩).code
  · exact emit_okI (blk_okI t _ hvb (by simp)) (okI0 (by decide) (by decide))
  · show ∀ b ∈ (blkT t ⟨[], [], []⟩).bodies, _
    rw [blk_bodies]
    intro x hx
    exact bods_VB t hvb x (by simpa using hx)
/-- the start is typed -/
theorem wt0 {c : List Ins} {t : Tm} {τ : Ty} {q : Nat} (h : HasTy [] t τ) (hT : TA c t 0 q) (hq : c[q]? = some (14, 0)) : WT c ms0 τ := by
  refine ⟨[], 0, [], τ, [], [], rfl, rfl, .nil, .nil, ?_, .nil⟩
  have := TA_CT h (s := []) (r := τ) hT (.ret hq)
  simpa using this
/-- there is a run -/
theorem runs_ex {c : List Ins} {l : Nat} {τ : Ty} : ∀ (n : Nat) (m : Ms), l - m.steps ≤ n → m.steps ≤ l → WT c m τ → (∃ e, Runs c l m (.err e) ∧ (e = 4 ∨ e = 5)) ∨ ∃ m' x, Runs c l m (.stop m') ∧ m'.stack = [x] ∧ VT c x τ ∧ m'.steps ≤ l := by
  intro n
  induction n with
  | zero =>
    intro m hn hm hw
    have : m.step c l (1000 + m.steps) = some (.err 5) := by
      unfold Ms.step
      rw [if_pos (by omega)]
    exact .inl ⟨5, .err this, .inr rfl⟩
  | succ n ih =>
    intro m hn hm hw
    have hf := step_fine l (1000 + m.steps) hw
    cases e : m.step c l (1000 + m.steps) with
    | none => rw [e] at hf; exact hf.elim
    | some r =>
      obtain ⟨h1, h2, -⟩ := step_steps e
      rw [e] at hf
      have hlt : (∀ k, r ≠ .err k) → m.steps < l := by
        intro hne
        by_cases h : m.steps = l
        · exact absurd (h2 h) (hne 5)
        · omega
      cases r with
      | err k => exact .inl ⟨k, .err e, hf⟩
      | stop m' =>
        obtain ⟨x, hs, hx, -⟩ := hf
        have := hlt (by simp)
        simp only [Sts] at h1
        exact .inr ⟨m', x, .stop e, hs, hx, by omega⟩
      | go m' =>
        have := hlt (by simp)
        simp only [Sts] at h1
        rcases ih m' (by omega) (by omega) hf with ⟨k, hr, hk⟩ | ⟨m'', x, hr, hs, hx, hl⟩
        · exact .inl ⟨k, .go e hr, hk⟩
        · exact .inr ⟨m'', x, .go e hr, hs, hx, hl⟩
/-- the limit does not matter but where it is reached -/
theorem step_limit_eq {c : List Ins} {l l' n : Nat} {m : Ms} (h : ¬ m.steps = l) (h' : ¬ m.steps = l') : m.step c l n = m.step c l' n := by
  unfold Ms.step
  rw [if_neg h, if_neg h']
theorem runs_more {c : List Ins} {l : Nat} {m : Ms} {r : Res} (h : Runs c l m r) : ∀ m', r = .stop m' → m.steps < m'.steps ∧ (∀ l', m'.steps ≤ l' → Runs c l' m (.stop m')) ∧ (∀ l', m.steps ≤ l' → l' < m'.steps → Runs c l' m (.err 5)) := by
  have err5 : ∀ (l' : Nat) (m : Ms), m.steps = l' → Runs c l' m (.err 5) := by
    intro l' m e
    refine .err ?_
    unfold Ms.step
    rw [if_pos e]
  induction h with
  | @stop m m1 e =>
    rintro m' hm
    cases hm
    obtain ⟨h1, h2, -⟩ := step_steps e
    simp only [Sts] at h1
    have hne : ¬ m.steps = l := fun h => by cases h2 h
    refine ⟨by omega, fun l' hl => .stop ?_, fun l' h3 h4 => err5 l' m (by omega)⟩
    rw [← step_limit_eq hne (by omega)]
    exact e
  | err e => rintro m' hm; cases hm
  | @go m m1 r e _ ih =>
    rintro m' hm
    obtain ⟨h1, h2, -⟩ := step_steps e
    simp only [Sts] at h1
    have hne : ¬ m.steps = l := fun h => by cases h2 h
    obtain ⟨i1, i2, i3⟩ := ih m' hm
    refine ⟨by omega, fun l' hl => .go ?_ (i2 l' hl), fun l' h3 h4 => ?_⟩
    · rw [← step_limit_eq hne (by omega)]
      exact e
    · by_cases h5 : m.steps = l'
      · exact err5 l' m h5
      · refine .go ?_ (i3 l' (by omega) h4)
        rw [← step_limit_eq hne h5]
        exact e
end Go.Proofs.YtodjpfpmhjdhbaaDoor
