/- Part of the proof: the machine and its programs, plainly; no conditions. -/
import Derived.Test.YtodjpfpmhjdhbaaGreatDoorB2
import Derived.Test.YtodjpfpmhjdhbaaGreatDoorB1
set_option linter.unusedVariables false
set_option linter.unusedSimpArgs false
set_option linter.unusedSectionVars false
/- The same blocks in two programs do the same. -/
namespace Go.Proofs.YtodjpfpmhjdhbaaGreatDoor
open Go.Lg
/-- the same code, up to a return or up to an end -/
inductive CR (c d : List Ins) : Option (Nat × Nat) → Nat → Nat → Prop where
  | fin {p p' : Nat} : CR c d (some (p, p')) p p'
  | ret {p p' : Nat} : c[p]? = some (14, 0) → d[p']? = some (14, 0) → CR c d none p p'
  | step {e : Option (Nat × Nat)} {p p' op a : Nat} : c[p]? = some (op, a) → d[p']? = some (op, a) → op ≠ 2 → 1 ≤ op → op < 14 → e ≠ some (p, p') → CR c d e (p + 1) (p' + 1) → CR c d e p p'
  | fn {e : Option (Nat × Nat)} {p p' A A' : Nat} : c[p]? = some (2, A) → d[p']? = some (2, A') → e ≠ some (p, p') → CR c d none A A' → CR c d e (p + 1) (p' + 1) → CR c d e p p'
/-- e does not lie before p -/
def Beh (e : Option (Nat × Nat)) (p : Nat) : Prop := ∀ x, e = some x → p ≤ x.1
theorem Beh.mono {e : Option (Nat × Nat)} {p q : Nat} (h : Beh e q) (hpq : p ≤ q) : Beh e p := fun x hx => Nat.le_trans hpq (h x hx)
mutual
inductive IR (c d : List Ins) : It → It → Prop where
  | num {n : Nat} : IR c d (.num n) (.num n)
  | list {l : List Nat} : IR c d (.list l) (.list l)
  | unit : IR c d .unit .unit
  | pair {a b a' b' : It} : IR c d a a' → IR c d b b' → IR c d (.pair a b) (.pair a' b')
  | fn {p p' : Nat} {vs vs' : List It} : CR c d none p p' → IRs c d vs vs' → IR c d (.fn p vs) (.fn p' vs')
inductive IRs (c d : List Ins) : List It → List It → Prop where
  | nil : IRs c d [] []
  | cons {x x' : It} {l l' : List It} : IR c d x x' → IRs c d l l' → IRs c d (x :: l) (x' :: l')
end
mutual
theorem IR.more {c d : List Ins} : ∀ {x y : It}, IR c d x y → x.more = y.more
  | _, _, .num => rfl
  | _, _, .list => rfl
  | _, _, .unit => rfl
  | _, _, .pair h1 h2 => by simp only [It.more, IR.more h1, IR.more h2]
  | _, _, .fn _ h => by simp only [It.more, IRs.inside h]
theorem IRs.inside {c d : List Ins} : ∀ {x y : List It}, IRs c d x y → insideL x = insideL y
  | _, _, .nil => rfl
  | _, _, .cons h1 h2 => by simp only [insideL, IR.more h1, IRs.inside h2]
end
theorem IRs.get {c d : List Ins} : ∀ {x y : List It}, IRs c d x y → ∀ (i : Nat), (x[i]? = none ∧ y[i]? = none) ∨ ∃ a b, x[i]? = some a ∧ y[i]? = some b ∧ IR c d a b
  | _, _, .nil, i => .inl (by simp)
  | _, _, .cons h1 h2, 0 => .inr ⟨_, _, rfl, rfl, h1⟩
  | _, _, .cons h1 h2, i + 1 => by simpa using h2.get i
theorem IRs.snoc {c d : List Ins} : ∀ {x y : List It}, IRs c d x y → ∀ {a b : It}, IR c d a b → IRs c d (x ++ [a]) (y ++ [b])
  | _, _, .nil, a, b, h => .cons h .nil
  | _, _, .cons h1 h2, a, b, h => .cons h1 (h2.snoc h)
theorem IRs.last {c d : List Ins} {s : List It} {x : It} : ∀ {l : List It}, IRs c d (s ++ [x]) l → ∃ s' x', l = s' ++ [x'] ∧ IRs c d s s' ∧ IR c d x x' := by
  induction s with
  | nil =>
    intro l h
    cases h with
    | cons h1 h2 =>
      cases h2
      exact ⟨[], _, rfl, .nil, h1⟩
  | cons a s ih =>
    intro l h
    cases h with
    | cons h1 h2 =>
      obtain ⟨s', x', rfl, h3, h4⟩ := ih h2
      exact ⟨_ :: s', x', rfl, .cons h1 h3, h4⟩
theorem IR.data {c d : List Ins} {x : It} (hx : Dat x) : ∀ {y : It}, IR c d x y → y = x := by
  induction hx with
  | num n => intro y h; cases h; rfl
  | list l => intro y h; cases h; rfl
  | unit => intro y h; cases h; rfl
  | pair _ _ i j => intro y h; cases h with | pair h1 h2 => rw [i h1, j h2]
structure RdR (c d : List Ins) (r r' : Rd) : Prop where
  f : IR c d r.f r'.f
  next : r.next = r'.next
  args : r.args = r'.args
  count : r.count = r'.count
  result : IR c d r.result r'.result
  left : IRs c d r.left r'.left
structure FrR (c d : List Ins) (e : Option (Nat × Nat)) (fr fr' : Fr) : Prop where
  at_ : ∃ p p' : Nat, fr.at_ = ((p : Nat) : Int) ∧ fr'.at_ = ((p' : Nat) : Int) ∧ CR c d e p p'
  vars : IRs c d fr.vars fr'.vars
  rd : (fr.rd = none ∧ fr'.rd = none) ∨ ∃ n n' r r', fr.rd = some (n, r) ∧ fr'.rd = some (n', r') ∧ RdR c d r r'
  top : e ≠ none → fr'.vars = []
def lvl (E : Nat × Nat) (fs : List Fr) : Option (Nat × Nat) := if fs.isEmpty then some E else none
inductive FsR (c d : List Ins) (E : Nat × Nat) : List Fr → List Fr → Prop where
  | nil : FsR c d E [] []
  | snoc {fs fs' : List Fr} {fr fr' : Fr} : FsR c d E fs fs' → FrR c d (lvl E fs) fr fr' → FsR c d E (fs ++ [fr]) (fs' ++ [fr'])
theorem FsR.len {c d : List Ins} {E : Nat × Nat} {a b : List Fr} (h : FsR c d E a b) : a.length = b.length := by
  induction h with
  | nil => rfl
  | snoc _ _ ih => simp [ih]
structure Sim (c d : List Ins) (E : Nat × Nat) (base : List It) (k : Nat) (m m' : Ms) : Prop where
  steps : m'.steps = m.steps + k
  stack : ∃ s, m'.stack = base ++ s ∧ IRs c d m.stack s
  vars : IRs c d m.vars m'.vars
  frames : FsR c d E m.frames m'.frames
  at_ : ∃ p p' : Nat, m.at_ = ((p : Nat) : Int) ∧ m'.at_ = ((p' : Nat) : Int) ∧ CR c d (lvl E m.frames) p p'
  top : m.frames = [] → m'.vars = []
end Go.Proofs.YtodjpfpmhjdhbaaGreatDoor
/- One step in lockstep. -/
namespace Go.Proofs.YtodjpfpmhjdhbaaGreatDoor
open Go.Lg
section
variable {c d : List Ins} {E : Nat × Nat} {base : List It} {k : Nat}
theorem Sim.push {m m' : Ms} {x x' : It} (h : Sim c d E base k m m') (hx : IR c d x x') : Sim c d E base k (m.push x) (m'.push x') := by
  obtain ⟨s, hs, hr⟩ := h.stack
  exact ⟨h.steps, ⟨s ++ [x'], by simp [Ms.push, hs], hr.snoc hx⟩, h.vars, h.frames, h.at_, h.top⟩
theorem Sim.pop {m m' m1 : Ms} {x : It} (h : Sim c d E base k m m') (hp : m.pop = some (x, m1)) : ∃ x' m1', m'.pop = some (x', m1') ∧ IR c d x x' ∧ Sim c d E base k m1 m1' ∧ m1.frames = m.frames ∧ m1.at_ = m.at_ := by
  obtain ⟨s, hs, rfl⟩ := pop_inv hp
  obtain ⟨s', hs', hr⟩ := h.stack
  rw [hs] at hr
  obtain ⟨s1, x', rfl, h1, h2⟩ := hr.last
  refine ⟨x', { m' with stack := base ++ s1, sg := x' :: m'.sg }, ?_, h2, ⟨h.steps, ⟨s1, rfl, h1⟩, h.vars, h.frames, h.at_, h.top⟩, rfl, rfl⟩
  unfold Ms.pop
  rw [hs', ← List.append_assoc]
  simp
theorem Sim.enter {m m' m1 : Ms} {f a f' a' : It} {rd rd' : Option (Nat × Rd)} (h : Sim c d E base k m m') (hf : IR c d f f') (ha : IR c d a a') (hrd : (rd = none ∧ rd' = none) ∨ ∃ n n' r r', rd = some (n, r) ∧ rd' = some (n', r') ∧ RdR c d r r')
    (he : m.enter f a rd = .go m1) : ∃ m1', m'.enter f' a' rd' = .go m1' ∧ Sim c d E base k m1 m1' := by
  unfold Ms.enter at he
  split at he
  · rename_i p vs
    split at he
    · cases he
    · rename_i hl
      cases he
      cases hf with
      | fn hc hv =>
        rename_i p' vs'
        unfold Ms.enter
        simp only
        rw [if_neg (by rw [← h.frames.len]; exact hl)]
        refine ⟨_, rfl, h.steps, h.stack, .cons ha hv, .snoc h.frames ⟨h.at_, h.vars, hrd, fun hn => h.top ?_⟩, ⟨p, p', rfl, rfl, ?_⟩, fun hn => ?_⟩
        · unfold lvl at hn
          split at hn
          · rename_i h1; simpa using h1
          · exact absurd rfl hn
        · simpa [lvl] using hc
        · simp at hn
  · cases he
theorem RdR.begin {r r' r1 : Rd} {f a : It} (h : RdR c d r r') (hb : r.begin = some (f, a, r1)) : ∃ f' a' r1', r'.begin = some (f', a', r1') ∧ IR c d f f' ∧ IR c d a a' ∧ RdR c d r1 r1' := by
  unfold Rd.begin at hb ⊢
  rw [← h.args]
  split at hb
  · cases hb
    refine ⟨_, _, _, rfl, h.f, by rw [h.next]; exact .num, h.f, h.next, rfl, h.count, h.result, .cons h.result .nil⟩
  · rename_i l e
    split at hb
    · rename_i hd tl hg
      cases hb
      rw [h.next] at hg
      simp only [hg]
      exact ⟨_, _, _, rfl, h.f, .num, h.f, h.next, rfl, h.count, h.result, .cons .list (.cons h.result .nil)⟩
    · cases hb
theorem RdR.returned {r r' r1 : Rd} {x x' : It} {q : Option (It × It)} (h : RdR c d r r') (hx : IR c d x x') (hb : r.returned x = some (q, r1)) :
    ∃ q' r1', r'.returned x' = some (q', r1') ∧ ((q = none ∧ q' = none) ∨ ∃ f a f' a', q = some (f, a) ∧ q' = some (f', a') ∧ IR c d f f' ∧ IR c d a a' ∧ RdR c d r1 r1') := by
  have hleft := h.left
  unfold Rd.returned at hb ⊢
  split at hb
  · rename_i a rest e
    cases hb
    rw [e] at hleft
    generalize r'.left = L at *
    cases hleft with
    | cons h1 h2 => exact ⟨_, _, rfl, .inr ⟨_, _, _, _, rfl, rfl, hx, h1, h.f, h.next, h.args, h.count, h.result, h2⟩⟩
  · rename_i e
    rw [e] at hleft
    have e' : r'.left = [] := by
      generalize r'.left = L at *
      cases hleft
      rfl
    rw [e']
    simp only
    split at hb
    · rename_i hc
      cases hb
      rw [if_pos (by rw [← h.next, ← h.count]; exact hc)]
      exact ⟨_, _, rfl, .inl ⟨rfl, rfl⟩⟩
    · rename_i hc
      rw [if_neg (by rw [← h.next, ← h.count]; exact hc)]
      split at hb
      · rename_i f a r2 hbeg
        cases hb
        have h2 : RdR c d { r with result := x, next := r.next + 1, left := [] } { r' with result := x', next := r'.next + 1, left := [] } := ⟨h.f, by rw [h.next], h.args, h.count, hx, .nil⟩
        have hbeg' : Rd.begin { r with result := x, next := r.next + 1, left := [] } = some (f, a, r1) := by rw [← e]; exact hbeg
        obtain ⟨f', a', r1', hb', h3, h4, h5⟩ := h2.begin hbeg'
        have hb2 : Rd.begin { r' with result := x', next := r'.next + 1 } = some (f', a', r1') := by rw [← e'] at hb'; exact hb'
        refine ⟨some (f', a'), r1', ?_, .inr ⟨_, _, _, _, rfl, rfl, h3, h4, h5⟩⟩
        first
          | rw [hb2]
          | (simp only [hb'])
      · cases hb
theorem Sim.stopIf {m m' m1 : Ms} (h : Sim c d E base k m m') (hs : stopIf m = .go m1) : stopIf m' = .go m' ∧ m1 = m := by
  obtain ⟨p, p', h1, h2, -⟩ := h.at_
  unfold Go.Lg.stopIf at hs ⊢
  rw [if_pos (by omega)] at hs ⊢
  cases hs
  exact ⟨rfl, rfl⟩
theorem FsR.last {fs : List Fr} {fr : Fr} {l : List Fr} (h : FsR c d E (fs ++ [fr]) l) : ∃ fs' fr', l = fs' ++ [fr'] ∧ FsR c d E fs fs' ∧ FrR c d (lvl E fs) fr fr' := by
  generalize hl : fs ++ [fr] = L at h
  cases h with
  | nil => simp at hl
  | snoc h1 h2 =>
    have := List.append_inj' hl rfl
    obtain ⟨rfl, e⟩ := this
    cases e
    exact ⟨_, _, rfl, h1, h2⟩
theorem Sim.leave {m m' m1 : Ms} (h : Sim c d E base k m m') (hf : m.frames ≠ []) (hs : m.leave = some (.go m1)) : ∃ m1', m'.leave = some (.go m1') ∧ Sim c d E base k m1 m1' := by
  unfold Ms.leave at hs ⊢
  split at hs
  · cases hs
  · rename_i x m2 h1
    obtain ⟨x', m2', hp', hx, h2, hfr, -⟩ := h.pop h1
    rw [hp']
    simp only
    split at hs
    · rename_i hpf
      unfold Ms.popF at hpf
      split at hpf
      · cases hpf
      · rename_i e
        rw [List.getLast?_eq_none_iff] at e
        rw [hfr] at e
        exact absurd e hf
    · rename_i fr m3 hpf
      unfold Ms.popF at hpf
      split at hpf
      · rename_i y e
        cases hpf
        have hsp := last_split e
        have hF := h2.frames
        rw [hsp] at hF
        obtain ⟨fs', fr', hl', h3, h4⟩ := hF.last
        have hpf' : m2'.popF = some (fr', { m2' with frames := fs', fg := fr' :: m2'.fg, at_ := fr'.at_, vars := fr'.vars }) := by
          unfold Ms.popF
          rw [hl']
          simp
        rw [hpf']
        simp only
        have hS : Sim c d E base k { m2 with frames := m2.frames.dropLast, fg := fr :: m2.fg, at_ := fr.at_, vars := fr.vars } { m2' with frames := fs', fg := fr' :: m2'.fg, at_ := fr'.at_, vars := fr'.vars } := ⟨h2.steps, h2.stack, h4.vars, h3, h4.at_, fun hn => h4.top (by simp only at hn; rw [hn]; simp [lvl])⟩
        rcases h4.rd with ⟨e1, e2⟩ | ⟨n, n', r, r', e1, e2, hr⟩
        · rw [e1] at hs
          rw [e2]
          simp only [Option.some.injEq] at hs ⊢
          have := (hS.push hx).stopIf hs
          exact ⟨_, this.1, by rw [this.2]; exact hS.push hx⟩
        · rw [e1] at hs
          rw [e2]
          simp only at hs ⊢
          split at hs
          · cases hs
          · rename_i r1 hret
            obtain ⟨q', r1', hret', hq⟩ := hr.returned hx hret
            rcases hq with ⟨-, rfl⟩ | ⟨f, a, f', a', e, -⟩
            · rw [hret']
              simp only [Option.some.injEq] at hs ⊢
              have := (hS.push hx).stopIf hs
              exact ⟨_, this.1, by rw [this.2]; exact hS.push hx⟩
            · cases e
          · rename_i f a r1 hret
            obtain ⟨q', r1', hret', hq⟩ := hr.returned hx hret
            rcases hq with ⟨e, -⟩ | ⟨f, a, f', a', e, rfl, h5, h6, h7⟩
            · cases e
            · cases e
              rw [hret']
              simp only [Option.some.injEq] at hs ⊢
              exact hS.enter h5 h6 (.inr ⟨_, _, _, _, rfl, rfl, h7⟩) hs
      · cases hpf
end
end Go.Proofs.YtodjpfpmhjdhbaaGreatDoor
/- Runs in lockstep. -/
namespace Go.Proofs.YtodjpfpmhjdhbaaGreatDoor
open Go.Lg
section
variable {c d : List Ins} {E : Nat × Nat} {base : List It} {k : Nat}
theorem Sim.made {m m' m1 : Ms} {x x' : It} (h : Sim c d E base k m m') (hx : IR c d x x') (hs : made m x = .go m1) : made m' x' = .go (m'.push x') ∧ m1 = m.push x := by
  unfold Go.Lg.made at hs ⊢
  rw [← hx.more]
  split at hs
  · cases hs
  · rename_i hn
    cases hs
    rw [if_neg hn]
    exact ⟨rfl, rfl⟩
theorem rdOf_rel {f f' b b' x x' : It} {list : Bool} {r : Rd} (hf : IR c d f f') (hb : IR c d b b') (hx : IR c d x x') (h : rdOf f b list x = some r) : ∃ r', rdOf f' b' list x' = some r' ∧ RdR c d r r' := by
  unfold rdOf at h
  split at h
  · cases h
    cases hx
    exact ⟨_, rfl, hf, rfl, rfl, rfl, hb, .nil⟩
  · cases h
    cases hx
    exact ⟨_, rfl, hf, rfl, rfl, rfl, hb, .nil⟩
  · cases h
theorem Sim.recursion {m m' m1 : Ms} {n n' : Nat} {list : Bool} (h : Sim c d E base k m m') (hs : m.recursion n list = some (.go m1)) : ∃ m1', m'.recursion n' list = some (.go m1') ∧ Sim c d E base k m1 m1' := by
  unfold Ms.recursion at hs ⊢
  split at hs
  · cases hs
  · rename_i x m2 h1
    obtain ⟨x', m2', p1, hx, h, -⟩ := h.pop h1
    rw [p1]
    simp only
    split at hs
    · cases hs
    · rename_i f m3 h2
      obtain ⟨f', m3', p2, hf, h, -⟩ := h.pop h2
      rw [p2]
      simp only
      split at hs
      · cases hs
      · rename_i b m4 h3
        obtain ⟨b', m4', p3, hb, h, -⟩ := h.pop h3
        rw [p3]
        simp only
        split at hs
        · rename_i q vs
          have hf0 := hf
          cases hf with
          | fn hc hv =>
            simp only
            split at hs
            · cases hs
            · rename_i rr hrr
              obtain ⟨rr', hrr', hR⟩ := rdOf_rel hf0 hb hx hrr
              rw [hrr']
              simp only
              rw [← hR.count]
              split at hs
              · rename_i hz
                cases hs
                rw [if_pos hz]
                exact ⟨_, rfl, h.push hb⟩
              · rename_i hz
                rw [if_neg hz]
                split at hs
                · rename_i g a r1 hbeg
                  obtain ⟨g', a', r1', hb', h5, h6, h7⟩ := hR.begin hbeg
                  rw [hb']
                  simp only [Option.some.injEq] at hs ⊢
                  exact h.enter h5 h6 (.inr ⟨_, _, _, _, rfl, rfl, h7⟩) hs
                · cases hs
        · cases hs
theorem Sim.exec {m m' m1 : Ms} {n n' op a : Nat} (h : Sim c d E base k m m') (h2 : op ≠ 2) (h1 : 1 ≤ op) (h14 : op < 14) (hs : m.exec n op a = some (.go m1)) : ∃ m1', m'.exec n' op a = some (.go m1') ∧ Sim c d E base k m1 m1' := by
  have hop : op = 1 ∨ op = 3 ∨ op = 4 ∨ op = 5 ∨ op = 6 ∨ op = 7 ∨ op = 8 ∨ op = 9 ∨ op = 10 ∨ op = 11 ∨ op = 12 ∨ op = 13 := by omega
  rcases hop with rfl | rfl | rfl | rfl | rfl | rfl | rfl | rfl | rfl | rfl | rfl | rfl
  · simp only [Ms.exec] at hs ⊢
    rcases h.vars.get a with ⟨e1, e2⟩ | ⟨x, x', e1, e2, hx⟩
    · rw [e1] at hs; cases hs
    · rw [e1] at hs
      rw [e2]
      cases hs
      exact ⟨_, rfl, h.push hx⟩
  · simp only [Ms.exec] at hs ⊢
    split at hs
    · cases hs
    · rename_i x m2 p1
      obtain ⟨x', m2', p1', hx, h, -⟩ := h.pop p1
      rw [p1']
      simp only
      split at hs
      · cases hs
      · rename_i f m3 p2
        obtain ⟨f', m3', p2', hf, h, -⟩ := h.pop p2
        rw [p2']
        simp only [Option.some.injEq] at hs ⊢
        exact h.enter hf hx (.inl ⟨rfl, rfl⟩) hs
  · simp only [Ms.exec] at hs ⊢
    cases hs
    exact ⟨_, rfl, h.push .num⟩
  · simp only [Ms.exec] at hs ⊢
    split at hs
    · cases hs
    · rename_i j m2 p1
      obtain ⟨x', m2', p1', hx, h, -⟩ := h.pop p1
      cases hx
      rw [p1']
      cases hs
      exact ⟨_, rfl, h.push .num⟩
    · cases hs
  · exact h.recursion hs
  · simp only [Ms.exec] at hs ⊢
    cases hs
    exact ⟨_, rfl, h.push .list⟩
  · simp only [Ms.exec] at hs ⊢
    split at hs
    · cases hs
    · rename_i x m2 p1
      obtain ⟨x', m2', p1', hx, h, -⟩ := h.pop p1
      rw [p1']
      simp only
      split at hs
      · cases hs
      · rename_i f m3 p2
        obtain ⟨f', m3', p2', hf, h, -⟩ := h.pop p2
        rw [p2']
        simp only
        split at hs
        · cases hf
          cases hx
          simp only
          split at hs
          · cases hs
          · rename_i hn
            cases hs
            rw [if_neg hn]
            exact ⟨_, rfl, h.push .list⟩
        · cases hs
  · exact h.recursion hs
  · simp only [Ms.exec] at hs ⊢
    split at hs
    · cases hs
    · rename_i x m2 p1
      obtain ⟨x', m2', p1', hx, h, -⟩ := h.pop p1
      rw [p1']
      simp only
      split at hs
      · cases hs
      · rename_i f m3 p2
        obtain ⟨f', m3', p2', hf, h, -⟩ := h.pop p2
        rw [p2']
        simp only [Option.some.injEq] at hs ⊢
        have := h.made (.pair hf hx) hs
        exact ⟨_, this.1, by rw [this.2]; exact h.push (.pair hf hx)⟩
  · simp only [Ms.exec] at hs ⊢
    split at hs
    · cases hs
    · rename_i x y m2 p1
      obtain ⟨x', m2', p1', hx, h, -⟩ := h.pop p1
      cases hx with
      | pair h3 h4 =>
        rw [p1']
        cases hs
        exact ⟨_, rfl, h.push h3⟩
    · cases hs
  · simp only [Ms.exec] at hs ⊢
    split at hs
    · cases hs
    · rename_i x y m2 p1
      obtain ⟨x', m2', p1', hx, h, -⟩ := h.pop p1
      cases hx with
      | pair h3 h4 =>
        rw [p1']
        cases hs
        exact ⟨_, rfl, h.push h4⟩
    · cases hs
  · simp only [Ms.exec] at hs ⊢
    cases hs
    exact ⟨_, rfl, h.push .unit⟩
/-- an operation that is no return does not stop -/
theorem exec_nostop {m m1 : Ms} {n op a : Nat} (h14 : op < 14) (h1 : 1 ≤ op) (hs : m.exec n op a = some (.stop m1)) : False := by
  have hen : ∀ (m : Ms) (f a : It) (rd : Option (Nat × Rd)), m.enter f a rd ≠ .stop m1 := by
    intro m f a rd he
    unfold Ms.enter at he
    split at he
    · split at he <;> cases he
    · cases he
  have hrec : ∀ (m : Ms) n b, m.recursion n b ≠ some (.stop m1) := by
    intro m n b hr
    unfold Ms.recursion at hr
    split at hr
    · cases hr
    · split at hr
      · cases hr
      · split at hr
        · cases hr
        · split at hr
          · split at hr
            · cases hr
            · split at hr
              · cases hr
              · split at hr
                · exact hen _ _ _ _ (Option.some.inj hr)
                · cases hr
          · cases hr
  have hma : ∀ (m : Ms) x, made m x ≠ .stop m1 := by
    intro m x hm
    unfold made at hm
    split at hm <;> cases hm
  have hop : op = 1 ∨ op = 2 ∨ op = 3 ∨ op = 4 ∨ op = 5 ∨ op = 6 ∨ op = 7 ∨ op = 8 ∨ op = 9 ∨ op = 10 ∨ op = 11 ∨ op = 12 ∨ op = 13 := by omega
  rcases hop with rfl | rfl | rfl | rfl | rfl | rfl | rfl | rfl | rfl | rfl | rfl | rfl | rfl <;> simp only [Ms.exec] at hs
  · split at hs <;> cases hs
  · exact hma _ _ (Option.some.inj hs)
  · split at hs
    · cases hs
    · split at hs
      · cases hs
      · exact hen _ _ _ _ (Option.some.inj hs)
  · cases hs
  · split at hs <;> cases hs
  · exact hrec _ _ _ hs
  · cases hs
  · split at hs
    · cases hs
    · split at hs
      · cases hs
      · split at hs
        · split at hs <;> cases hs
        · cases hs
  · exact hrec _ _ _ hs
  · split at hs
    · cases hs
    · split at hs
      · cases hs
      · exact hma _ _ (Option.some.inj hs)
  · split at hs <;> cases hs
  · split at hs <;> cases hs
  · cases hs
theorem Sim.next {m m' : Ms} (h : Sim c d E base k m m') {p p' : Nat} (ha : m.at_ = ((p : Nat) : Int)) (ha' : m'.at_ = ((p' : Nat) : Int)) (hc : CR c d (lvl E m.frames) (p + 1) (p' + 1)) :
    Sim c d E base k { m with steps := m.steps + 1, at_ := m.at_ + 1 } { m' with steps := m'.steps + 1, at_ := m'.at_ + 1 } :=
  ⟨by simp only [h.steps]; omega, h.stack, h.vars, h.frames, ⟨p + 1, p' + 1, by simp only [ha]; omega, by simp only [ha']; omega, hc⟩, h.top⟩
/-- at the end of the block -/
def AtEnd (E : Nat × Nat) (m : Ms) : Prop := m.frames = [] ∧ m.at_ = ((E.1 : Nat) : Int)
theorem Sim.step {m m' : Ms} {l l' n n' : Nat} (h : Sim c d E base k m m') (he : ¬ (AtEnd E m ∧ m'.at_ = ((E.2 : Nat) : Int))) (hl' : ¬ m'.steps = l') :
    (∀ m1, m.step c l n = some (.go m1) → ∃ m1', m'.step d l' n' = some (.go m1') ∧ Sim c d E base k m1 m1') ∧ (∀ m1, m.step c l n ≠ some (.stop m1)) := by
  obtain ⟨p, p', ha, ha', hc⟩ := h.at_
  have hst : ∀ op a, c[p]? = some (op, a) → ∀ r, m.step c l n = some r → r ≠ .err 5 ∨ True := fun _ _ _ _ _ => .inr trivial
  have run : ∀ {op a : Nat} {r : Res}, c[p]? = some (op, a) → m.step c l n = some r → (∃ e, r = .err e) ∨ Ms.exec { m with steps := m.steps + 1, at_ := m.at_ + 1 } n op a = some r := by
    intro op a r hop hr
    unfold Ms.step at hr
    split at hr
    · cases hr; exact .inl ⟨_, rfl⟩
    · rw [if_neg (by omega), ha, Int.toNat_natCast, hop] at hr
      right
      rw [ha]
      exact hr
  have run' : ∀ {op a : Nat}, d[p']? = some (op, a) → m'.step d l' n' = Ms.exec { m' with steps := m'.steps + 1, at_ := m'.at_ + 1 } n' op a := by
    intro op a hop
    unfold Ms.step
    rw [if_neg hl', if_neg (by omega), ha', Int.toNat_natCast, hop]
  cases hc' : lvl E m.frames with
  | none =>
    have hfr : m.frames ≠ [] := by
      intro e
      rw [e] at hc'
      simp [lvl] at hc'
    rw [hc'] at hc
    cases hc with
    | ret h1 h2 =>
      constructor
      · intro m1 hs
        rcases run h1 hs with ⟨e, he⟩ | hs
        · cases he
        · rw [run' h2]
          have hS : Sim c d E base k { m with steps := m.steps + 1 } { m' with steps := m'.steps + 1 } := ⟨by simp only [h.steps]; omega, h.stack, h.vars, h.frames, h.at_, h.top⟩
          have hat : ∀ (m : Ms) (z : Int), m.frames ≠ [] → Ms.leave { m with at_ := z } = Ms.leave m := by
            intro m z hf
            unfold Ms.leave Ms.pop
            simp only
            cases e : m.stack.getLast? with
            | none => rfl
            | some x =>
              simp only
              unfold Ms.popF
              simp only
              cases e2 : m.frames.getLast? with
              | none => exact absurd (List.getLast?_eq_none_iff.1 e2) hf
              | some fr => rfl
          have hfr' : m'.frames ≠ [] := by
            intro e
            have := h.frames.len
            rw [e] at this
            exact hfr (List.eq_nil_of_length_eq_zero (by simpa using this))
          have hs : Ms.leave { m with steps := m.steps + 1, at_ := m.at_ + 1 } = some (.go m1) := hs
          show ∃ m1', Ms.leave { m' with steps := m'.steps + 1, at_ := m'.at_ + 1 } = some (.go m1') ∧ _
          rw [hat { m with steps := m.steps + 1 } (m.at_ + 1) hfr] at hs
          rw [hat { m' with steps := m'.steps + 1 } (m'.at_ + 1) hfr']
          exact hS.leave hfr hs
      · intro m1 hs
        rcases run h1 hs with ⟨e, he⟩ | hs
        · cases he
        · -- a return from a frame goes on
          have hs : Ms.leave { m with steps := m.steps + 1, at_ := m.at_ + 1 } = some (.stop m1) := hs
          unfold Ms.leave at hs
          split at hs
          · cases hs
          · rename_i x m2 hp
            obtain ⟨s, hs2, rfl⟩ := pop_inv hp
            split at hs
            · rename_i hpf
              unfold Ms.popF at hpf
              split at hpf
              · cases hpf
              · rename_i e
                exact hfr (List.getLast?_eq_none_iff.1 e)
            · rename_i fr m3 hpf
              unfold Ms.popF at hpf
              split at hpf
              · rename_i y e
                cases hpf
                have hsp := last_split e
                have hF := h.frames
                simp only at hsp
                rw [hsp] at hF
                obtain ⟨fs', fr', -, -, h4⟩ := hF.last
                obtain ⟨q, q', hq, -, -⟩ := h4.at_
                have hsi : ∀ (m : Ms), m.at_ = fr.at_ → Go.Lg.stopIf m ≠ .stop m1 := by
                  intro m hm hs
                  unfold Go.Lg.stopIf at hs
                  rw [if_pos (by rw [hm, hq]; omega)] at hs
                  cases hs
                split at hs
                · exact hsi _ rfl (Option.some.inj hs)
                · split at hs
                  · cases hs
                  · exact hsi _ rfl (Option.some.inj hs)
                  · have := Option.some.inj hs
                    unfold Ms.enter at this
                    split at this
                    · split at this <;> cases this
                    · cases this
              · cases hpf
    | step h1 h2 g1 g2 g3 g4 g5 =>
      have hn := h.next ha ha' (by rw [hc']; exact g5)
      constructor
      · intro m1 hs
        rcases run h1 hs with ⟨e, he⟩ | hs
        · cases he
        · rw [run' h2]
          exact hn.exec g1 g2 g3 hs
      · intro m1 hs
        rcases run h1 hs with ⟨e, he⟩ | hs
        · cases he
        · exact exec_nostop g3 g2 hs
    | fn h1 h2 g1 g2 g3 =>
      have hn := h.next ha ha' (by rw [hc']; exact g3)
      constructor
      · intro m1 hs
        rcases run h1 hs with ⟨e, he⟩ | hs
        · cases he
        · rw [run' h2]
          simp only [Ms.exec, Option.some.injEq] at hs ⊢
          have := hn.made (.fn g2 h.vars) hs
          exact ⟨_, this.1, by rw [this.2]; exact hn.push (.fn g2 h.vars)⟩
      · intro m1 hs
        rcases run h1 hs with ⟨e, he⟩ | hs
        · cases he
        · exact exec_nostop (by decide) (by decide) hs
  | some e =>
    have hfr : m.frames = [] ∧ e = E := by
      unfold lvl at hc'
      split at hc'
      · rename_i h1
        exact ⟨by simpa using h1, (Option.some.inj hc').symm⟩
      · cases hc'
    obtain ⟨hfr, rfl⟩ := hfr
    rw [hc'] at hc
    cases hc with
    | fin => exact absurd ⟨⟨hfr, ha⟩, ha'⟩ he
    | step h1 h2 g1 g2 g3 g4 g5 =>
      have hn := h.next ha ha' (by rw [hc']; exact g5)
      constructor
      · intro m1 hs
        rcases run h1 hs with ⟨e, he⟩ | hs
        · cases he
        · rw [run' h2]
          exact hn.exec g1 g2 g3 hs
      · intro m1 hs
        rcases run h1 hs with ⟨e, he⟩ | hs
        · cases he
        · exact exec_nostop g3 g2 hs
    | fn h1 h2 g1 g2 g3 =>
      have hn := h.next ha ha' (by rw [hc']; exact g3)
      constructor
      · intro m1 hs
        rcases run h1 hs with ⟨e, he⟩ | hs
        · cases he
        · rw [run' h2]
          simp only [Ms.exec, Option.some.injEq] at hs ⊢
          have := hn.made (.fn g2 h.vars) hs
          exact ⟨_, this.1, by rw [this.2]; exact hn.push (.fn g2 h.vars)⟩
      · intro m1 hs
        rcases run h1 hs with ⟨e, he⟩ | hs
        · cases he
        · exact exec_nostop (by decide) (by decide) hs
end
end Go.Proofs.YtodjpfpmhjdhbaaGreatDoor
/- The program of a pair. -/
namespace Go.Proofs.YtodjpfpmhjdhbaaGreatDoor
open Go.Lg
inductive Gos (c : List Ins) (l : Nat) : Ms → Ms → Prop
  | refl {m : Ms} : Gos c l m m
  | step {m m1 m2 : Ms} : m.step c l (1000 + m.steps) = some (.go m1) → Gos c l m1 m2 → Gos c l m m2
theorem Gos.runs {c : List Ins} {l : Nat} {m m' : Ms} {r : Res} (h : Gos c l m m') (hr : Runs c l m' r) : Runs c l m r := by
  induction h with
  | refl => exact hr
  | step h1 _ ih => exact .go h1 (ih hr)
theorem Gos.trans {c : List Ins} {l : Nat} {m m1 m2 : Ms} (h : Gos c l m m1) (h' : Gos c l m1 m2) : Gos c l m m2 := by
  induction h with
  | refl => exact h'
  | step h1 _ ih => exact .step h1 (ih h')
end Go.Proofs.YtodjpfpmhjdhbaaGreatDoor
/- What a scan of compiled code sees. -/
namespace Go.Proofs.YtodjpfpmhjdhbaaGreatDoor
open Go.Lg
def takes : Nat → Nat
  | 3 => 2 | 5 => 1 | 6 => 3 | 8 => 2 | 9 => 3 | 10 => 2 | 11 => 1 | 12 => 1
  | _ => 0
/-- how high the stack is, where blocks begin, which places functions name -/
def scH (c : List Ins) : Nat → Nat
  | 0 => 0
  | k + 1 => match c[k]? with
    | some (op, _) => if op = 14 then 0 else scH c k + 1 - takes op
    | none => 0
def scS (c : List Ins) : Nat → List Nat
  | 0 => [0]
  | k + 1 => match c[k]? with
    | some (op, _) => if op = 14 then scS c k ++ [k + 1] else scS c k
    | none => scS c k
def scF (c : List Ins) : Nat → List Nat
  | 0 => []
  | k + 1 => match c[k]? with
    | some (op, a) => if op = 2 then scF c k ++ [a] else scF c k
    | none => scF c k
def scG (c : List Ins) : Nat → List Nat
  | 0 => []
  | k + 1 => match c[k]? with
    | some (op, _) => if op = 2 then scG c k ++ [k] else scG c k
    | none => scG c k
/-- the scan goes on behind an instruction -/
def Pass (c : List Ins) (k : Nat) : Prop := ∃ op a, c[k]? = some (op, a) ∧ 1 ≤ op ∧ op ≤ 14 ∧ (op = 14 → a = 0 ∧ scH c k = 1) ∧ (op ≠ 14 → takes op ≤ scH c k) ∧ (op ≠ 1 → op ≠ 2 → a = 0)
/-- the places of functions in a block -/
def lp : Tm → Nat → List Nat
  | .var _, _ => [] | .zero, _ => [] | .nil, _ => [] | .unit, _ => []
  | .lam _ _, p => [p]
  | .app f a, p => lp f p ++ lp a (p + inl f)
  | .succ a, p => lp a p
  | .recn _ a b c, p => lp a p ++ lp b (p + inl a) ++ lp c (p + inl a + inl b)
  | .cons a b, p => lp a p ++ lp b (p + inl a)
  | .fold _ a b c, p => lp a p ++ lp b (p + inl a) ++ lp c (p + inl a + inl b)
  | .pair a b, p => lp a p ++ lp b (p + inl a)
  | .fst a, p => lp a p
  | .snd a, p => lp a p
theorem SA_len {c : List Ins} {L : List (Nat × Tm)} {t : Tm} : ∀ {p q : Nat}, SA c L t p q → q = p + inl t := by
  induction t with
  | var i => rintro p q ⟨-, rfl⟩; simp [inl]
  | lam s b ih => rintro p q ⟨-, rfl⟩; simp [inl]
  | zero => rintro p q ⟨-, rfl⟩; simp [inl]
  | nil => rintro p q ⟨-, rfl⟩; simp [inl]
  | unit => rintro p q ⟨-, rfl⟩; simp [inl]
  | succ a i => rintro p q ⟨m, h1, -, rfl⟩; have := i h1; simp [inl]; omega
  | fst a i => rintro p q ⟨m, h1, -, rfl⟩; have := i h1; simp [inl]; omega
  | snd a i => rintro p q ⟨m, h1, -, rfl⟩; have := i h1; simp [inl]; omega
  | app a b i j => rintro p q ⟨m, n, h1, h2, -, rfl⟩; have := i h1; have := j h2; simp [inl]; omega
  | cons a b i j => rintro p q ⟨m, n, h1, h2, -, rfl⟩; have := i h1; have := j h2; simp [inl]; omega
  | pair a b i j => rintro p q ⟨m, n, h1, h2, -, rfl⟩; have := i h1; have := j h2; simp [inl]; omega
  | recn s a b c i j k => rintro p q ⟨l, m, n, h1, h2, h3, -, rfl⟩; have := i h1; have := j h2; have := k h3; simp [inl]; omega
  | fold s a b c i j k => rintro p q ⟨l, m, n, h1, h2, h3, -, rfl⟩; have := i h1; have := j h2; have := k h3; simp [inl]; omega
/-- a scan from p to q -/
structure Scan (c : List Ins) (p q h : Nat) (g : List Nat) : Prop where
  le : p ≤ q
  high : scH c q = scH c p + h
  starts : scS c q = scS c p
  funs : scG c q = scG c p ++ g
  pass : ∀ k, p ≤ k → k < q → Pass c k
theorem Scan.trans {c : List Ins} {p q r h h' : Nat} {g g' : List Nat} (a : Scan c p q h g) (b : Scan c q r h' g') : Scan c p r (h + h') (g ++ g') :=
  ⟨Nat.le_trans a.le b.le, by rw [b.high, a.high]; omega, by rw [b.starts, a.starts], by rw [b.funs, a.funs]; simp, fun k h1 h2 => by
    by_cases hk : k < q
    · exact a.pass k h1 hk
    · exact b.pass k (by omega) h2⟩
/-- an operation behind its operands -/
theorem Scan.op {c : List Ins} {p n h op : Nat} {g : List Nat} (a : Scan c p n h g) (hc : c[n]? = some (op, 0)) (h1 : 1 ≤ op) (h2 : op < 14) (h3 : op ≠ 2) (ht : takes op = h) : Scan c p (n + 1) 1 g := by
  have hn : ¬ op = 14 := by omega
  refine ⟨by have := a.le; omega, ?_, ?_, ?_, ?_⟩
  · simp only [scH, hc, if_neg hn, a.high]; omega
  · simp only [scS, hc, if_neg hn, a.starts]
  · simp only [scG, hc, if_neg h3, a.funs]
  · intro k hk1 hk2
    by_cases hk : k < n
    · exact a.pass k hk1 hk
    · have : k = n := by omega
      subst this
      exact ⟨op, 0, hc, h1, by omega, fun e => absurd e hn, fun _ => by rw [a.high]; omega, fun _ _ => rfl⟩
theorem Scan.refl (c : List Ins) (p : Nat) : Scan c p p 0 [] := ⟨Nat.le_refl _, rfl, rfl, by simp, fun k h1 h2 => by omega⟩
theorem Scan.var {c : List Ins} {p a : Nat} (hc : c[p]? = some (1, a)) : Scan c p (p + 1) 1 [] := by
  refine ⟨by omega, by simp [scH, hc, takes], by simp [scS, hc], by simp [scG, hc], ?_⟩
  intro k h1 h2
  have : k = p := by omega
  subst this
  exact ⟨1, a, hc, by decide, by decide, ⟨fun e => absurd e (by decide), fun _ => Nat.zero_le _, fun e => absurd rfl e⟩⟩
theorem Scan.fn {c : List Ins} {p a : Nat} (hc : c[p]? = some (2, a)) : Scan c p (p + 1) 1 [p] := by
  refine ⟨by omega, by simp [scH, hc, takes], by simp [scS, hc], by simp [scG, hc], ?_⟩
  intro k h1 h2
  have : k = p := by omega
  subst this
  exact ⟨2, a, hc, by decide, by decide, ⟨fun e => absurd e (by decide), fun _ => Nat.zero_le _, fun _ e => absurd rfl e⟩⟩
theorem SA.scan {c : List Ins} {L : List (Nat × Tm)} {t : Tm} : ∀ {p q : Nat}, SA c L t p q → Scan c p q 1 (lp t p) := by
  induction t with
  | var i => rintro p q ⟨h, rfl⟩; exact .var h
  | lam s b ih => rintro p q ⟨⟨⟨A, h⟩, -⟩, rfl⟩; exact .fn h
  | zero => rintro p q ⟨h, rfl⟩; exact (Scan.refl c p).op h (by decide) (by decide) (by decide) rfl
  | nil => rintro p q ⟨h, rfl⟩; exact (Scan.refl c p).op h (by decide) (by decide) (by decide) rfl
  | unit => rintro p q ⟨h, rfl⟩; exact (Scan.refl c p).op h (by decide) (by decide) (by decide) rfl
  | succ a i => rintro p q ⟨m, h1, h2, rfl⟩; exact (i h1).op h2 (by decide) (by decide) (by decide) rfl
  | fst a i => rintro p q ⟨m, h1, h2, rfl⟩; exact (i h1).op h2 (by decide) (by decide) (by decide) rfl
  | snd a i => rintro p q ⟨m, h1, h2, rfl⟩; exact (i h1).op h2 (by decide) (by decide) (by decide) rfl
  | app a b i j => rintro p q ⟨m, n, h1, h2, h3, rfl⟩; have e := SA_len h1; subst e; exact ((i h1).trans (j h2)).op h3 (by decide) (by decide) (by decide) rfl
  | cons a b i j => rintro p q ⟨m, n, h1, h2, h3, rfl⟩; have e := SA_len h1; subst e; exact ((i h1).trans (j h2)).op h3 (by decide) (by decide) (by decide) rfl
  | pair a b i j => rintro p q ⟨m, n, h1, h2, h3, rfl⟩; have e := SA_len h1; subst e; exact ((i h1).trans (j h2)).op h3 (by decide) (by decide) (by decide) rfl
  | recn s a b c i j k => rintro p q ⟨l, m, n, h1, h2, h3, h4, rfl⟩; have e := SA_len h1; subst e; have e := SA_len h2; subst e; exact (((i h1).trans (j h2)).trans (k h3)).op h4 (by decide) (by decide) (by decide) rfl
  | fold s a b c i j k => rintro p q ⟨l, m, n, h1, h2, h3, h4, rfl⟩; have e := SA_len h1; subst e; have e := SA_len h2; subst e; exact (((i h1).trans (j h2)).trans (k h3)).op h4 (by decide) (by decide) (by decide) rfl
theorem blk_lp (t : Tm) : ∀ m : Mk, (blkT t m).places = m.places ++ lp t m.code.length := by
  induction t with
  | var i => intro m; simp [blkT, Mk.emit, lp]
  | zero => intro m; simp [blkT, Mk.emit, lp]
  | nil => intro m; simp [blkT, Mk.emit, lp]
  | unit => intro m; simp [blkT, Mk.emit, lp]
  | lam s b ih => intro m; rfl
  | succ a i => intro m; exact i m
  | fst a i => intro m; exact i m
  | snd a i => intro m; exact i m
  | app a b i j => intro m; simp only [blkT, Mk.emit, j, i, lp, blk_codelen, List.append_assoc]
  | cons a b i j => intro m; simp only [blkT, Mk.emit, j, i, lp, blk_codelen, List.append_assoc]
  | pair a b i j => intro m; simp only [blkT, Mk.emit, j, i, lp, blk_codelen, List.append_assoc]
  | recn s a b c i j k => intro m; simp only [blkT, Mk.emit, k, j, i, lp, blk_codelen, List.append_assoc]
  | fold s a b c i j k => intro m; simp only [blkT, Mk.emit, k, j, i, lp, blk_codelen, List.append_assoc]
end Go.Proofs.YtodjpfpmhjdhbaaGreatDoor
/- Compiled code passes the scan. -/
namespace Go.Proofs.YtodjpfpmhjdhbaaGreatDoor
open Go.Lg
theorem Ext.lt {c c' : List Ins} (h : Ext c c') {k : Nat} (hk : k < c.length) : ∃ op a a', c[k]? = some (op, a) ∧ c'[k]? = some (op, a') ∧ (op ≠ 2 → a' = a) := by
  have e := List.getElem?_eq_getElem hk
  obtain ⟨a', h1, h2⟩ := h k (c[k]).1 (c[k]).2 (by rw [e])
  exact ⟨_, _, a', by rw [e], h1, h2⟩
theorem scH_ext {c c' : List Ins} (h : Ext c c') : ∀ k, k ≤ c.length → scH c' k = scH c k ∧ scS c' k = scS c k ∧ scG c' k = scG c k := by
  intro k
  induction k with
  | zero => intro _; exact ⟨rfl, rfl, rfl⟩
  | succ k ih =>
    intro hk
    obtain ⟨i1, i2, i3⟩ := ih (by omega)
    obtain ⟨op, a, a', h1, h2, -⟩ := h.lt (k := k) (by omega)
    simp only [scH, scS, scG, h1, h2, i1, i2, i3, and_self]
theorem Pass.ext {c c' : List Ins} (h : Ext c c') {k : Nat} (hk : k < c.length) (hp : Pass c k) : Pass c' k := by
  obtain ⟨op, a, h1, h2, h3, h4, h5, h6⟩ := hp
  obtain ⟨a', h7, h8⟩ := h k op a h1
  refine ⟨op, a', h7, h2, h3, fun e => ?_, fun e => ?_, fun e1 e2 => ?_⟩
  · rw [h8 (by omega), (scH_ext h k (by omega)).1]; exact h4 e
  · rw [(scH_ext h k (by omega)).1]; exact h5 e
  · rw [h8 e2]; exact h6 e1 e2
def pos (l : List Tm) : Nat → Nat
  | 0 => 0
  | j + 1 => pos l j + inl (l.getD j .unit) + 1
theorem pos_app (l r : List Tm) : ∀ j, j ≤ l.length → pos (l ++ r) j = pos l j := by
  intro j
  induction j with
  | zero => intro _; rfl
  | succ j ih =>
    intro hj
    simp only [pos]
    rw [ih (by omega)]
    have : (l ++ r).getD j .unit = l.getD j .unit := by
      simp only [List.getD]
      rw [List.getElem?_append_left (by omega)]
    rw [this]
structure KP (t : Tm) (i : Nat) (m : Mk) : Prop where
  len : m.code.length = pos (t :: m.bodies) (i + 1)
  high : scH m.code m.code.length = 0
  starts : scS m.code m.code.length = (List.range (i + 2)).map (pos (t :: m.bodies))
  funs : scG m.code m.code.length = m.places
  pass : ∀ k, k < m.code.length → Pass m.code k
  don : ∀ j, j < i → ∀ p, m.places[j]? = some p → m.code[p]? = some (2, pos (t :: m.bodies) (j + 1)) ∧ p < pos (t :: m.bodies) (j + 1)
/-- a return behind a block -/
theorem scan_ret {c : List Ins} {p q : Nat} {g : List Nat} (h : Scan c p q 1 g) (h0 : scH c p = 0) (hq : c[q]? = some (14, 0)) : scH c (q + 1) = 0 ∧ scS c (q + 1) = scS c p ++ [q + 1] ∧ scG c (q + 1) = scG c p ++ g ∧ ∀ k, p ≤ k → k < q + 1 → Pass c k := by
  have hh := h.high
  refine ⟨by simp [scH, hq], by simp [scS, hq, h.starts], by simp [scG, hq, h.funs], ?_⟩
  intro k h1 h2
  by_cases hk : k < q
  · exact h.pass k h1 hk
  · have : k = q := by omega
    subst this
    exact ⟨14, 0, hq, by decide, by decide, ⟨fun _ => ⟨rfl, by omega⟩, fun e => absurd rfl e, fun _ _ => rfl⟩⟩
theorem KP.start (t : Tm) : KP t 0 (begC t) := by
  have hS := (KC.start t).top
  have hl := blk_codelen t ⟨[], [], []⟩
  simp only [List.length_nil, Nat.zero_add] at hl
  have hlen : (begC t).code.length = inl t + 1 := by
    unfold begC
    rw [emit_len, hl]
  obtain ⟨r1, r2, r3, r4⟩ := scan_ret hS.1.scan rfl hS.2
  have hp : (begC t).places = lp t 0 := by
    show (blkT t ⟨[], [], []⟩).places = _
    rw [blk_lp]
    rfl
  have hpos : pos (t :: (begC t).bodies) 1 = inl t + 1 := by simp [pos]
  refine ⟨by rw [hlen, hpos], by rw [hlen]; exact r1, ?_, by rw [hlen, r3, hp]; rfl, fun k hk => r4 k (Nat.zero_le _) (by omega), fun j hj => by omega⟩
  rw [hlen, r2]
  simp [scS, List.range_succ, hpos, pos]
theorem KP.next {t : Tm} {i : Nat} {m : Mk} (hk : KC t i m) (h : KP t i m) (hi : i < m.bodies.length) : KP t (i + 1) (stepC m i) := by
  obtain ⟨b, hb⟩ : ∃ b, m.bodies[i]? = some b := ⟨_, List.getElem?_eq_getElem hi⟩
  obtain ⟨p, hp⟩ : ∃ p, m.places[i]? = some p := ⟨_, List.getElem?_eq_getElem (by rw [hk.len]; exact hi)⟩
  have hbd : m.bodies.getD i .unit = b := by simp [List.getD, hb]
  have hpd : m.places.getD i 0 = p := by simp [List.getD, hp]
  obtain ⟨A0, hA0⟩ := hk.pl.two p (List.mem_of_getElem? hp)
  have hpl : p < m.code.length := (List.getElem?_eq_some_iff.1 hA0).1
  have hpatch : m.patch p = ⟨m.code.set p (2, m.code.length), m.bodies, m.places⟩ := by
    unfold Mk.patch
    have : m.code.getD p (0, 0) = (2, A0) := by simp [List.getD, hA0]
    rw [this]
  have hst : stepC m i = (blkT b ⟨m.code.set p (2, m.code.length), m.bodies, m.places⟩).emit 14 0 := by
    unfold stepC
    rw [hbd, hpd, hpatch]
  generalize hm1 : (⟨m.code.set p (2, m.code.length), m.bodies, m.places⟩ : Mk) = m1 at *
  have c1 : m1.code = m.code.set p (2, m.code.length) := by rw [← hm1]
  have b1 : m1.bodies = m.bodies := by rw [← hm1]
  have q1 : m1.places = m.places := by rw [← hm1]
  have l1 : m1.places.length = m1.bodies.length := by rw [b1, q1]; exact hk.len
  have lc1 : m1.code.length = m.code.length := by rw [c1]; simp
  have e1 : Ext m.code m1.code := by rw [c1]; exact .set ⟨A0, hA0⟩
  have e2 : Ext m1.code (stepC m i).code := by
    rw [hst]
    exact (Ext.pre (blk_code b m1)).trans (emit_ext _ _ _)
  have e12 := e1.trans e2
  have x2 : ∀ (k : Nat) (v : Ins), m1.code[k]? = some v → (stepC m i).code[k]? = some v := by
    intro k v hk
    have hpre : m1.code <+: (stepC m i).code := by
      rw [hst]
      exact (blk_code b m1).trans (by simp [Mk.emit])
    obtain ⟨d, hd⟩ := hpre
    rw [← hd, List.getElem?_append_left (List.getElem?_eq_some_iff.1 hk).1]
    exact hk
  have hbods : (stepC m i).bodies = m.bodies ++ bods b := by
    rw [hst]
    show (blkT b m1).bodies = _
    rw [blk_bodies, b1]
  have hplc : (stepC m i).places = m.places ++ lp b m.code.length := by
    rw [hst]
    show (blkT b m1).places = _
    rw [blk_lp, q1, lc1]
  have hclen : (stepC m i).code.length = m.code.length + inl b + 1 := by
    rw [hst, emit_len, blk_codelen, lc1]
  have hSA : SA (stepC m i).code (stepC m i).prs b m.code.length (m.code.length + inl b) := by
    have := blk_SA b m1 l1
    rw [blk_codelen, lc1] at this
    rw [hst]
    exact this.mono (emit_ext _ _ _) (fun x hx => hx)
  have hR : (stepC m i).code[m.code.length + inl b]? = some (14, 0) := by
    have := emit_last (blkT b m1) 14 0
    rw [blk_codelen, lc1] at this
    rw [hst]
    exact this
  obtain ⟨x1, x3, x4⟩ := scH_ext e12 m.code.length (Nat.le_refl _)
  obtain ⟨r1, r2, r3, r4⟩ := scan_ret hSA.scan (by rw [x1]; exact h.high) hR
  have hpos : ∀ j, j ≤ i + 1 → pos (t :: (stepC m i).bodies) j = pos (t :: m.bodies) j := by
    intro j hj
    rw [hbods]
    exact pos_app (t :: m.bodies) (bods b) j (by simp; omega)
  have hpn : pos (t :: (stepC m i).bodies) (i + 2) = m.code.length + inl b + 1 := by
    show pos _ (i + 1) + inl ((t :: (stepC m i).bodies).getD (i + 1) .unit) + 1 = _
    rw [hpos (i + 1) (Nat.le_refl _), ← h.len]
    have : (t :: (stepC m i).bodies).getD (i + 1) .unit = b := by
      rw [hbods]
      simp only [List.getD, List.getElem?_cons_succ]
      rw [List.getElem?_append_left hi, hb]
      rfl
    rw [this]
  refine ⟨by rw [hclen, hpn], by rw [hclen]; exact r1, ?_, ?_, ?_, ?_⟩
  · rw [hclen, r2, x3, h.starts]
    rw [List.range_succ (n := i + 2), List.map_append]
    congr 1
    · refine List.map_congr_left ?_
      intro j hj
      exact (hpos j (by have := List.mem_range.1 hj; omega)).symm
    · simp [hpn]
  · rw [hclen, r3, x4, h.funs, hplc]
  · intro k hk'
    by_cases hkl : k < m.code.length
    · exact (h.pass k hkl).ext e12 hkl
    · exact r4 k (by omega) (by omega)
  · intro j hj p' hp'
    have hjl : j < m.places.length := by rw [hk.len]; omega
    rw [hplc, List.getElem?_append_left hjl] at hp'
    rw [hpos (j + 1) (by omega)]
    by_cases e : j = i
    · subst e
      rw [hp] at hp'
      cases hp'
      rw [← h.len]
      refine ⟨x2 _ _ ?_, hpl⟩
      rw [c1, List.getElem?_set_self hpl]
    · obtain ⟨h1, h2⟩ := h.don j (by omega) p' hp'
      refine ⟨x2 _ _ ?_, h2⟩
      have hne : p ≠ p' := by
        rintro rfl
        have hj' : j < m.places.length := hjl
        have hi' : i < m.places.length := by rw [hk.len]; exact hi
        rw [List.getElem?_eq_getElem hj'] at hp'
        rw [List.getElem?_eq_getElem hi'] at hp
        have h1 := Option.some.inj hp'
        have h2 := Option.some.inj hp
        exact e ((List.getElem_inj hk.pl.nd).1 (h1.trans h2.symm))
      rw [c1, List.getElem?_set_ne hne]
      exact h1
theorem KP.fin {t : Tm} {fin : Mk} {S : Nat} : ∀ (n i : Nat) (m : Mk), pend m i ≤ n → JC fin S i m → KC t i m → KP t i m → KP t fin.bodies.length fin := by
  have stop : ∀ (i : Nat) (m : Mk), ¬ i < m.bodies.length → JC fin S i m → KP t i m → KP t fin.bodies.length fin := by
    intro i m hi hj hp
    obtain ⟨k, -, hr⟩ := hj.run
    have : runC k i m = m := by
      cases k with
      | zero => rfl
      | succ k => simp [runC, hi]
    have hle := hj.le
    have e : i = m.bodies.length := by omega
    rw [← hr, this, ← e]
    exact hp
  intro n
  induction n with
  | zero =>
    intro i m hn hj hk hp
    refine stop i m ?_ hj hp
    intro hi
    have := (hj.next hi).2
    omega
  | succ n ih =>
    intro i m hn hj hk hp
    by_cases hi : i < m.bodies.length
    · have := hj.next hi
      exact ih (i + 1) (stepC m i) (by omega) this.1 (hk.next hi) (hp.next hk hi)
    · exact stop i m hi hj hp
theorem fin_KP (t : Tm) : KP t (finC t).bodies.length (finC t) := KP.fin (pend (begC t) 0) 0 (begC t) (Nat.le_refl _) (JC.start t) (KC.start t) (KP.start t)
end Go.Proofs.YtodjpfpmhjdhbaaGreatDoor
/- Compiled code is good for a scan. -/
namespace Go.Proofs.YtodjpfpmhjdhbaaGreatDoor
open Go.Lg
structure GoodC (c : List Ins) : Prop where
  lo : 1 ≤ c.length
  hi : c.length ≤ 4096
  last : ∃ a, c[c.length - 1]? = some (14, a)
  pass : ∀ k, k < c.length → Pass c k
  fwd : ∀ (k a : Nat), c[k]? = some (2, a) → k < a
  fin : scS c c.length = 0 :: (scF c c.length ++ [c.length])
  bnd : ∀ (k op a : Nat), c[k]? = some (op, a) → a ≤ 1000000
theorem scF_eq (c : List Ins) : ∀ k, scF c k = (scG c k).map (fun p => (c.getD p (0, 0)).2) := by
  intro k
  induction k with
  | zero => rfl
  | succ k ih =>
    simp only [scF, scG]
    cases e : c[k]? with
    | none => exact ih
    | some x =>
      obtain ⟨op, a⟩ := x
      simp only
      split
      · simp [ih, List.getD, e]
      · exact ih
theorem scS_le (c : List Ins) : ∀ k, ∀ x ∈ scS c k, x ≤ k := by
  intro k
  induction k with
  | zero => intro x hx; simp [scS] at hx; omega
  | succ k ih =>
    intro x hx
    simp only [scS] at hx
    split at hx
    · split at hx
      · rcases List.mem_append.1 hx with h | h
        · have := ih x h; omega
        · simp at h; omega
      · have := ih x hx; omega
    · have := ih x hx; omega
theorem scG_mem (c : List Ins) : ∀ n k a, c[k]? = some (2, a) → k < n → k ∈ scG c n := by
  intro n
  induction n with
  | zero => intro k a _ h; omega
  | succ n ih =>
    intro k a hc hk
    simp only [scG]
    by_cases e : k = n
    · subst e
      rw [hc]
      simp
    · have := ih k a hc (by omega)
      split
      · split
        · exact List.mem_append.2 (.inl this)
        · exact this
      · exact this
theorem goodC {t : Tm} {τ : Ty} (h : HasTy [] t τ) (hl : (finC t).code.length ≤ 4096) (hs : t.size ≤ 4096) : GoodC (finC t).code := by
  have kp := fin_KP t
  have kc := KC.fin (pend (begC t) 0) 0 (begC t) (Nat.le_refl _) (JC.start t) (KC.start t)
  have ok := fin_okI h
  generalize finC t = m at *
  have hlo : 1 ≤ m.code.length := by rw [kp.len]; simp [pos]
  have hfull : ∀ (k a : Nat), m.code[k]? = some (2, a) → ∃ j, j < m.bodies.length ∧ m.places[j]? = some k ∧ a = pos (t :: m.bodies) (j + 1) ∧ k < a := by
    intro k a hk
    have hm := scG_mem m.code m.code.length k a hk (List.getElem?_eq_some_iff.1 hk).1
    rw [kp.funs] at hm
    obtain ⟨j, hj⟩ := List.mem_iff_getElem?.1 hm
    have hjl : j < m.bodies.length := by rw [← kc.len]; exact (List.getElem?_eq_some_iff.1 hj).1
    obtain ⟨h1, h2⟩ := kp.don j hjl k hj
    rw [hk] at h1
    cases h1
    exact ⟨j, hjl, hj, rfl, h2⟩
  have hF : scF m.code m.code.length = (List.range m.bodies.length).map (fun j => pos (t :: m.bodies) (j + 1)) := by
    rw [scF_eq, kp.funs]
    apply List.ext_getElem?
    intro j
    rw [List.getElem?_map, List.getElem?_map]
    by_cases hj : j < m.bodies.length
    · have hjp : j < m.places.length := by rw [kc.len]; exact hj
      have e := List.getElem?_eq_getElem hjp
      obtain ⟨h1, -⟩ := kp.don j hj _ e
      rw [e, List.getElem?_range hj]
      simp [List.getD, h1]
    · rw [List.getElem?_eq_none (by rw [kc.len]; omega), List.getElem?_eq_none (by simp; omega)]
      rfl
  refine ⟨hlo, hl, ?_, kp.pass, fun k a hk => ?_, ?_, fun k op a hk => ?_⟩
  · have hmem : m.code.length ∈ scS m.code m.code.length := by
      rw [kp.starts]
      refine List.mem_map.2 ⟨m.bodies.length + 1, List.mem_range.2 (by omega), kp.len.symm⟩
    obtain ⟨op, a, h1, -⟩ := kp.pass (m.code.length - 1) (by omega)
    refine ⟨a, ?_⟩
    have e : m.code.length = (m.code.length - 1) + 1 := by omega
    rw [e] at hmem
    have : scS m.code (m.code.length - 1 + 1) = if op = 14 then scS m.code (m.code.length - 1) ++ [m.code.length - 1 + 1] else scS m.code (m.code.length - 1) := by
      simp only [scS, h1]
    by_cases ho : op = 14
    · rw [h1, ho]
    · have h3 : m.code.length - 1 + 1 ∈ scS m.code (m.code.length - 1 + 1) := by
        have e2 : scS m.code (m.code.length - 1 + 1) = scS m.code m.code.length := by rw [← e]
        rw [e2, ← e]
        rw [kp.starts]
        exact List.mem_map.2 ⟨m.bodies.length + 1, List.mem_range.2 (by omega), kp.len.symm⟩
      rw [this, if_neg ho] at h3
      have := scS_le m.code _ _ h3
      omega
  · obtain ⟨j, -, -, -, h4⟩ := hfull k a hk
    exact h4
  · rw [kp.starts, hF, List.range_succ, List.map_append]
    rw [List.range_succ_eq_map]
    simp [kp.len, pos]
  · have := (ok _ (List.mem_of_getElem? hk)).2.2.1
    simp only at this
    omega
end Go.Proofs.YtodjpfpmhjdhbaaGreatDoor
