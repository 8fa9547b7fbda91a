/- Part of the proof: the machine and its programs, plainly; no conditions. -/
import Derived.Test.YtodjpfpmhjdhbaaGreatDoorCallsA4
set_option linter.unusedVariables false
set_option linter.unusedSimpArgs false
set_option linter.unusedSectionVars false
/- Bounds of what the machine holds. -/
namespace Go.Lg
mutual
def Bd (b : Nat) : It → Prop
  | .num n => n ≤ b
  | .list l => l.length ≤ 1024 ∧ ∀ h ∈ l, h ≤ b
  | .pair x y => Bd b x ∧ Bd b y ∧ 2 + x.more + y.more < 1024
  | .unit => True
  | .fn _ vs => BdL b vs ∧ insideL vs < 1024
def BdL (b : Nat) : List It → Prop
  | [] => True
  | x :: r => Bd b x ∧ BdL b r
end
theorem BdL_iff {b : Nat} {l : List It} : BdL b l ↔ ∀ x ∈ l, Bd b x := by
  induction l with
  | nil => simp [BdL]
  | cons x l ih => simp [BdL, ih]
theorem BdL_app {b : Nat} {l r : List It} : BdL b (l ++ r) ↔ BdL b l ∧ BdL b r := by
  simp only [BdL_iff, List.mem_append]
  exact ⟨fun h => ⟨fun x hx => h x (.inl hx), fun x hx => h x (.inr hx)⟩, fun h x hx => hx.elim (h.1 x) (h.2 x)⟩
mutual
theorem Bd.mono {b b' : Nat} (hb : b ≤ b') : ∀ (x : It), Bd b x → Bd b' x
  | .num n, h => by simp only [Bd] at h ⊢; omega
  | .list l, h => by simp only [Bd] at h ⊢; exact ⟨h.1, fun y hy => Nat.le_trans (h.2 y hy) hb⟩
  | .pair x y, h => by simp only [Bd] at h ⊢; exact ⟨Bd.mono hb x h.1, Bd.mono hb y h.2.1, h.2.2⟩
  | .unit, _ => by simp only [Bd]
  | .fn a vs, h => by simp only [Bd] at h ⊢; exact ⟨BdL.mono hb vs h.1, h.2⟩
theorem BdL.mono {b b' : Nat} (hb : b ≤ b') : ∀ (l : List It), BdL b l → BdL b' l
  | [], _ => by simp only [BdL]
  | x :: r, h => by simp only [BdL] at h ⊢; exact ⟨Bd.mono hb x h.1, BdL.mono hb r h.2⟩
end
theorem Bd.more {b : Nat} {x : It} (h : Bd b x) : x.more < 1024 := by
  cases x <;> simp_all [Bd, It.more]
theorem inside_len (l : List It) : l.length ≤ insideL l := by
  induction l with
  | nil => simp
  | cons x l ih => simp [insideL]; omega
structure RdOk (b : Nat) (r : Rd) : Prop where
  f : Bd b r.f
  result : Bd b r.result
  left : BdL b r.left
  count : r.count ≤ b + 1024
  args : ∀ l, r.args = some l → (∀ q ∈ l, q.1 ≤ b ∧ Bd b (.list q.2))
  nat : r.args = none → r.count ≤ b
structure FrOk (b : Nat) (fr : Fr) : Prop where
  vars : BdL b fr.vars
  inside : insideL fr.vars ≤ 4096
  f : Bd b fr.f
  a : Bd b fr.a
  rd : ∀ n r, fr.rd = some (n, r) → RdOk b r ∧ r.next < r.count
theorem RdOk.mono {b b' : Nat} (hb : b ≤ b') {r : Rd} (h : RdOk b r) : RdOk b' r :=
  ⟨h.f.mono hb, h.result.mono hb, h.left.mono hb, by have := h.count; omega, fun l hl q hq => ⟨Nat.le_trans (h.args l hl q hq).1 hb, (h.args l hl q hq).2.mono hb⟩, fun e => Nat.le_trans (h.nat e) hb⟩
theorem FrOk.mono {b b' : Nat} (hb : b ≤ b') {fr : Fr} (h : FrOk b fr) : FrOk b' fr :=
  ⟨h.vars.mono hb, h.inside, h.f.mono hb, h.a.mono hb, fun n r e => ⟨(h.rd n r e).1.mono hb, (h.rd n r e).2⟩⟩
/-- what the machine holds is small -/
structure Okm (b : Nat) (m : Ms) : Prop where
  stack : BdL b m.stack
  len : m.stack.length ≤ b
  vars : BdL b m.vars
  inside : insideL m.vars ≤ 4096
  frames : ∀ fr ∈ m.frames, FrOk b fr
  few : m.frames.length ≤ 1024
theorem Okm.push {b : Nat} {m : Ms} (h : Okm b m) {x : It} (hx : Bd (b + 1) x) : Okm (b + 1) (m.push x) := by
  refine ⟨?_, ?_, h.vars.mono (by omega), h.inside, fun fr hf => (h.frames fr hf).mono (by omega), h.few⟩
  · simp only [Ms.push, BdL_app, BdL, and_true]
    exact ⟨h.stack.mono (by omega), hx⟩
  · simp only [Ms.push, List.length_append, List.length_cons, List.length_nil]
    have := h.len
    omega
theorem Okm.mono {b b' : Nat} (hb : b ≤ b') {m : Ms} (h : Okm b m) : Okm b' m :=
  ⟨h.stack.mono hb, Nat.le_trans h.len hb, h.vars.mono hb, h.inside, fun fr hf => (h.frames fr hf).mono hb, h.few⟩
theorem last_split {α : Type} {l : List α} {y : α} (e : l.getLast? = some y) : l = l.dropLast ++ [y] := by
  obtain ⟨a, rfl⟩ := List.getLast?_eq_some_iff.1 e
  simp
theorem pop_inv {m m' : Ms} {x : It} (h : m.pop = some (x, m')) : ∃ s, m.stack = s ++ [x] ∧ m' = { m with stack := s, sg := x :: m.sg } := by
  unfold Ms.pop at h
  cases e : m.stack.getLast? with
  | none => rw [e] at h; cases h
  | some y =>
    rw [e] at h
    simp only [Option.some.injEq, Prod.mk.injEq] at h
    obtain ⟨rfl, rfl⟩ := h
    exact ⟨m.stack.dropLast, last_split e, rfl⟩
theorem Okm.pop {b : Nat} {m m' : Ms} {x : It} (h : Okm b m) (hp : m.pop = some (x, m')) : Bd b x ∧ Okm b m' ∧ m'.frames = m.frames ∧ m'.fg = m.fg ∧ m'.vars = m.vars ∧ m'.at_ = m.at_ ∧ m'.steps = m.steps ∧ m'.stack.length + 1 ≤ b := by
  obtain ⟨s, hs, rfl⟩ := pop_inv hp
  have h1 := h.stack
  have h2 := h.len
  rw [hs, BdL_app] at h1
  rw [hs] at h2
  simp only [BdL, and_true] at h1
  simp only [List.length_append, List.length_cons, List.length_nil] at h2
  exact ⟨h1.2, ⟨h1.1, by simp only; omega, h.vars, h.inside, h.frames, h.few⟩, rfl, rfl, rfl, rfl, rfl, by simp only; omega⟩
theorem Okm.enter {b : Nat} {m m' : Ms} {f a : It} {rd : Option (Nat × Rd)} (h : Okm b m) (hf : Bd b f) (ha : Bd b a) (hr : ∀ n r, rd = some (n, r) → RdOk b r ∧ r.next < r.count) (he : m.enter f a rd = .go m') : Okm b m' := by
  unfold Ms.enter at he
  split at he
  · rename_i p vs
    split at he
    · cases he
    · rename_i hl
      cases he
      simp only [Bd] at hf
      refine ⟨h.stack, h.len, ⟨ha, hf.1⟩, ?_, ?_, ?_⟩
      · have := ha.more
        simp only [insideL]
        omega
      · intro fr hfr
        rcases List.mem_append.1 hfr with hfr | hfr
        · exact h.frames fr hfr
        · simp only [List.mem_singleton] at hfr
          subst hfr
          exact ⟨h.vars, h.inside, by simp only [Bd]; exact hf, ha, hr⟩
      · simp only [List.length_append, List.length_cons, List.length_nil]
        omega
  · cases he
theorem RdOk.begin {b : Nat} {r r' : Rd} {f a : It} (h : RdOk b r) (hn : r.next < r.count) (hb : r.begin = some (f, a, r')) : Bd b f ∧ Bd b a ∧ RdOk b r' ∧ r'.next < r'.count := by
  unfold Rd.begin at hb
  split at hb
  · rename_i e
    simp only [Option.some.injEq, Prod.mk.injEq] at hb
    obtain ⟨rfl, rfl, rfl⟩ := hb
    have := h.nat e
    exact ⟨h.f, by simp only [Bd]; omega, ⟨h.f, h.result, ⟨h.result, trivial⟩, h.count, h.args, h.nat⟩, hn⟩
  · rename_i l e
    split at hb
    · rename_i hd tl hq
      simp only [Option.some.injEq, Prod.mk.injEq] at hb
      obtain ⟨rfl, rfl, rfl⟩ := hb
      have := h.args l e _ (List.mem_of_getElem? hq)
      exact ⟨h.f, by simp only [Bd]; exact this.1, ⟨h.f, h.result, ⟨this.2, h.result, trivial⟩, h.count, h.args, h.nat⟩, hn⟩
    · cases hb
theorem RdOk.returned {b : Nat} {r r' : Rd} {x : It} {q : Option (It × It)} (h : RdOk b r) (hx : Bd b x) (hn : r.next < r.count) (hb : r.returned x = some (q, r')) : (∀ f a, q = some (f, a) → Bd b f ∧ Bd b a ∧ RdOk b r' ∧ r'.next < r'.count) := by
  intro f a hq
  subst hq
  unfold Rd.returned at hb
  split at hb
  · rename_i y rest e
    simp only [Option.some.injEq, Prod.mk.injEq] at hb
    obtain ⟨⟨rfl, rfl⟩, rfl⟩ := hb
    have hl := h.left
    rw [e] at hl
    exact ⟨hx, hl.1, ⟨h.f, h.result, hl.2, h.count, h.args, h.nat⟩, hn⟩
  · split at hb
    · simp at hb
    · rename_i hne
      split at hb
      · rename_i f' a' r'' hbeg
        simp only [Option.some.injEq, Prod.mk.injEq] at hb
        obtain ⟨⟨rfl, rfl⟩, rfl⟩ := hb
        exact RdOk.begin (r := { r with result := x, next := r.next + 1 }) ⟨h.f, hx, h.left, h.count, h.args, h.nat⟩ (by simp only; omega) hbeg
      · cases hb
def Okr (b : Nat) : Res → Prop
  | .go m => Okm b m
  | .stop m => Okm b m
  | .err _ => True
theorem foldArgs_mem {l : List Nat} {q : Nat × List Nat} (h : q ∈ foldArgs l) : q.1 ∈ l ∧ q.2.length ≤ l.length ∧ ∀ y ∈ q.2, y ∈ l := by
  induction l with
  | nil => simp [foldArgs] at h
  | cons a t ih =>
    simp only [foldArgs, List.mem_append, List.mem_singleton] at h
    rcases h with h | rfl
    · have := ih h
      exact ⟨List.mem_cons_of_mem _ this.1, by simp only [List.length_cons]; omega, fun y hy => List.mem_cons_of_mem _ (this.2.2 y hy)⟩
    · exact ⟨List.mem_cons_self, by simp, fun y hy => List.mem_cons_of_mem _ hy⟩
theorem rdOf_ok {b : Nat} {f a x : It} {list : Bool} {r : Rd} (hf : Bd b f) (ha : Bd b a) (hx : Bd b x) (h : rdOf f a list x = some r) : RdOk b r := by
  unfold rdOf at h
  split at h
  · rename_i l
    cases h
    simp only [Bd] at hx
    refine ⟨hf, ha, trivial, by simp only; omega, ?_, fun e => by cases e⟩
    intro l' e q hq
    cases e
    have := foldArgs_mem hq
    simp only [Bd]
    exact ⟨hx.2 _ this.1, by omega, fun y hy => hx.2 y (this.2.2 y hy)⟩
  · cases h
    simp only [Bd] at hx
    exact ⟨hf, ha, trivial, by simp only; omega, fun _ e => by simp at e, fun _ => hx⟩
  · cases h
theorem Okm.recursion {b : Nat} {m : Ms} {n : Nat} {list : Bool} {r : Res} (h : Okm b m) (hr : m.recursion n list = some r) : Okr (b + 1) r := by
  unfold Ms.recursion at hr
  split at hr
  · cases hr
  · rename_i x m1 h1
    obtain ⟨hx, h, -⟩ := h.pop h1
    split at hr
    · cases hr
    · rename_i f m2 h2
      obtain ⟨hf, h, -⟩ := h.pop h2
      split at hr
      · cases hr
      · rename_i a m3 h3
        obtain ⟨ha, h, -⟩ := h.pop h3
        split at hr
        · split at hr
          · cases hr; trivial
          · rename_i rr hrr
            have hro := rdOf_ok hf ha hx hrr
            split at hr
            · cases hr
              exact h.push (ha.mono (by omega))
            · split at hr
              · rename_i g aa r' hbeg
                cases hr
                have h0 : rr.next = 0 := by
                  unfold rdOf at hrr
                  split at hrr <;> cases hrr <;> rfl
                have hb := hro.begin (by omega) hbeg
                cases e : m3.enter g aa (some (n, r')) with
                | go m' => exact (h.enter hb.1 hb.2.1 (fun _ _ e => by cases e; exact hb.2.2) e).mono (by omega)
                | stop m' => unfold Ms.enter at e; split at e <;> try split at e
                             all_goals cases e
                | err k => trivial
              · cases hr
        · cases hr; trivial
theorem Okm.popF {b : Nat} {m m' : Ms} {fr : Fr} (h : Okm b m) (hp : m.popF = some (fr, m')) : FrOk b fr ∧ Okm b m' := by
  unfold Ms.popF at hp
  split at hp
  · rename_i x e
    cases hp
    have hs := last_split e
    have hx : FrOk b fr := h.frames _ (by rw [hs]; simp)
    refine ⟨hx, h.stack, h.len, hx.vars, hx.inside, fun f hf => h.frames f (List.dropLast_subset _ hf), ?_⟩
    have := h.few
    simp only [List.length_dropLast]
    omega
  · cases hp
theorem Okr.stopIf {b : Nat} {m : Ms} (h : Okm b m) : Okr b (stopIf m) := by
  unfold Go.Lg.stopIf
  split <;> exact h
theorem Okr.enter {b : Nat} {m : Ms} {f a : It} {rd : Option (Nat × Rd)} (h : Okm b m) (hf : Bd b f) (ha : Bd b a) (hr : ∀ n r, rd = some (n, r) → RdOk b r ∧ r.next < r.count) : Okr (b + 1) (m.enter f a rd) := by
  cases e : m.enter f a rd with
  | go m' => exact (h.enter hf ha hr e).mono (by omega)
  | stop m' => unfold Ms.enter at e; split at e <;> try split at e
               all_goals cases e
  | err k => trivial
theorem Okm.leave {b : Nat} {m : Ms} {r : Res} (h : Okm b m) (hr : m.leave = some r) : Okr (b + 1) r := by
  unfold Ms.leave at hr
  split at hr
  · cases hr
  · rename_i x m1 h1
    obtain ⟨hx, h, hfr, -⟩ := h.pop h1
    split at hr
    · cases hr
      exact h.push (hx.mono (by omega))
    · rename_i fr m2 h2
      obtain ⟨hf, h⟩ := h.popF h2
      split at hr
      · cases hr
        exact .stopIf (h.push (hx.mono (by omega)))
      · rename_i n rr hrd
        split at hr
        · cases hr
        · cases hr
          exact .stopIf (h.push (hx.mono (by omega)))
        · rename_i f a r' hret
          cases hr
          have := (hf.rd _ _ hrd).1.returned hx (hf.rd _ _ hrd).2 hret f a rfl
          exact .enter h this.1 this.2.1 (fun _ _ e => by cases e; exact this.2.2)
theorem Okr.made {b : Nat} {m : Ms} {x : It} (h : Okm b m) (hx : x.more < 1024 → Bd (b + 1) x) : Okr (b + 1) (made m x) := by
  unfold Go.Lg.made
  split
  · trivial
  · exact h.push (hx (by omega))
theorem Okm.exec {b : Nat} {m : Ms} {n op a : Nat} {r : Res} (h : Okm b m) (hr : m.exec n op a = some r) : Okr (b + 1) r := by
  unfold Ms.exec at hr
  split at hr
  · split at hr
    · rename_i x hx
      cases hr
      exact h.push ((BdL_iff.1 h.vars x (List.mem_of_getElem? hx)).mono (by omega))
    · cases hr; trivial
  · cases hr
    refine .made h fun hm => ?_
    simp only [Bd]
    exact ⟨h.vars.mono (by omega), by simpa only [It.more] using hm⟩
  · split at hr
    · cases hr
    · rename_i x m1 h1
      obtain ⟨hx, h, -⟩ := h.pop h1
      split at hr
      · cases hr
      · rename_i f m2 h2
        obtain ⟨hf, h, -⟩ := h.pop h2
        cases hr
        exact .enter h hf hx (fun _ _ e => by cases e)
  · cases hr
    exact h.push (by simp only [Bd]; omega)
  · split at hr
    · cases hr
    · rename_i k m1 h1
      obtain ⟨hx, h, -⟩ := h.pop h1
      cases hr
      simp only [Bd] at hx
      exact h.push (by simp only [Bd]; omega)
    · cases hr; trivial
  · exact h.recursion hr
  · exact h.recursion hr
  · cases hr
    exact h.push (by simp [Bd])
  · split at hr
    · cases hr
    · rename_i x m1 h1
      obtain ⟨hx, h, -⟩ := h.pop h1
      split at hr
      · cases hr
      · rename_i f m2 h2
        obtain ⟨hf, h, -⟩ := h.pop h2
        split at hr
        · split at hr
          · cases hr; trivial
          · cases hr
            simp only [Bd] at hx hf
            refine h.push ?_
            simp only [Bd, List.length_cons, List.mem_cons]
            refine ⟨by omega, fun y hy => ?_⟩
            rcases hy with rfl | hy
            · omega
            · have := hx.2 y hy
              omega
        · cases hr; trivial
  · split at hr
    · cases hr
    · rename_i x m1 h1
      obtain ⟨hx, h, -⟩ := h.pop h1
      split at hr
      · cases hr
      · rename_i f m2 h2
        obtain ⟨hf, h, -⟩ := h.pop h2
        cases hr
        refine .made h fun hm => ?_
        simp only [Bd]
        exact ⟨hf.mono (by omega), hx.mono (by omega), by simpa only [It.more] using hm⟩
  · split at hr
    · cases hr
    · rename_i x y m1 h1
      obtain ⟨hx, h, -⟩ := h.pop h1
      cases hr
      simp only [Bd] at hx
      exact h.push (hx.1.mono (by omega))
    · cases hr; trivial
  · split at hr
    · cases hr
    · rename_i x y m1 h1
      obtain ⟨hx, h, -⟩ := h.pop h1
      cases hr
      simp only [Bd] at hx
      exact h.push (hx.2.1.mono (by omega))
    · cases hr; trivial
  · cases hr
    exact h.push (by simp only [Bd])
  · exact h.leave hr
theorem Okm.step {b : Nat} {m : Ms} {c : List (Nat × Nat)} {l n : Nat} {r : Res} (h : Okm b m) (hr : m.step c l n = some r) : Okr (b + 1) r := by
  unfold Ms.step at hr
  split at hr
  · cases hr; trivial
  · split at hr
    · cases hr
    · split at hr
      · cases hr
      · exact Okm.exec (m := { m with steps := m.steps + 1, at_ := m.at_ + 1 }) ⟨h.stack, h.len, h.vars, h.inside, h.frames, h.few⟩ hr
end Go.Lg
/- Runs of the machine, plainly. -/
namespace Go.Lg
def Sts (k : Nat) : Res → Prop
  | .go m => m.steps = k
  | .stop m => m.steps = k
  | .err _ => True
theorem Sts.pop {m m' : Ms} {x : It} (h : m.pop = some (x, m')) : m'.steps = m.steps := by
  obtain ⟨s, -, rfl⟩ := pop_inv h
  rfl
theorem Sts.enter (m : Ms) (f a : It) (rd : Option (Nat × Rd)) : Sts m.steps (m.enter f a rd) := by
  unfold Ms.enter
  split
  · split <;> simp [Sts]
  · simp [Sts]
theorem Sts.stopIf (m : Ms) : Sts m.steps (stopIf m) := by
  unfold Go.Lg.stopIf
  split <;> simp [Sts]
theorem Sts.popF {m m' : Ms} {x : Fr} (h : m.popF = some (x, m')) : m'.steps = m.steps := by
  unfold Ms.popF at h
  split at h
  · cases h; rfl
  · cases h
theorem Sts.leave {m : Ms} {r : Res} (h : m.leave = some r) : Sts m.steps r := by
  unfold Ms.leave at h
  split at h
  · cases h
  · rename_i x m1 h1
    rw [← Sts.pop h1]
    split at h
    · cases h; simp [Sts, Ms.push]
    · rename_i fr m2 h2
      rw [← Sts.popF h2]
      split at h
      · cases h; exact Sts.stopIf (m2.push x)
      · split at h
        · cases h
        · cases h; exact Sts.stopIf (m2.push x)
        · cases h; exact Sts.enter _ _ _ _
theorem Sts.recursion {m : Ms} {n : Nat} {b : Bool} {r : Res} (h : m.recursion n b = some r) : Sts m.steps r := by
  unfold Ms.recursion at h
  split at h
  · cases h
  · rename_i x m1 h1
    split at h
    · cases h
    · rename_i f m2 h2
      split at h
      · cases h
      · rename_i b m3 h3
        rw [← Sts.pop h1, ← Sts.pop h2, ← Sts.pop h3]
        split at h
        · split at h
          · cases h; trivial
          · split at h
            · cases h; simp [Sts, Ms.push]
            · split at h
              · cases h; exact Sts.enter _ _ _ _
              · cases h
        · cases h; trivial
theorem Sts.exec {m : Ms} {n op a : Nat} {r : Res} (h : m.exec n op a = some r) : Sts m.steps r := by
  unfold Ms.exec at h
  split at h
  · split at h <;> cases h <;> simp [Sts, Ms.push]
  · cases h; unfold made; split <;> simp [Sts, Ms.push]
  · split at h
    · cases h
    · rename_i x m1 h1
      split at h
      · cases h
      · rename_i f m2 h2
        rw [← Sts.pop h1, ← Sts.pop h2]
        cases h
        exact Sts.enter _ _ _ _
  · cases h; simp [Sts, Ms.push]
  · split at h
    · cases h
    · rename_i k m1 h1
      rw [← Sts.pop h1]
      cases h; simp [Sts, Ms.push]
    · cases h; trivial
  · exact Sts.recursion h
  · exact Sts.recursion h
  · cases h; simp [Sts, Ms.push]
  · split at h
    · cases h
    · rename_i x m1 h1
      split at h
      · cases h
      · rename_i f m2 h2
        rw [← Sts.pop h1, ← Sts.pop h2]
        split at h
        · split at h <;> cases h <;> simp [Sts, Ms.push]
        · cases h; trivial
  · split at h
    · cases h
    · rename_i x m1 h1
      split at h
      · cases h
      · rename_i f m2 h2
        rw [← Sts.pop h1, ← Sts.pop h2]
        cases h; unfold made; split <;> simp [Sts, Ms.push]
  · split at h
    · cases h
    · rename_i k _ m1 h1
      rw [← Sts.pop h1]
      cases h; simp [Sts, Ms.push]
    · cases h; trivial
  · split at h
    · cases h
    · rename_i k _ m1 h1
      rw [← Sts.pop h1]
      cases h; simp [Sts, Ms.push]
    · cases h; trivial
  · cases h; simp [Sts, Ms.push]
  · exact Sts.leave h
theorem step_steps {m : Ms} {c : List (Nat × Nat)} {l n : Nat} {r : Res} (h : m.step c l n = some r) : Sts (m.steps + 1) r ∧ (m.steps = l → r = .err 5) ∧ (¬ m.steps = l → 0 ≤ m.at_) := by
  unfold Ms.step at h
  split at h
  · rename_i e
    cases h
    exact ⟨trivial, fun _ => rfl, fun hn => absurd e hn⟩
  · rename_i e
    split at h
    · cases h
    · rename_i ha
      split at h
      · cases h
      · exact ⟨Sts.exec h, fun h => absurd h e, fun _ => by omega⟩
/-- a run, up to its end -/
inductive Runs (c : List (Nat × Nat)) (l : Nat) : Ms → Res → Prop
  | stop {m m' : Ms} : m.step c l (1000 + m.steps) = some (.stop m') → Runs c l m (.stop m')
  | err {m : Ms} {e : Nat} : m.step c l (1000 + m.steps) = some (.err e) → Runs c l m (.err e)
  | go {m m' : Ms} {r : Res} : m.step c l (1000 + m.steps) = some (.go m') → Runs c l m' r → Runs c l m r
/-- a run, until there are no frames -/
inductive Drains (c : List (Nat × Nat)) (l : Nat) : Ms → Res → Prop
  | done {m : Ms} : m.frames = [] → Drains c l m (.stop m)
  | err {m : Ms} {e : Nat} : m.frames ≠ [] → m.step c l (1000 + m.steps) = some (.err e) → Drains c l m (.err e)
  | go {m m' : Ms} {r : Res} : m.frames ≠ [] → m.step c l (1000 + m.steps) = some (.go m') → Drains c l m' r → Drains c l m r
  | stop {m m' : Ms} {r : Res} : m.frames ≠ [] → m.step c l (1000 + m.steps) = some (.stop m') → Drains c l m' r → Drains c l m r
def ms0 : Ms := ⟨0, [], [], 0, [], [], 0, 0, []⟩
end Go.Lg
/- Cells without functions, and what they are outside. -/
namespace Go.Lg
inductive Dat : It → Prop
  | num (n : Nat) : Dat (.num n)
  | list (l : List Nat) : Dat (.list l)
  | unit : Dat .unit
  | pair {a b : It} : Dat a → Dat b → Dat (.pair a b)
theorem linkP_rep {H : Hp} : ∀ (l k : List Nat) (v : Value), RepP H (linkP l) v → RepP H (linkP k) v → l = k
  | [], [], _, _, _ => rfl
  | [], b :: k, v, h1, h2 => by
    simp only [linkP, RepP] at h1 h2
    subst h1
    obtain ⟨_, _, h, _⟩ := h2
    cases h
  | a :: l, [], v, h1, h2 => by
    simp only [linkP, RepP] at h1 h2
    subst h2
    obtain ⟨_, _, h, _⟩ := h1
    cases h
  | a :: l, b :: k, v, h1, h2 => by
    simp only [linkP, RepP] at h1 h2
    obtain ⟨x, o, rfl, r1⟩ := h1
    obtain ⟨x', o', e, r2⟩ := h2
    cases e
    cases hd : (H x).drop o with
    | nil => rw [hd] at r1; simp [RepL] at r1
    | cons u us =>
      rw [hd] at r1 r2
      simp only [RepL, RepP] at r1 r2
      cases us with
      | nil => simp [RepL] at r1
      | cons w ws =>
        simp only [RepL] at r1 r2
        cases ws with
        | nil => simp [RepL] at r1
        | cons z zs =>
          simp only [RepL] at r1 r2
          have h1 : a = b := by
            have := r1.1.symm.trans r2.1
            simp at this
            omega
          rw [h1, linkP_rep l k z r1.2.2.1 r2.2.2.1]
theorem rep_int2 {H : Hp} {a b : Int} {v : Value} (h1 : RepP H (.int a) v) (h2 : RepP H (.int b) v) : a = b := by
  simp only [RepP] at h1 h2
  have := h1.symm.trans h2
  simpa using this
/-- the cells of what is at a pointer -/
theorem itP_cells {H : Hp} {x y : It} {v : Value} (h1 : RepP H (itP x) v) (h2 : RepP H (itP y) v) :
    x.kind = y.kind ∧ x.num0 = y.num0 ∧ (∃ v, RepP H x.list0 v ∧ RepP H y.list0 v) ∧ (∃ v, RepP H x.fst0 v ∧ RepP H y.fst0 v) ∧ (∃ v, RepP H x.snd0 v ∧ RepP H y.snd0 v) := by
  rw [itP_eq] at h1 h2
  simp only [RepP] at h1 h2
  obtain ⟨b, o, rfl, r1⟩ := h1
  obtain ⟨b', o', e, r2⟩ := h2
  cases e
  generalize (H b).drop o = L at r1 r2
  match L, r1, r2 with
  | v1 :: v2 :: v3 :: v4 :: v5 :: r, r1, r2 =>
    simp only [RepL] at r1 r2
    exact ⟨rep_int2 r1.1 r2.1, rep_int2 r1.2.1 r2.2.1, ⟨_, r1.2.2.1, r2.2.2.1⟩, ⟨_, r1.2.2.2.1, r2.2.2.2.1⟩, ⟨_, r1.2.2.2.2.1, r2.2.2.2.2.1⟩⟩
  | [], r1, r2 => simp [RepL] at r1
  | [v1], r1, r2 => simp [RepL] at r1
  | [v1, v2], r1, r2 => simp [RepL] at r1
  | [v1, v2, v3], r1, r2 => simp [RepL] at r1
  | [v1, v2, v3, v4], r1, r2 => simp [RepL] at r1
theorem itP_rep {H : Hp} {x : It} (hx : Dat x) : ∀ {y : It} {v : Value}, Dat y → RepP H (itP x) v → RepP H (itP y) v → x = y := by
  induction hx with
  | num n =>
    intro y v hy h1 h2
    obtain ⟨k, n0, -⟩ := itP_cells h1 h2
    cases hy <;> simp [It.kind, It.num0] at k n0 ⊢
    omega
  | list l =>
    intro y v hy h1 h2
    obtain ⟨k, -, ⟨u, l1, l2⟩, -⟩ := itP_cells h1 h2
    cases hy <;> simp [It.kind] at k ⊢
    exact linkP_rep _ _ _ l1 l2
  | unit =>
    intro y v hy h1 h2
    obtain ⟨k, -⟩ := itP_cells h1 h2
    cases hy <;> simp [It.kind] at k ⊢
  | pair ha hb iha ihb =>
    intro y v hy h1 h2
    obtain ⟨k, -, -, ⟨u, f1, f2⟩, ⟨w, s1, s2⟩⟩ := itP_cells h1 h2
    cases hy with
    | pair hc hd =>
      simp only [It.fst0, It.snd0] at f1 f2 s1 s2
      rw [iha hc f1 f2, ihb hd s1 s2]
    | _ => simp [It.kind] at k
theorem linkP_inj : ∀ (l k : List Nat), linkP l = linkP k → l = k
  | [], [], _ => rfl
  | [], _ :: _, h => by simp [linkP] at h
  | _ :: _, [], h => by simp [linkP] at h
  | a :: l, b :: k, h => by
    simp only [linkP, PV.ptr.injEq, List.cons.injEq, PV.int.injEq] at h
    rw [linkP_inj l k h.2.2.1]
    have := h.1
    have : a = b := by omega
    rw [this]
theorem itP_inj {x : It} (hx : Dat x) : ∀ {y : It}, Dat y → itP x = itP y → x = y := by
  induction hx with
  | num n =>
    intro y hy h
    cases hy <;> simp [itP] at h ⊢
    omega
  | list l =>
    intro y hy h
    cases hy <;> simp [itP] at h ⊢
    exact linkP_inj _ _ h
  | unit =>
    intro y hy h
    cases hy <;> simp [itP] at h ⊢
  | pair ha hb iha ihb =>
    intro y hy h
    cases hy with
    | pair hc hd =>
      simp [itP] at h
      rw [iha hc h.1, ihb hd h.2.1]
    | _ => simp [itP] at h
def numsP : List Nat → PV
  | [] => .nils
  | h :: t => .slice ((h :: t).map fun (n : Nat) => [.int n])
def itCell : It → List PV
  | .num n => [.int 1, .int n, .int 0, .nils, .nils]
  | .list l => [.int 2, .int 0, .int 0, numsP l, .nils]
  | .pair a b => [.int 3, .int 0, .int 0, .nils, .slice [itCell a, itCell b]]
  | .unit => [.int 4, .int 0, .int 0, .nils, .nils]
  | .fn a _ => [.int 5, .int 0, .int a, .nils, .nils]
def DatP (p : PV) : Prop := ∃ x, Dat x ∧ p = itP x
open Classical in
noncomputable def cellF (p : PV) : List PV := if h : DatP p then itCell (Classical.choose h) else []
theorem cellF_itP {x : It} (hx : Dat x) : cellF (itP x) = itCell x := by
  have h : DatP (itP x) := ⟨x, hx, rfl⟩
  unfold cellF
  rw [dif_pos h]
  have hs := Classical.choose_spec h
  exact congrArg itCell (itP_inj hx hs.1 hs.2).symm
theorem coh_cell : Coh DatP cellF := by
  rintro H p q v ⟨x, hx, rfl⟩ ⟨y, hy, rfl⟩ h1 h2
  rw [itP_rep hx hy h1 h2]
end Go.Lg
