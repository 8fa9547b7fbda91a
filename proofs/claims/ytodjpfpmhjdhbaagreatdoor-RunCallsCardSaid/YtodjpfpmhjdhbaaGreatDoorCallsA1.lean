/- Part of the proof: the logic of contracts, proved sound for the model; no conditions. -/
import Derived.Laws.AppendOwn
import Derived.Laws.OwnMore
import Derived.Laws.AppendOwnNone
import Derived.Orders
import Derived.Tactics
import Derived.Laws.Build
import Derived.IntWalk
set_option linter.unusedVariables false
set_option linter.unusedSimpArgs false
set_option linter.unusedSectionVars false
/- The values of a logic for Go's translated programs: what a slot or a cell holds, and when a value in memory is that. -/
namespace Go.Lg

/-- Plain data: nothing in it is ever changed. -/
inductive PV where
  | int (n : Int)
  | bool (b : Bool)
  | nil
  | nils
  | nilfn
  | nilm
  | nilif
  | ptr (cs : List PV)
  | slice (es : List (List PV))
  | agg (cs : List PV)
  | tuple (cs : List PV)
  | iface (t : Nat) (p : PV)

/-- What a slot holds: plain data, a pointer into a named object, or a view of a named array. -/
inductive V where
  | undef
  | pv (p : PV)
  | loc (n off : Nat)
  | eloc (n ver i off : Nat)
  | arr (n ver len : Nat)
  | map (n : Nat)
  | vsl (es : List (List V))
  | fsl (es : List (List PV))
  | fn (f : Nat) (caps : List V)
  | agg (cs : List V)
  | tuple (cs : List V)

abbrev Hp := Nat → List Value

mutual
def RepP (H : Hp) : PV → Value → Prop
  | .int n, v => v = .int .i64 n
  | .bool b, v => v = .bool b
  | .nil, v => v = .pointer none
  | .nils, v => v = .slice none 0 0
  | .nilfn, v => v = .nilFunc
  | .nilm, v => v = .map none
  | .nilif, v => v = .nilIface
  | .ptr cs, v => ∃ b off, v = .pointer (some ⟨b, off, none⟩) ∧ RepL H cs ((H b).drop off)
  | .slice es, v => ∃ a cap, v = .slice a es.length cap ∧ es.length ≤ cap ∧ es.length ≤ maxLen ∧
      (es = [] ∨ ∃ b off, a = some ⟨b, off, none⟩ ∧ RepE H es ((H b).drop off))
  | .agg cs, v => ∃ vs : List Value, v = .agg vs.toArray ∧ vs.length = cs.length ∧ RepL H cs vs
  | .tuple cs, v => ∃ vs : List Value, v = .tuple vs.toArray ∧ vs.length = cs.length ∧ RepL H cs vs
  | .iface t p, v => ∃ u, v = .iface t u ∧ RepP H p u
def RepL (H : Hp) : List PV → List Value → Prop
  | [], _ => True
  | _ :: _, [] => False
  | c :: cs, v :: vs => RepP H c v ∧ RepL H cs vs
def RepE (H : Hp) : List (List PV) → List Value → Prop
  | [], _ => True
  | e :: es, vs => RepL H e vs ∧ RepE H es (vs.drop e.length)
end

/-- The hidden side: which cells of which block never change; what the named objects are. -/
structure Env where
  H : Hp
  g : Nat → Value
  ver : Nat → Nat
  sz : Nat → Nat

mutual
def RepV (E : Env) : V → Value → Prop
  | .undef, _ => True
  | .pv p, v => RepP E.H p v
  | .loc n off, v => ∃ b, E.g n = .pointer (some ⟨b, 0, none⟩) ∧ v = .pointer (some ⟨b, off, none⟩)
  | .eloc n ver i off, v => ver ≤ E.ver n ∧ (∃ a : Addr, v = .pointer (some a)) ∧
      (ver = E.ver n → ∃ b L cap, E.g n = .slice (some ⟨b, 0, none⟩) L cap ∧ v = .pointer (some ⟨b, i * E.sz n + off, none⟩) ∧ i < L)
  | .arr n ver len, v => ver ≤ E.ver n ∧ (∃ a l c, v = .slice a l c) ∧
      (ver = E.ver n → ∃ a L cap, E.g n = .slice a L cap ∧ v = .slice a len cap ∧ len ≤ L)
  | .map n, v => ∃ b, E.g n = .map (some b) ∧ v = .map (some b)
  | .vsl es, v => ∃ a cap, v = .slice a es.length cap ∧ es.length ≤ cap ∧ es.length ≤ maxLen ∧
      (es = [] ∨ ∃ b off, a = some ⟨b, off, none⟩ ∧ RepVE E es ((E.H b).drop off))
  | .fsl es, v => ∃ a, v = .slice a es.length es.length ∧ es.length ≤ maxLen ∧ (es = [] ∨ ∃ b off, a = some ⟨b, off, none⟩ ∧ RepE E.H es ((E.H b).drop off))
  | .fn f cs, v => ∃ vs : List Value, v = .func (.func f) #[] vs.toArray ∧ vs.length = cs.length ∧ RepVL E cs vs
  | .agg cs, v => ∃ vs : List Value, v = .agg vs.toArray ∧ vs.length = cs.length ∧ RepVL E cs vs
  | .tuple cs, v => ∃ vs : List Value, v = .tuple vs.toArray ∧ vs.length = cs.length ∧ RepVL E cs vs
def RepVL (E : Env) : List V → List Value → Prop
  | [], _ => True
  | _ :: _, [] => False
  | c :: cs, v :: vs => RepV E c v ∧ RepVL E cs vs
def RepVE (E : Env) : List (List V) → List Value → Prop
  | [], _ => True
  | e :: es, vs => RepVL E e vs ∧ RepVE E es (vs.drop e.length)
end

mutual
def V.names : V → List Nat
  | .loc n _ => [n]
  | .eloc n _ _ _ => [n]
  | .arr n _ _ => [n]
  | .map n => [n]
  | .vsl es => namesE es
  | .fn _ cs => namesL cs
  | .agg cs => namesL cs
  | .tuple cs => namesL cs
  | _ => []
def namesL : List V → List Nat
  | [] => []
  | c :: cs => c.names ++ namesL cs
def namesE : List (List V) → List Nat
  | [] => []
  | e :: es => namesL e ++ namesE es
end

/-- More is known. -/
def Hle (H H' : Hp) : Prop := ∀ b, H b <+: H' b
theorem Hle.refl (H : Hp) : Hle H H := fun _ => List.prefix_rfl
theorem Hle.trans {A B C : Hp} (h : Hle A B) (h' : Hle B C) : Hle A C := fun b => (h b).trans (h' b)

theorem prefix_drop {α : Type} {l m : List α} (h : l <+: m) (n : Nat) : l.drop n <+: m.drop n := by
  obtain ⟨t, rfl⟩ := h
  rw [List.drop_append]
  exact List.prefix_append _ _

mutual
theorem RepP.mono {H H' : Hp} (h : Hle H H') : ∀ (p : PV) (v : Value), RepP H p v → RepP H' p v
  | .int _, _, r => by simpa only [RepP] using r
  | .bool _, _, r => by simpa only [RepP] using r
  | .nil, _, r => by simpa only [RepP] using r
  | .nils, _, r => by simpa only [RepP] using r
  | .nilfn, _, r => by simpa only [RepP] using r
  | .nilm, _, r => by simpa only [RepP] using r
  | .nilif, _, r => by simpa only [RepP] using r
  | .ptr cs, v, r => by
    simp only [RepP] at r ⊢
    obtain ⟨b, off, hv, hr⟩ := r
    exact ⟨b, off, hv, RepL.mono h cs _ _ (prefix_drop (h b) off) hr⟩
  | .slice es, v, r => by
    simp only [RepP] at r ⊢
    obtain ⟨a, cap, hv, h1, h2, h3⟩ := r
    refine ⟨a, cap, hv, h1, h2, ?_⟩
    rcases h3 with h3 | ⟨b, off, ha, hr⟩
    · exact .inl h3
    · exact .inr ⟨b, off, ha, RepE.mono h es _ _ (prefix_drop (h b) off) hr⟩
  | .agg cs, v, r => by
    simp only [RepP] at r ⊢
    obtain ⟨vs, hv, hl, hr⟩ := r
    exact ⟨vs, hv, hl, RepL.mono h cs _ _ List.prefix_rfl hr⟩
  | .tuple cs, v, r => by
    simp only [RepP] at r ⊢
    obtain ⟨vs, hv, hl, hr⟩ := r
    exact ⟨vs, hv, hl, RepL.mono h cs _ _ List.prefix_rfl hr⟩
  | .iface t p, v, r => by
    simp only [RepP] at r ⊢
    obtain ⟨u, hv, hr⟩ := r
    exact ⟨u, hv, RepP.mono h p u hr⟩
theorem RepL.mono {H H' : Hp} (h : Hle H H') : ∀ (cs : List PV) (vs vs' : List Value), vs <+: vs' → RepL H cs vs → RepL H' cs vs'
  | [], _, _, _, _ => by simp only [RepL]
  | c :: cs, vs, vs', hp, r => by
    cases vs with
    | nil => simp only [RepL] at r
    | cons v vs =>
      obtain ⟨t, rfl⟩ := hp
      simp only [RepL, List.cons_append] at r ⊢
      exact ⟨RepP.mono h c v r.1, RepL.mono h cs vs _ (List.prefix_append _ _) r.2⟩
theorem RepE.mono {H H' : Hp} (h : Hle H H') : ∀ (es : List (List PV)) (vs vs' : List Value), vs <+: vs' → RepE H es vs → RepE H' es vs'
  | [], _, _, _, _ => by simp only [RepE]
  | e :: es, vs, vs', hp, r => by
    simp only [RepE] at r ⊢
    exact ⟨RepL.mono h e vs vs' hp r.1, RepE.mono h es _ _ (prefix_drop hp _) r.2⟩
end

theorem RepL.len {H : Hp} : ∀ {cs : List PV} {vs : List Value}, RepL H cs vs → cs.length ≤ vs.length
  | [], _, _ => Nat.zero_le _
  | c :: cs, [], r => by simp only [RepL] at r
  | c :: cs, v :: vs, r => by
    simp only [RepL] at r
    have := RepL.len r.2
    simp; omega

end Go.Lg
/- The state of the logic: slots, named objects, and how they lie in a world. -/
namespace Go.Lg

theorem RepVL.len {E : Env} : ∀ {cs : List V} {vs : List Value}, RepVL E cs vs → cs.length ≤ vs.length
  | [], _, _ => Nat.zero_le _
  | c :: cs, [], r => by simp only [RepVL] at r
  | c :: cs, v :: vs, r => by
    simp only [RepVL] at r
    have := RepVL.len r.2
    simp; omega

/-- How the hidden side of a name may go on. -/
def EExt (E E' : Env) (n : Nat) : Prop :=
  E'.sz n = E.sz n ∧ (E'.g n = E.g n ∧ E'.ver n = E.ver n ∨ E.ver n < E'.ver n ∧ ∃ a l c, E.g n = .slice a l c)
theorem EExt.refl (E : Env) (n : Nat) : EExt E E n := ⟨rfl, .inl ⟨rfl, rfl⟩⟩
theorem EExt.trans {A B C : Env} {n : Nat} (h : EExt A B n) (h' : EExt B C n) : EExt A C n := by
  obtain ⟨s, h⟩ := h
  obtain ⟨s', h'⟩ := h'
  refine ⟨s'.trans s, ?_⟩
  rcases h with ⟨g, v⟩ | ⟨v, e⟩ <;> rcases h' with ⟨g', v'⟩ | ⟨v', e'⟩
  · exact .inl ⟨g'.trans g, v'.trans v⟩
  · exact .inr ⟨by omega, by rwa [g] at e'⟩
  · exact .inr ⟨by omega, e⟩
  · exact .inr ⟨by omega, e⟩
theorem EExt.of_eq {E E' : Env} {n : Nat} (hg : E'.g n = E.g n) (hv : E'.ver n = E.ver n) (hs : E'.sz n = E.sz n) : EExt E E' n := ⟨hs, .inl ⟨hg, hv⟩⟩

mutual
theorem RepV.mono {E E' : Env} (h : Hle E.H E'.H) : ∀ (x : V) (v : Value), (∀ n ∈ x.names, EExt E E' n) → RepV E x v → RepV E' x v
  | .undef, _, _, _ => by simp only [RepV]
  | .pv p, v, _, r => by simp only [RepV] at r ⊢; exact RepP.mono h p v r
  | .loc n off, v, hn, r => by
    simp only [RepV] at r ⊢
    obtain ⟨b, hg, hv⟩ := r
    rcases (hn n (by simp [V.names])).2 with ⟨g, _⟩ | ⟨_, a, l, c, e⟩
    · exact ⟨b, g.trans hg, hv⟩
    · rw [hg] at e; cases e
  | .eloc n ver i off, v, hn, r => by
    simp only [RepV] at r ⊢
    obtain ⟨hle, hp, hr⟩ := r
    obtain ⟨hs, hx⟩ := hn n (by simp [V.names])
    rcases hx with ⟨g, hv⟩ | ⟨hv, _⟩
    · refine ⟨by omega, hp, fun e => ?_⟩
      rw [g, hs]
      exact hr (by omega)
    · exact ⟨by omega, hp, fun e => by omega⟩
  | .arr n ver len, v, hn, r => by
    simp only [RepV] at r ⊢
    obtain ⟨hle, hp, hr⟩ := r
    obtain ⟨_, hx⟩ := hn n (by simp [V.names])
    rcases hx with ⟨g, hv⟩ | ⟨hv, _⟩
    · refine ⟨by omega, hp, fun e => ?_⟩
      rw [g]
      exact hr (by omega)
    · exact ⟨by omega, hp, fun e => by omega⟩
  | .map n, v, hn, r => by
    simp only [RepV] at r ⊢
    obtain ⟨b, hg, hv⟩ := r
    rcases (hn n (by simp [V.names])).2 with ⟨g, _⟩ | ⟨_, a, l, c, e⟩
    · exact ⟨b, g.trans hg, hv⟩
    · rw [hg] at e; cases e
  | .vsl es, v, hn, r => by
    simp only [RepV] at r ⊢
    obtain ⟨a, cap, hv, h1, h2, h3⟩ := r
    refine ⟨a, cap, hv, h1, h2, ?_⟩
    rcases h3 with h3 | ⟨b, off, ha, hr⟩
    · exact .inl h3
    · exact .inr ⟨b, off, ha, RepVE.mono h es _ _ (prefix_drop (h b) off) (by simpa only [V.names] using hn) hr⟩
  | .fsl es, v, hn, r => by
    simp only [RepV] at r ⊢
    obtain ⟨a, hv, h2, h3⟩ := r
    refine ⟨a, hv, h2, ?_⟩
    rcases h3 with h3 | ⟨b, off, ha, hr⟩
    · exact .inl h3
    · exact .inr ⟨b, off, ha, RepE.mono h es _ _ (prefix_drop (h b) off) hr⟩
  | .fn f cs, v, hn, r => by
    simp only [RepV] at r ⊢
    obtain ⟨vs, hv, hl, hr⟩ := r
    exact ⟨vs, hv, hl, RepVL.mono h cs _ _ List.prefix_rfl (by simpa only [V.names] using hn) hr⟩
  | .agg cs, v, hn, r => by
    simp only [RepV] at r ⊢
    obtain ⟨vs, hv, hl, hr⟩ := r
    exact ⟨vs, hv, hl, RepVL.mono h cs _ _ List.prefix_rfl (by simpa only [V.names] using hn) hr⟩
  | .tuple cs, v, hn, r => by
    simp only [RepV] at r ⊢
    obtain ⟨vs, hv, hl, hr⟩ := r
    exact ⟨vs, hv, hl, RepVL.mono h cs _ _ List.prefix_rfl (by simpa only [V.names] using hn) hr⟩
theorem RepVL.mono {E E' : Env} (h : Hle E.H E'.H) : ∀ (cs : List V) (vs vs' : List Value), vs <+: vs' → (∀ n ∈ namesL cs, EExt E E' n) → RepVL E cs vs → RepVL E' cs vs'
  | [], _, _, _, _, _ => by simp only [RepVL]
  | c :: cs, vs, vs', hp, hn, r => by
    cases vs with
    | nil => simp only [RepVL] at r
    | cons v vs =>
      obtain ⟨t, rfl⟩ := hp
      simp only [RepVL, List.cons_append] at r ⊢
      exact ⟨RepV.mono h c v (fun n hm => hn n (by simp [namesL, hm])) r.1, RepVL.mono h cs vs _ (List.prefix_append _ _) (fun n hm => hn n (by simp [namesL, hm])) r.2⟩
theorem RepVE.mono {E E' : Env} (h : Hle E.H E'.H) : ∀ (es : List (List V)) (vs vs' : List Value), vs <+: vs' → (∀ n ∈ namesE es, EExt E E' n) → RepVE E es vs → RepVE E' es vs'
  | [], _, _, _, _, _ => by simp only [RepVE]
  | e :: es, vs, vs', hp, hn, r => by
    simp only [RepVE] at r ⊢
    exact ⟨RepVL.mono h e vs vs' hp (fun n hm => hn n (by simp [namesE, hm])) r.1, RepVE.mono h es _ _ (prefix_drop hp _) (fun n hm => hn n (by simp [namesE, hm])) r.2⟩
end

/-- A named object: a variable of some cells, or an array that grows. -/
inductive Ob where
  | box (cs : List V)
  | arr (ver sz ty : Nat) (es : List (List V))
  | cache (D : PV → Prop) (F : PV → List PV)
/-- what a table holds for a key depends on the key's data alone -/
def Coh (D : PV → Prop) (F : PV → List PV) : Prop := ∀ (H : Hp) (p q : PV) (v : Value), D p → D q → RepP H p v → RepP H q v → F p = F q
def Ob.names : Ob → List Nat
  | .box cs => namesL cs
  | .arr _ _ _ es => namesE es
  | .cache _ _ => []

def blk : Value → Option Nat
  | .pointer (some a) => some a.block
  | .slice (some a) _ _ => some a.block
  | .map (some b) => some b
  | _ => none

def ObOK (E : Env) (w : World) (n : Nat) : Ob → Prop
  | .box cs => ∃ b c T, E.g n = .pointer (some ⟨b, 0, none⟩) ∧ w.heap[b]? = some (.cells c T (0, 0)) ∧ c.size = cs.length ∧ RepVL E cs c.toList ∧ E.H b = []
  | .arr ver sz ty es => E.ver n = ver ∧ E.sz n = sz ∧ (∀ e ∈ es, e.length = sz) ∧
      ∃ xs, w.ownsRow 0 ty sz (E.g n) es.length xs ∧ RepVE E es xs ∧ ∀ b, (E.g n).ownBlock = some b → E.H b = []
  | .cache D F => Coh D F ∧ ∃ b es ck, E.g n = .map (some b) ∧ w.heap[b]? = some (.map es ck) ∧ E.H b = [] ∧
      ∀ e ∈ es, ∃ p, D p ∧ RepP E.H p e.key ∧ RepP E.H (.agg (F p)) e.val ∧ ∃ x off v, e.key = .pointer (some ⟨x, off, none⟩) ∧ v ∈ E.H x ∧ ∀ k n, v ≠ .int k n

/-- a cell of which nothing is known -/
def hole : Value := .int .u8 0
/-- what is known of some cells -/
def Msk (l m : List Value) : Prop := l.length ≤ m.length ∧ ∀ (i : Nat) (v : Value), l[i]? = some v → v ≠ hole → m[i]? = some v
theorem Msk.of_prefix {l m : List Value} (h : l <+: m) : Msk l m := by
  refine ⟨h.length_le, fun i v hi _ => ?_⟩
  obtain ⟨t, rfl⟩ := h
  rw [List.getElem?_append_left (List.getElem?_eq_some_iff.1 hi).1]
  exact hi
theorem Msk.refl (l : List Value) : Msk l l := Msk.of_prefix List.prefix_rfl
theorem Msk.drop {l m : List Value} (h : Msk l m) (k : Nat) : Msk (l.drop k) (m.drop k) := by
  refine ⟨by have := h.1; simp; omega, fun i v hi hv => ?_⟩
  rw [List.getElem?_drop] at hi ⊢
  exact h.2 _ v hi hv
theorem Msk.tail {x y : Value} {l m : List Value} (h : Msk (x :: l) (y :: m)) : Msk l m := by simpa using h.drop 1
theorem Msk.take {l m : List Value} (h : Msk l m) (k : Nat) : Msk (l.take k) (m.take k) := by
  refine ⟨by have := h.1; simp; omega, fun i v hi hv => ?_⟩
  rw [List.getElem?_take] at hi ⊢
  split at hi
  · rename_i hk
    rw [if_pos hk]
    exact h.2 _ v hi hv
  · cases hi
theorem not_hole {H : Hp} {p : PV} {v : Value} (h : RepP H p v) : v ≠ hole := by
  intro e
  subst e
  cases p <;> simp [RepP, hole] at h
theorem RepV_hole {E : Env} {x : V} (h : RepV E x hole) : x = .undef := by
  cases x with
  | undef => rfl
  | pv p => exact absurd rfl (not_hole (p := p) (by simpa [RepV] using h))
  | _ => simp [RepV, hole] at h
theorem RepL.msk {H : Hp} : ∀ {cs : List PV} {l m : List Value}, RepL H cs l → Msk l m → RepL H cs m
  | [], _, _, _, _ => by simp only [RepL]
  | c :: cs, [], m, r, _ => by simp only [RepL] at r
  | c :: cs, v :: l, [], _, h => by have := h.1; simp at this
  | c :: cs, v :: l, u :: m, r, h => by
    simp only [RepL] at r ⊢
    have e := h.2 0 v rfl (not_hole r.1)
    simp at e
    subst e
    exact ⟨r.1, RepL.msk r.2 h.tail⟩
theorem RepVL.msk {E : Env} : ∀ {cs : List V} {l m : List Value}, RepVL E cs l → Msk l m → RepVL E cs m
  | [], _, _, _, _ => by simp only [RepVL]
  | c :: cs, [], m, r, _ => by simp only [RepVL] at r
  | c :: cs, v :: l, [], _, h => by have := h.1; simp at this
  | c :: cs, v :: l, u :: m, r, h => by
    simp only [RepVL] at r ⊢
    refine ⟨?_, RepVL.msk r.2 h.tail⟩
    by_cases hv : v = hole
    · subst hv
      rw [RepV_hole r.1]
      simp [RepV]
    · have e := h.2 0 v rfl hv
      simp at e
      subst e
      exact r.1
theorem RepVE.msk {E : Env} : ∀ {es : List (List V)} {l m : List Value}, RepVE E es l → Msk l m → RepVE E es m
  | [], _, _, _, _ => by simp only [RepVE]
  | e :: es, l, m, r, h => by
    simp only [RepVE] at r ⊢
    exact ⟨r.1.msk h, RepVE.msk r.2 (h.drop _)⟩
def HeapOK (E : Env) (w : World) : Prop :=
  ∀ b, E.H b ≠ [] → ∃ c T fr, w.heap[b]? = some (.cells c T fr) ∧ Msk (E.H b) c.toList ∧ (fr = (0, 0) ∨ ∀ v ∈ E.H b, ∃ k n, v = .int k n)

theorem HeapOK.lt {E : Env} {w : World} (h : HeapOK E w) {b : Nat} (hb : w.heap.size ≤ b) : E.H b = [] := by
  by_cases e : E.H b = []
  · exact e
  · obtain ⟨c, T, fr, hc, _⟩ := h b e
    have := (Array.getElem?_eq_some_iff.1 hc).1
    omega

theorem ObOK.blk_lt {E : Env} {w : World} {n : Nat} {o : Ob} (h : ObOK E w n o) {b : Nat} (hb : blk (E.g n) = some b) : b < w.heap.size := by
  cases o with
  | box cs =>
    obtain ⟨b', c, T, hg, hc, _⟩ := h
    rw [hg] at hb
    simp [blk] at hb
    subst hb
    exact (Array.getElem?_eq_some_iff.1 hc).1
  | arr ver sz ty es =>
    obtain ⟨_, _, _, xs, ho, _⟩ := h
    rcases ho.2 with ⟨e, _⟩ | ⟨g, cap, cur, e, _, hc, _⟩
    · rw [e] at hb; simp [blk] at hb
    · rw [e] at hb
      simp [blk] at hb
      subst hb
      exact (Array.getElem?_eq_some_iff.1 hc).1
  | cache D F =>
    obtain ⟨_, b', es, ck, hg, hc, _⟩ := h
    rw [hg] at hb
    simp [blk] at hb
    subst hb
    exact (Array.getElem?_eq_some_iff.1 hc).1

theorem ObOK.free {E : Env} {w : World} {n : Nat} {o : Ob} (h : ObOK E w n o) {b : Nat} (hb : blk (E.g n) = some b) : E.H b = [] := by
  cases o with
  | box cs =>
    obtain ⟨b', c, T, hg, hc, _, _, h0⟩ := h
    rw [hg] at hb
    simp [blk] at hb
    subst hb
    exact h0
  | arr ver sz ty es =>
    obtain ⟨_, _, _, xs, ho, _, hf⟩ := h
    rcases ho.2 with ⟨e, _⟩ | ⟨g, cap, cur, e, _, hc, _⟩
    · rw [e] at hb; simp [blk] at hb
    · refine hf b ?_
      rw [e] at hb ⊢
      simpa [blk, Value.ownBlock] using hb
  | cache D F =>
    obtain ⟨_, b', es, ck, hg, hc, h0, _⟩ := h
    rw [hg] at hb
    simp [blk] at hb
    subst hb
    exact h0

theorem ObOK.mono {E E' : Env} {w w' : World} {n : Nat} {o : Ob} (h : ObOK E w n o) (hH : Hle E.H E'.H)
    (hg : E'.g n = E.g n) (hv : E'.ver n = E.ver n) (hs : E'.sz n = E.sz n) (hn : ∀ m ∈ o.names, EExt E E' m)
    (hb : ∀ b, blk (E.g n) = some b → w'.heap[b]? = w.heap[b]? ∧ E'.H b = E.H b) : ObOK E' w' n o := by
  cases o with
  | box cs =>
    obtain ⟨b, c, T, hgb, hc, hl, hr, h0⟩ := h
    obtain ⟨h1, h2⟩ := hb b (by rw [hgb]; rfl)
    exact ⟨b, c, T, hg.trans hgb, h1.trans hc, hl, RepVL.mono hH cs _ _ List.prefix_rfl hn hr, h2.trans h0⟩
  | arr ver sz ty es =>
    obtain ⟨h1, h2, h3, xs, ho, hr, h0⟩ := h
    have hown : ∀ b, (E.g n).ownBlock = some b → blk (E.g n) = some b := by
      intro b hb'
      revert hb'
      cases E.g n <;> simp [Value.ownBlock, blk]
      rename_i a _ _
      cases a <;> simp
    refine ⟨hv.trans h1, hs.trans h2, h3, xs, ?_, RepVE.mono hH es _ _ List.prefix_rfl hn hr, ?_⟩
    · rw [hg]
      refine ⟨ho.1, ?_⟩
      rcases ho.2 with e | ⟨g, cap, cur, e, hb0, hc, rest⟩
      · exact .inl e
      · refine .inr ⟨g, cap, cur, e, hb0, ?_, rest⟩
        rw [(hb g (by rw [e]; rfl)).1]
        exact hc
    · intro b hb'
      rw [hg] at hb'
      rw [(hb b (hown b hb')).2]
      exact h0 b hb'
  | cache D F =>
    obtain ⟨h0, b, es, ck, hgb, hc, h1, h2⟩ := h
    obtain ⟨h3, h4⟩ := hb b (by rw [hgb]; rfl)
    refine ⟨h0, b, es, ck, hg.trans hgb, h3.trans hc, h4.trans h1, fun e he => ?_⟩
    obtain ⟨p, hp, hk, hv, x, off, v, hx, hm, hn⟩ := h2 e he
    exact ⟨p, hp, RepP.mono hH _ _ hk, RepP.mono hH _ _ hv, x, off, v, hx, (hH x).subset hm, hn⟩

structure St where
  slots : List (Nat × V)
  objs : List (Nat × Ob)
  used : List Nat

def getS : List (Nat × V) → Nat → V
  | [], _ => .undef
  | (k, x) :: r, t => if k = t then x else getS r t
def getO : List (Nat × Ob) → Nat → Option Ob
  | [], _ => none
  | (k, x) :: r, t => if k = t then some x else getO r t
def delO : List (Nat × Ob) → Nat → List (Nat × Ob)
  | [], _ => []
  | (k, x) :: r, t => if k = t then delO r t else (k, x) :: delO r t
def setO : List (Nat × Ob) → Nat → Ob → List (Nat × Ob)
  | [], t, o => [(t, o)]
  | (k, x) :: r, t, o => if k = t then (k, o) :: r else (k, x) :: setO r t o

theorem getO_delO (l : List (Nat × Ob)) (k n : Nat) : getO (delO l k) n = if n = k then none else getO l n := by
  induction l with
  | nil => simp [delO, getO]
  | cons p r ih =>
    obtain ⟨j, x⟩ := p
    by_cases h : j = k
    · subst h
      by_cases hn : n = j
      · subst hn; simp [delO, ih]
      · have : ¬ j = n := fun e => hn e.symm
        simp [delO, ih, getO, hn, this]
    · by_cases hn : n = k
      · subst hn; simp [delO, getO, h, ih]
      · simp [delO, getO, h, ih, hn]
theorem getO_setO (l : List (Nat × Ob)) (k n : Nat) (o : Ob) : getO (setO l k o) n = if n = k then some o else getO l n := by
  induction l with
  | nil =>
    by_cases h : n = k
    · subst h; simp [setO, getO]
    · have : ¬ k = n := fun e => h e.symm
      simp [setO, getO, h, this]
  | cons p r ih =>
    obtain ⟨j, x⟩ := p
    by_cases h : j = k
    · subst h
      by_cases hn : n = j
      · subst hn; simp [setO, getO]
      · have : ¬ j = n := fun e => hn e.symm
        simp [setO, getO, hn, this]
    · by_cases hn : n = k
      · subst hn; simp [setO, getO, h, ih]
      · simp [setO, getO, h, ih, hn]

/-- What stays the same through the body of a function: the world as it was entered, what it was given. -/
structure Ctx where
  E0 : Env
  w0 : World
  given : List (Nat × Ob)
  ms : List Nat
  nt : Nat
  defs : List (Nat × List V)

def Ctx.F (C : Ctx) (b : Nat) : Prop := ∃ n o, getO C.given n = some o ∧ blk (C.E0.g n) = some b

/-- the deferred closures -/
def DefOK (E : Env) : List (Nat × List V) → List Deferred → Prop
  | [], ds => ds = []
  | (f, caps) :: r, ds => ∃ cv rest, ds = { target := .fn (.func f) (cv : List Value).toArray, args := #[] } :: rest ∧ cv.length = caps.length ∧ RepVL E caps cv ∧ DefOK E r rest
def namesD : List (Nat × List V) → List Nat
  | [] => []
  | (_, caps) :: r => namesL caps ++ namesD r
theorem DefOK.mono {E E' : Env} (h : Hle E.H E'.H) : ∀ (l : List (Nat × List V)) (ds : List Deferred), (∀ n ∈ namesD l, EExt E E' n) → DefOK E l ds → DefOK E' l ds
  | [], _, _, hd => hd
  | (f, caps) :: r, ds, hn, hd => by
    obtain ⟨cv, rest, h1, h2, h3, h4⟩ := hd
    exact ⟨cv, rest, h1, h2, RepVL.mono h caps _ _ List.prefix_rfl (fun n hm => hn n (by simp [namesD, hm])) h3, DefOK.mono h r rest (fun n hm => hn n (by simp [namesD, hm])) h4⟩

structure Ga (C : Ctx) (E : Env) (σ : St) (a : Act) (w : World) : Prop where
  slots : ∀ t, RepV E (getS σ.slots t) (a.tmps.getD t undef)
  size : a.tmps.size = C.nt
  defers : DefOK E C.defs a.defers ∧ ∀ n ∈ namesD C.defs, n ∈ σ.used
  heap : HeapOK E w
  objs : ∀ n o, getO σ.objs n = some o → ObOK E w n o
  apart : ∀ n m o o', getO σ.objs n = some o → getO σ.objs m = some o' → n ≠ m → ∀ b, blk (E.g n) = some b → blk (E.g m) ≠ some b
  usedS : ∀ t, ∀ n ∈ (getS σ.slots t).names, n ∈ σ.used
  usedO : ∀ n o, getO σ.objs n = some o → n ∈ σ.used ∧ ∀ m ∈ o.names, m ∈ σ.used
  usedG : ∀ n o, getO C.given n = some o → n ∈ σ.used
  grown : C.w0.heap.size ≤ w.heap.size
  rest : w.os = C.w0.os ∧ w.tape = C.w0.tape ∧ w.output = C.w0.output
  same : ∀ b, b < C.w0.heap.size → ¬ C.F b → w.heap[b]? = C.w0.heap[b]? ∧ E.H b = C.E0.H b
  hle : Hle C.E0.H E.H
  own : ∀ n o b, getO σ.objs n = some o → blk (E.g n) = some b → b < C.w0.heap.size → C.F b
  ext : ∀ n o, getO C.given n = some o → EExt C.E0 E n
  keep : ∀ n ∈ C.ms, n ∈ σ.used ∧ getO σ.objs n = none ∧ E.g n = C.E0.g n ∧ E.ver n = C.E0.ver n ∧ E.sz n = C.E0.sz n

def putS (dst : Option Nat) (x : V) (l : List (Nat × V)) : List (Nat × V) :=
  match dst with
  | some d => (d, x) :: l
  | none => l

/-- One object may change, new blocks may be there, and one slot is written. -/
theorem Ga.change {C : Ctx} {E E' : Env} {σ : St} {a : Act} {w w' : World} (h : Ga C E σ a w) (k : Nat) (oNew : Option Ob) (objs' : List (Nat × Ob)) (used' : List Nat) (dst : Option Nat) (x : V) (v : Value)
    (ho : ∀ n, getO objs' n = if n = k then oNew else getO σ.objs n)
    (hH : Hle E.H E'.H)
    (hE : ∀ n, n ≠ k → E'.g n = E.g n ∧ E'.ver n = E.ver n ∧ E'.sz n = E.sz n)
    (hk : k ∈ σ.used → EExt E E' k) (hown : k ∈ σ.used → ∃ o, getO σ.objs k = some o)
    (hsize : w.heap.size ≤ w'.heap.size)
    (hrest : w'.os = w.os ∧ w'.tape = w.tape ∧ w'.output = w.output)
    (hw : ∀ b, b < w.heap.size → (∀ o, getO σ.objs k = some o → blk (E.g k) ≠ some b) → w'.heap[b]? = w.heap[b]? ∧ E'.H b = E.H b)
    (hheap : HeapOK E' w')
    (hnew : ∀ o, oNew = some o → ObOK E' w' k o ∧ k ∈ used' ∧ ∀ m ∈ o.names, m ∈ used')
    (hblk : ∀ o b, oNew = some o → blk (E'.g k) = some b → w.heap.size ≤ b ∨ (blk (E.g k) = some b ∧ ∃ o', getO σ.objs k = some o'))
    (hused : ∀ n ∈ σ.used, n ∈ used')
    (hx : RepV E' x v) (hxn : ∀ n ∈ x.names, n ∈ used') (hd : ∀ d, dst = some d → d < C.nt) :
    Ga C E' ⟨putS dst x σ.slots, objs', used'⟩ (a.put dst v) w' := by
  have hee : ∀ n ∈ σ.used, EExt E E' n := by
    intro n hn
    by_cases e : n = k
    · subst e; exact hk hn
    · exact EExt.of_eq (hE n e).1 (hE n e).2.1 (hE n e).2.2
  have hbk : ∀ n o, getO σ.objs n = some o → n ≠ k → ∀ b, blk (E.g n) = some b → w'.heap[b]? = w.heap[b]? ∧ E'.H b = E.H b := by
    intro n o hn hne b hb
    refine hw b ((h.objs n o hn).blk_lt hb) ?_
    intro o' hk' e
    exact h.apart n k o o' hn hk' hne b hb e
  have hold : ∀ t, RepV E' (getS σ.slots t) (a.tmps.getD t undef) := fun t =>
    RepV.mono hH _ _ (fun n hn => hee n (h.usedS t n hn)) (h.slots t)
  constructor
  · intro t
    cases dst with
    | none => exact hold t
    | some d =>
      simp only [putS, getS, Act.put]
      by_cases e : d = t
      · subst e
        have hlt : d < a.tmps.size := by rw [h.size]; exact hd d rfl
        simp [hlt, hx]
      · simp only [e, if_false]
        have := hold t
        simpa [Array.getD_eq_getD_getElem?, Array.getElem?_setIfInBounds_ne e] using this
  · cases dst <;> simp [Act.put, h.size]
  · refine ⟨?_, fun n hn => hused n (h.defers.2 n hn)⟩
    have := DefOK.mono hH _ _ (fun n hn => hee n (h.defers.2 n hn)) h.defers.1
    cases dst <;> simpa [Act.put] using this
  · exact hheap
  · intro n o hn
    simp only [ho n] at hn
    split at hn
    · rename_i e; subst e; exact (hnew o hn).1
    · rename_i e
      exact (h.objs n o hn).mono hH (hE n e).1 (hE n e).2.1 (hE n e).2.2 (fun m hm => hee m ((h.usedO n o hn).2 m hm)) (hbk n o hn e)
  · have key : ∀ n o, oNew = some o → n ≠ k → ∀ o', getO σ.objs n = some o' → ∀ b, blk (E'.g k) = some b → blk (E'.g n) ≠ some b := by
      intro n o hn hne o' hn' b hb hb'
      rw [(hE n hne).1] at hb'
      rcases hblk o b hn hb with hlt | ⟨hb0, o'', hk'⟩
      · have := (h.objs n o' hn').blk_lt hb'; omega
      · exact h.apart n k o' o'' hn' hk' hne b hb' hb0
    intro n m o o' hn hm hne b hb hb'
    simp only [ho n] at hn
    simp only [ho m] at hm
    split at hn
    · rename_i e; subst e
      have hmk : m ≠ n := fun e => hne e.symm
      simp only [hmk, if_false] at hm
      exact key m o hn hmk o' hm b hb hb'
    · rename_i e
      split at hm
      · rename_i e'; subst e'
        exact key n o' hm e o hn b hb' hb
      · rename_i e'
        rw [(hE n e).1] at hb
        rw [(hE m e').1] at hb'
        exact h.apart n m o o' hn hm hne b hb hb'
  · intro t n hn
    cases dst with
    | none => exact hused n (h.usedS t n hn)
    | some d =>
      simp only [putS, getS] at hn
      split at hn
      · exact hxn n hn
      · exact hused n (h.usedS t n hn)
  · intro n o hn
    simp only [ho n] at hn
    split at hn
    · rename_i e; subst e; exact (hnew o hn).2
    · exact ⟨hused n (h.usedO n o hn).1, fun m hm => hused m ((h.usedO n o hn).2 m hm)⟩
  · exact fun n o hn => hused n (h.usedG n o hn)
  · exact Nat.le_trans h.grown hsize
  · exact ⟨hrest.1.trans h.rest.1, hrest.2.1.trans h.rest.2.1, hrest.2.2.trans h.rest.2.2⟩
  · intro b hb hF
    obtain ⟨h1, h2⟩ := h.same b hb hF
    obtain ⟨h3, h4⟩ := hw b (Nat.lt_of_lt_of_le hb h.grown) (fun o hk' e => hF (h.own k o b hk' e hb))
    exact ⟨h3.trans h1, h4.trans h2⟩
  · exact h.hle.trans hH
  · intro n o b hn hb hlt
    simp only [ho n] at hn
    split at hn
    · rename_i e; subst e
      rcases hblk o b hn hb with hge | ⟨hb0, o', hk'⟩
      · have := h.grown; omega
      · exact h.own n o' b hk' hb0 hlt
    · rename_i e
      rw [(hE n e).1] at hb
      exact h.own n o b hn hb hlt
  · intro n o hn
    exact (h.ext n o hn).trans (hee n (h.usedG n o hn))
  · intro n hn
    obtain ⟨h1, h2, h3, h4, h5⟩ := h.keep n hn
    have hne : n ≠ k := by
      intro e
      subst e
      obtain ⟨o, ho'⟩ := hown h1
      rw [h2] at ho'; cases ho'
    refine ⟨hused n h1, ?_, (hE n hne).1.trans h3, (hE n hne).2.1.trans h4, (hE n hne).2.2.trans h5⟩
    simp only [ho n, hne, if_false]
    exact h2

theorem exists_fresh (l : List Nat) : ∃ k, k ∉ l := by
  have key : ∃ m, ∀ n ∈ l, n < m := by
    induction l with
    | nil => exact ⟨0, by simp⟩
    | cons x l ih =>
      obtain ⟨m, hm⟩ := ih
      refine ⟨max (x + 1) m, fun n hn => ?_⟩
      rcases List.mem_cons.1 hn with rfl | hn
      · omega
      · have := hm n hn; omega
  obtain ⟨m, hm⟩ := key
  exact ⟨m, fun h => absurd (hm m h) (Nat.lt_irrefl _)⟩

/-- Nothing but new blocks, and one slot is written. -/
theorem Ga.pure {C : Ctx} {E : Env} {σ : St} {a : Act} {w w' : World} (h : Ga C E σ a w) (H' : Hp) (dst : Option Nat) (x : V) (v : Value)
    (hH : Hle E.H H') (hsize : w.heap.size ≤ w'.heap.size)
    (hrest : w'.os = w.os ∧ w'.tape = w.tape ∧ w'.output = w.output)
    (hw : ∀ b, b < w.heap.size → w'.heap[b]? = w.heap[b]? ∧ H' b = E.H b)
    (hheap : HeapOK { E with H := H' } w')
    (hx : RepV { E with H := H' } x v) (hxn : ∀ n ∈ x.names, n ∈ σ.used) (hd : ∀ d, dst = some d → d < C.nt) :
    Ga C { E with H := H' } ⟨putS dst x σ.slots, σ.objs, σ.used⟩ (a.put dst v) w' := by
  -- a name that is no object
  have hee : ∀ n, EExt E { E with H := H' } n := fun n => EExt.of_eq rfl rfl rfl
  by_cases hk : ∃ k o, getO σ.objs k = some o
  · obtain ⟨k, o, hk⟩ := hk
    refine h.change (E' := { E with H := H' }) k (some o) σ.objs σ.used dst x v ?_ hH (fun _ _ => ⟨rfl, rfl, rfl⟩) (fun _ => hee k) (fun _ => ⟨o, hk⟩) hsize hrest (fun b hb _ => hw b hb) hheap ?_ ?_ (fun _ h => h) hx hxn hd
    · intro n
      by_cases e : n = k
      · subst e; simp [hk]
      · simp [e]
    · intro o' e
      cases e
      exact ⟨(h.objs k o hk).mono hH rfl rfl rfl (fun m _ => hee m) (fun b hb => hw b ((h.objs k o hk).blk_lt hb)), (h.usedO k o hk)⟩
    · intro o' b e hb
      exact .inr ⟨hb, o, hk⟩
  · have hnone : ∀ k, getO σ.objs k = none := by
      intro k
      cases e : getO σ.objs k with
      | none => rfl
      | some o => exact absurd ⟨k, o, e⟩ hk
    obtain ⟨k, hk'⟩ := exists_fresh σ.used
    refine h.change (E' := { E with H := H' }) k none σ.objs σ.used dst x v ?_ hH (fun _ _ => ⟨rfl, rfl, rfl⟩) (fun _ => hee k) (fun e => absurd e hk') hsize hrest (fun b hb _ => hw b hb) hheap ?_ ?_ (fun _ h => h) hx hxn hd
    · intro n; simp [hnone]
    · intro o e; cases e
    · intro o b e; cases e

end Go.Lg
/- What each operation does to a state of the logic. -/
namespace Go.Lg

/-- What is known of a type. -/
inductive TK where
  | other | bool | pointer | func
  | struct (fs : List (Nat × Nat))
  | slice (e : Nat)
  | array (n e : Nat)
  | map (k v : Nat)
  | iface
def TK.isIface : TK → Bool
  | .iface => true
  | _ => false
structure TI where
  k : TK
  size : Nat
  bytes : Nat
  zero : Value
  zc : List PV

def TKOK (P : Program) (d : TypeDesc) : TK → Prop
  | .other => match d with | .struct _ => False | .array _ _ => False | _ => True
  | .bool => d = .bool
  | .pointer => ∃ e, d = .pointer e
  | .func => ∃ p r v, d = .func p r v
  | .struct fs => ∃ f, d = .struct f ∧ f.toList.map (fun x => (x.offset, (P.info? x.type).map (·.size))) = fs.map (fun p => (p.1, some p.2))
  | .slice e => d = .slice e
  | .array n e => d = .array n e
  | .map k v => d = .map k v ∧ ∃ e, P.underlying k = some (.pointer e) ∧ (P.info? e).map (fun i => decide (i.size = 0)) = some false
  | .iface => ∃ ms, d = .interface ms
structure TIOK (P : Program) (t : Nat) (ti : TI) : Prop where
  info : ∃ i, P.info? t = some i ∧ i.size = ti.size ∧ i.bytes = ti.bytes ∧ i.zero = some ti.zero
  desc : ∃ d, P.underlying t = some d ∧ TKOK P d ti.k
  zlen : ti.zero.cells.size = ti.size
  zcells : RepL (fun _ => []) ti.zc ti.zero.cells.toList
  zc : ti.zc.length = ti.size
  conc : ti.k.isIface = true ∨ P.concrete t = true
def TOK (P : Program) (T : Nat → Option TI) : Prop := ∀ t ti, T t = some ti → TIOK P t ti

theorem map_elem {P : Program} {e : Nat} (h : (P.info? e).map (fun i => decide (i.size = 0)) = some false) : ∃ i, P.info? e = some i ∧ i.size ≠ 0 := by
  cases hi : P.info? e with
  | none => rw [hi] at h; cases h
  | some i => rw [hi] at h; exact ⟨i, rfl, by simpa using h⟩
def TI.isAgg (ti : TI) : Bool := match ti.k with | .struct _ => true | .array _ _ => true | _ => false

/-- What the operations of a slot should make: a mutable variable under a name, an array under a name. -/
inductive Note where
  | none
  | box (n : Nat)
  | arr (n sz ty : Nat)
  | cache (n : Nat) (D : PV → Prop) (F : PV → List PV)
  | keep

structure R where
  cond : Prop
  fact : Prop
  out : V
  wr : Option (Nat × Ob)
  new : Bool

def R.of (x : V) : R := ⟨True, True, x, .none, false⟩
def R.ofIf (c : Prop) (x : V) : R := ⟨c, True, x, .none, false⟩

def cst : Value → V
  | .int .i64 n => .pv (.int n)
  | .bool b => .pv (.bool b)
  | .pointer none => .pv .nil
  | .slice none 0 0 => .pv (.slice [])
  | .nilFunc => .pv .nilfn
  | _ => .undef

def pcells : PV → Option (List PV)
  | .agg cs => some cs
  | .tuple _ => none
  | p => some [p]
def vcells : V → Option (List V)
  | .pv (.agg cs) => some (cs.map .pv)
  | .pv (.tuple _) => none
  | .agg cs => some cs
  | .tuple _ => none
  | .undef => none
  | x => some [x]
/-- a value of one cell -/
def V.one : V → Bool
  | .pv (.agg _) => false
  | .pv (.tuple _) => false
  | .agg _ => false
  | .tuple _ => false
  | .undef => false
  | _ => true

def V.un : V → Option PV
  | .pv p => some p
  | _ => none
def unL : List V → Option (List PV)
  | [] => some []
  | c :: cs => match c.un, unL cs with
    | some p, some ps => some (p :: ps)
    | _, _ => none
def unE : List (List V) → Option (List (List PV))
  | [] => some []
  | e :: es => match unL e, unE es with
    | some p, some ps => some (p :: ps)
    | _, _ => none
def pvL (cs : List PV) : List V := cs.map .pv
def pvE (es : List (List PV)) : List (List V) := es.map pvL
theorem unL_pvL (cs : List PV) : unL (pvL cs) = some cs := by
  induction cs with
  | nil => rfl
  | cons c cs ih => simp only [pvL, List.map_cons, unL, V.un] at ih ⊢; rw [ih]
theorem unE_pvE (es : List (List PV)) : unE (pvE es) = some es := by
  induction es with
  | nil => rfl
  | cons e es ih => simp only [pvE, List.map_cons, unE, unL_pvL] at ih ⊢; rw [ih]

def mkAgg (cs : List V) : V := match unL cs with
  | some ps => .pv (.agg ps)
  | none => .agg cs
/-- what is read of some cells, by a type -/
def rdV (agg : Bool) (n : Nat) (cs : List V) : Option V :=
  if agg then (if n ≤ cs.length then some (mkAgg (cs.take n)) else none)
  else match cs with
    | c :: _ => some c
    | [] => none
def rdP (agg : Bool) (n : Nat) (cs : List PV) : Option R :=
  if agg then some ⟨n ≤ cs.length, True, .pv (.agg (cs.take n)), .none, false⟩
  else match cs with
    | c :: _ => some (R.of (.pv c))
    | [] => none
def putL (cs : List V) (off : Nat) (ys : List V) : List V := cs.take off ++ ys ++ cs.drop (off + ys.length)

def fillV (fs : List (Nat × Nat)) (cells : List V) : List (Nat × V) → Option (List V)
  | [] => some cells
  | (i, x) :: rest => match fs[i]?, vcells x with
    | some (off, size), some ys => if ys.length = size ∧ off + size ≤ cells.length then fillV fs (putL cells off ys) rest else none
    | _, _ => none

def placesA (s : Nat) : Nat → Nat → List (Nat × Nat)
  | 0, _ => []
  | n + 1, k => (k * s, s) :: placesA s n (k + 1)
theorem placesA_get (s : Nat) : ∀ (n k i : Nat) (p : Nat × Nat), (placesA s n k)[i]? = some p → p = ((k + i) * s, s)
  | 0, _, i, p, h => by simp [placesA] at h
  | n + 1, k, 0, p, h => by simp [placesA] at h; simp [← h]
  | n + 1, k, i + 1, p, h => by
    have := placesA_get s n (k + 1) i p (by simpa [placesA] using h)
    rw [this, show k + 1 + i = k + (i + 1) by omega]
def sliceParts : Nat → List (Nat × V) → Option (List (List V))
  | _, [] => some []
  | k, (i, x) :: rest => if i = k then
      match vcells x, sliceParts (k + 1) rest with
      | some cs, some es => some (cs :: es)
      | _, _ => none
    else none
def mkSlice (es : List (List V)) : V := match unE es with
  | some ps => .pv (.slice ps)
  | none => .vsl es

def inI (x : Int) : Prop := -9223372036854775808 ≤ x ∧ x ≤ 9223372036854775807

def boolR (b : Bool) : Option R := some (R.of (.pv (.bool b)))

def stepEq (k : TK) (x y : V) (yo : Operand) : Option Bool :=
  match k, x, y with
  | .bool, .pv (.bool a), .pv (.bool b) => some (a == b)
  | .pointer, .pv .nil, .pv .nil => some true
  | .pointer, .pv (.ptr _), .pv .nil => some false
  | .pointer, .loc _ _, .pv .nil => some false
  | .func, .pv .nilfn, .pv .nilfn => some true
  | .func, .fn _ _, .pv .nilfn => some false
  | .iface, .pv (.iface _ _), _ => match yo with
    | .const .nilIface => some false
    | _ => none
  | .slice _, .pv .nils, _ => match yo with
    | .const (.slice none 0 0) => some true
    | _ => none
  | .slice _, .pv (.slice (_ :: _)), _ => match yo with
    | .const (.slice none 0 0) => some false
    | _ => none
  | _, _, _ => none

def stepInt (op : BinOp) (a b : Int) : Option R :=
  match op with
  | .add => some (R.ofIf (inI (a + b)) (.pv (.int (a + b))))
  | .sub => some (R.ofIf (inI (a - b)) (.pv (.int (a - b))))
  | .mul => some (R.ofIf (inI (a * b)) (.pv (.int (a * b))))
  | .rem => some (R.ofIf (b ≠ 0) (.pv (.int (a.tmod b))))
  | .lss => boolR (decide (a < b))
  | .leq => boolR (decide (a ≤ b))
  | .gtr => boolR (decide (b < a))
  | .geq => boolR (decide (b ≤ a))
  | .eql => boolR (decide (a = b))
  | .neq => boolR (!decide (a = b))
  | _ => none

def stepBin (k : TK) (op : BinOp) (x y : V) (yo : Operand) : Option R :=
  match x, y with
  | .pv (.int a), .pv (.int b) => stepInt op a b
  | x, y => match op, stepEq k x y yo with
    | .eql, some b => boolR b
    | .neq, some b => boolR (!b)
    | _, _ => none

def addrOff (x : V) (off : Nat) : Option V :=
  match x with
  | .pv (.ptr cs) => some (.pv (.ptr (cs.drop off)))
  | .loc n o => some (.loc n (o + off))
  | .eloc n ver i o => some (.eloc n ver i (o + off))
  | _ => none

def stepLoad (ti : TI) (ob : Nat → Option Ob) (x : V) : Option R :=
  match x with
  | .pv (.ptr cs) => rdP ti.isAgg ti.size cs
  | .loc n off => match ob n with
    | some (.box cs) => (rdV ti.isAgg ti.size (cs.drop off)).map R.of
    | _ => none
  | .eloc n ver i off => match ob n with
    | some (.arr ver' _ _ es) => match es[i]? with
      | some e => (rdV ti.isAgg ti.size (e.drop off)).map (R.ofIf (ver = ver'))
      | none => none
    | _ => none
  | _ => none

def stepStore (ti : TI) (ob : Nat → Option Ob) (x y : V) : Option R :=
  match vcells y with
  | none => none
  | some ys => match x with
    | .loc n off => match ob n with
      | some (.box cs) => some ⟨ys.length = ti.size ∧ off + ys.length ≤ cs.length ∧ ys.all V.one = true, True, .undef, some (n, .box (putL cs off ys)), false⟩
      | _ => none
    | .eloc n ver i off => match ob n with
      | some (.arr ver' sz ty es) => some ⟨ver = ver' ∧ i < es.length ∧ ys.length = ti.size ∧ off + ys.length ≤ sz ∧ ys.all V.one = true, True, .undef, some (n, .arr ver' sz ty (es.set i (putL (es.getD i []) off ys))), false⟩
      | _ => none
    | _ => none

def stepIndex (T : Nat → Option TI) (ob : Nat → Option Ob) (t : Nat) (x i : V) : Option R :=
  match i with
  | .pv (.int k) => match T t with
    | some ⟨.slice e, _, _, _, _⟩ => match T e with
      | some te => match x with
        | .pv (.slice es) => some (R.ofIf (0 ≤ k ∧ k < es.length ∧ ∀ y ∈ es, y.length = te.size) (.pv (.ptr (es.getD k.toNat []))))
        | .arr n ver len => match ob n with
          | some (.arr ver' sz _ es) => some (R.ofIf (ver = ver' ∧ 0 ≤ k ∧ k < len ∧ sz = te.size ∧ len ≤ es.length) (.eloc n ver k.toNat 0))
          | _ => none
        | _ => none
      | none => none
    | some ⟨.array m e, _, _, _, _⟩ => match T e with
      | some te => (addrOff x (k.toNat * te.size)).map (R.ofIf (0 ≤ k ∧ k < m))
      | none => none
    | _ => none
  | _ => none

def stepLen (ob : Nat → Option Ob) (x : V) : Option R :=
  match x with
  | .pv (.slice es) => some ⟨True, es.length ≤ maxLen, .pv (.int es.length), .none, false⟩
  | .pv .nils => some (R.of (.pv (.int 0)))
  | .arr n ver len => match ob n with
    | some (.arr ver' _ _ es) => some ⟨ver = ver', es.length ≤ maxLen, .pv (.int len), .none, false⟩
    | _ => none
  | _ => none

/-- what is appended -/
def srcOf (y : V) : Option (List (List V)) :=
  match y with
  | .pv (.slice es) => some (pvE es)
  | .pv .nils => some []
  | .vsl es => some es
  | _ => none

def stepAppend (e : Nat) (te : TI) (ob : Nat → Option Ob) (note : Note) (xo : Operand) (x y : V) : Option R :=
  match x with
  | .arr n ver len => match ob n, srcOf y with
    | some (.arr ver' sz ty es), some ys => some ⟨ver = ver' ∧ len ≤ es.length ∧ ty = e ∧ sz = te.size ∧ 0 < sz ∧ (∀ y ∈ ys, y.length = sz) ∧ (∀ y ∈ ys, y.all V.one = true) ∧ len + ys.length ≤ maxLen ∧ (len + ys.length) * te.bytes ≤ 140737488355328, True,
        .arr n (ver + 1) (len + ys.length), some (n, .arr (ver + 1) sz ty (es.take len ++ ys)), false⟩
    | _, _ => none
  | .fsl es => match y with
    | .pv (.slice ys) => some ⟨(∀ e ∈ es, e.length = te.size) ∧ (∀ y ∈ ys, y.length = te.size) ∧ 0 < te.size ∧ ys ≠ [] ∧ es.length + ys.length ≤ maxLen ∧ (es.length + ys.length) * te.bytes ≤ 140737488355328, True, .pv (.slice (es ++ ys)), .none, false⟩
    | _ => none
  | _ => match xo with
    | .const (.slice none 0 0) => match y, note with
      | .pv (.slice es), .none => some ⟨(∀ e ∈ es, e.length = te.size) ∧ 0 < te.size ∧ es.length * te.bytes ≤ 140737488355328, True, .pv (.slice es), .none, false⟩
      | y, .arr n sz ty => match srcOf y with
        | some ys => some ⟨ty = e ∧ sz = te.size ∧ 0 < sz ∧ (∀ y ∈ ys, y.length = sz) ∧ (∀ y ∈ ys, y.all V.one = true) ∧ ys.length ≤ maxLen ∧ ys.length * te.bytes ≤ 140737488355328, True,
          .arr n 1 ys.length, some (n, .arr 1 sz ty ys), true⟩
        | none => none
      | _, _ => none
    | _ => none

def stepSlice (te : TI) (ob : Nat → Option Ob) (x : V) (lo hi mx : Option V) : Option R :=
  match x, lo, hi, mx with
  | .pv (.slice es), some (.pv (.int l)), none, none => some (R.ofIf (0 ≤ l ∧ l ≤ es.length ∧ ∀ y ∈ es, y.length = te.size) (.pv (.slice (es.drop l.toNat))))
  | .pv (.slice es), none, some (.pv (.int h)), none => some (R.ofIf (0 ≤ h ∧ h ≤ es.length) (.pv (.slice (es.take h.toNat))))
  | .arr n ver len, none, some (.pv (.int h)), none => match ob n with
    | some (.arr ver' _ _ _) => some (R.ofIf (ver = ver' ∧ 0 ≤ h ∧ h ≤ len) (.arr n ver h.toNat))
    | _ => none
  | .pv (.slice es), none, some (.pv (.int h)), some (.pv (.int m)) => some (R.ofIf (h = es.length ∧ m = es.length) (.fsl es))
  | _, _, _, _ => none

def stepMove (note : Note) (val : Operand → V) (x : Operand) : Option R :=
  match note, x with
  | .arr n sz ty, .const (.slice none 0 0) => some ⟨True, True, .arr n 0 0, some (n, .arr 0 sz ty []), true⟩
  | _, _ => some (R.of (val x))

def PV.nonint : PV → Bool
  | .bool _ => true
  | .nil => true
  | .ptr _ => true
  | _ => false
def stepUpdate (ob : Nat → Option Ob) (m k v : V) : Option R :=
  match m, k, v with
  | .map n, .pv (.ptr ks), .pv (.agg cs) => match ob n with
    | some (.cache D F) => some ⟨D (.ptr ks) ∧ cs = F (.ptr ks) ∧ ks.any PV.nonint = true, True, .undef, some (n, .cache D F), false⟩
    | _ => none
  | _, _, _ => none

def stepRow (e : Nat) (te : TI) (note : Note) (len : Nat) (es : List (List V)) : Option R :=
  match note with
  | .arr n sz ty => some ⟨(es.length = len ∧ len ≤ 16777216 ∧ len * te.size ≤ 16777216 ∧ ∀ e ∈ es, e.length = te.size) ∧ ty = e ∧ sz = te.size, True, .arr n 0 len, some (n, .arr 0 sz ty es), true⟩
  | _ => some (R.ofIf (es.length = len ∧ len ≤ 16777216 ∧ len * te.size ≤ 16777216 ∧ ∀ e ∈ es, e.length = te.size) (mkSlice es))

/-- One operation that is no call of a Go function. -/
def stepOp (T : Nat → Option TI) (note : Note) (val : Operand → V) (ob : Nat → Option Ob) (dst : Option Nat) (op : Op) : Option R :=
  match op with
  | .move x => stepMove note val x
  | .assign x => stepMove note val x
  | .pick c a b => match val c, val a, val b with
    | .pv (.bool c), .pv (.bool a), .pv (.bool b) => boolR (bif c then a else b)
    | .pv (.bool true), a, _ => some (R.of a)
    | .pv (.bool false), _, b => some (R.of b)
    | _, _, _ => none
  | .alloc t => match T t, note, dst with
    | some ti, .box n, _ => some ⟨True, True, .loc n 0, some (n, .box (pvL ti.zc)), true⟩
    | some ti, _, some d => some ⟨True, True, .loc d 0, some (d, .box (pvL ti.zc)), true⟩
    | _, _, _ => none
  | .box _ x => match note with
    | .box n => match vcells (val x) with
      | some cs => if cs.all V.one = true then some ⟨True, True, .loc n 0, some (n, .box cs), true⟩ else none
      | none => none
    | _ => match val x with
      | .pv p => match pcells p with
        | some cs => some (R.of (.pv (.ptr cs)))
        | none => none
      | _ => none
  | .build t parts => match T t with
    | some ⟨.struct fs, _, _, _, zc⟩ => (fillV fs (pvL zc) (parts.toList.map fun p => (p.1, val p.2))).map (fun cs => R.of (mkAgg cs))
    | some ⟨.array m e, _, _, _, zc⟩ => match T e with
      | some te => (fillV (placesA te.size m 0) (pvL zc) (parts.toList.map fun p => (p.1, val p.2))).map (fun cs => R.of (mkAgg cs))
      | none => none
    | _ => none
  | .makeFunc (.func f) first caps => if first.size = 0 then some (R.of (.fn f (caps.toList.map val))) else none
  | .typeAssert x _ t true => match val x, T t with
    | .pv (.iface t' p), some ⟨.struct _, _, _, _, _⟩ => if t' = t then some (R.of (.pv (.tuple [p, .bool true]))) else none
    | _, _ => none
  | .makeMap _ none => match note with
    | .cache n D F => some ⟨Coh D F, True, .map n, some (n, .cache D F), true⟩
    | _ => none
  | .mapUpdate t m k v => match dst, T t with
    | none, some ⟨.map _ _, _, _, _, _⟩ => stepUpdate ob (val m) (val k) (val v)
    | _, _ => none
  | .buildSlice t len parts => match T t with
    | some ⟨.slice e, _, _, _, _⟩ => match T e with
      | some te => match sliceParts 0 (parts.toList.map fun p => (p.1, val p.2)) with
        | some es => stepRow e te note len es
        | none => none
      | none => none
    | _ => none
  | .load t x => match T t with
    | some ti => stepLoad ti ob (val x)
    | none => none
  | .store t x y => match dst, T t with
    | none, some ti => stepStore ti ob (val x) (val y)
    | _, _ => none
  | .nilCheck x => match val x with
    | .pv (.ptr cs) => some (R.of (.pv (.ptr cs)))
    | .loc n off => some (R.of (.loc n off))
    | .eloc n v i o => some (R.of (.eloc n v i o))
    | _ => none
  | .binOp b t x y _ => match T t with
    | some ti => stepBin ti.k b (val x) (val y) y
    | none => none
  | .unOp .not _ x => match val x with
    | .pv (.bool b) => boolR (!b)
    | _ => none
  | .makeInterface t x => match T t, val x with
    | some ti, .pv p => bif ti.k.isIface then none else some (R.of (.pv (.iface t p)))
    | _, _ => none
  | .fieldAddr t x f => match T t with
    | some ⟨.struct fs, _, _, _, _⟩ => match fs[f]? with
      | some (off, size) => if size = 0 then none else (addrOff (val x) off).map R.of
      | none => none
    | _ => none
  | .indexAddr t x i => stepIndex T ob t (val x) (val i)
  | .extract x i => match val x with
    | .pv (.tuple cs) => (cs[i]?).map (fun c => R.of (.pv c))
    | .tuple cs => (cs[i]?).map R.of
    | _ => none
  | .slice t x lo hi mx => match T t with
    | some ⟨.slice e, _, _, _, _⟩ => match T e with
      | some te => stepSlice te ob (val x) (lo.map val) (hi.map val) (mx.map val)
      | none => none
    | _ => none
  | .call { callee := .builtin .len, args, argTypes } => match argTypes.toList, args.toList with
    | [t], [x] => match T t with
      | some ⟨.slice _, _, _, _, _⟩ => stepLen ob (val x)
      | _ => none
    | _, _ => none
  | .call { callee := .builtin .append, args, argTypes } => match argTypes.toList, args.toList with
    | [t, t'], [x, y] => if t = t' then
        match T t with
        | some ⟨.slice e, _, _, _, _⟩ => match T e with
          | some te => stepAppend e te ob note x (val x) (val y)
          | none => none
        | _ => none
      else none
    | _, _ => none
  | .call { callee := .builtin .max, args, argTypes := _ } => match args.toList with
    | [x, y] => match val x, val y with
      | .pv (.int a), .pv (.int b) => some (R.of (.pv (.int (if b > a then b else a))))
      | _, _ => none
    | _ => none
  | _ => none

end Go.Lg
/- Each operation does in the world what the logic says. -/
namespace Go.Lg

def St.val (gl : Nat → Option (List PV)) (σ : St) : Operand → V
  | .tmp t => getS σ.slots t
  | .const v => cst v
  | .func f => .fn f []
  | .global g => match gl g with
    | some cs => .pv (.ptr cs)
    | none => .undef
def GOK (gl : Nat → Option (List PV)) (H : Hp) : Prop := ∀ g cs, gl g = some cs → RepL H cs (H g)
theorem GOK.mono {gl : Nat → Option (List PV)} {H H' : Hp} (h : GOK gl H) (hH : Hle H H') : GOK gl H' :=
  fun g cs e => RepL.mono hH cs _ _ (hH g) (h g cs e)

theorem cst_rep (E : Env) (v : Value) : RepV E (cst v) v := by
  unfold cst
  split <;> simp [RepV, RepP, maxLen]
theorem cst_names (v : Value) : (cst v).names = [] := by
  unfold cst
  split <;> simp [V.names]

section
variable {C : Ctx} {E : Env} {σ : St} {a : Act} {w : World} {gl : Nat → Option (List PV)}
theorem val_rep (h : Ga C E σ a w) (hg : GOK gl C.E0.H) (x : Operand) : RepV E (σ.val gl x) (a.eval x) := by
  cases x with
  | tmp t => exact h.slots t
  | const v => exact cst_rep E v
  | func f => exact ⟨[], by simp [Act.eval], rfl, by simp [RepVL]⟩
  | global g =>
    simp only [St.val, Act.eval]
    split
    · rename_i cs e
      simp only [RepV, RepP]
      exact ⟨g, 0, rfl, by simpa using (hg.mono h.hle) g cs e⟩
    · simp [RepV]
theorem val_names (h : Ga C E σ a w) (x : Operand) : ∀ n ∈ (σ.val gl x).names, n ∈ σ.used := by
  cases x with
  | tmp t => exact h.usedS t
  | const v => intro n hn; simp [St.val, cst_names] at hn
  | func f => intro n hn; simp [St.val, V.names, namesL] at hn
  | global g =>
    intro n hn
    simp only [St.val] at hn
    split at hn <;> simp [V.names] at hn
end

theorem RepL.take {H : Hp} : ∀ {cs : List PV} {vs : List Value} (n : Nat), RepL H cs vs → RepL H (cs.take n) (vs.take n)
  | cs, vs, 0, _ => by simp [RepL]
  | [], vs, n + 1, _ => by simp [RepL]
  | c :: cs, [], n + 1, r => by simp [RepL] at r
  | c :: cs, v :: vs, n + 1, r => by
    simp only [RepL] at r
    simp only [List.take_succ_cons, RepL]
    exact ⟨r.1, RepL.take n r.2⟩
theorem RepL.drop {H : Hp} : ∀ {cs : List PV} {vs : List Value} (n : Nat), RepL H cs vs → RepL H (cs.drop n) (vs.drop n)
  | cs, vs, 0, r => by simpa using r
  | [], vs, n + 1, _ => by simp [RepL]
  | c :: cs, [], n + 1, r => by simp [RepL] at r
  | c :: cs, v :: vs, n + 1, r => by
    simp only [RepL] at r
    simpa using RepL.drop n r.2
theorem RepVL.take {E : Env} : ∀ {cs : List V} {vs : List Value} (n : Nat), RepVL E cs vs → RepVL E (cs.take n) (vs.take n)
  | cs, vs, 0, _ => by simp [RepVL]
  | [], vs, n + 1, _ => by simp [RepVL]
  | c :: cs, [], n + 1, r => by simp [RepVL] at r
  | c :: cs, v :: vs, n + 1, r => by
    simp only [RepVL] at r
    simp only [List.take_succ_cons, RepVL]
    exact ⟨r.1, RepVL.take n r.2⟩
theorem RepVL.drop {E : Env} : ∀ {cs : List V} {vs : List Value} (n : Nat), RepVL E cs vs → RepVL E (cs.drop n) (vs.drop n)
  | cs, vs, 0, r => by simpa using r
  | [], vs, n + 1, _ => by simp [RepVL]
  | c :: cs, [], n + 1, r => by simp [RepVL] at r
  | c :: cs, v :: vs, n + 1, r => by
    simp only [RepVL] at r
    simpa using RepVL.drop n r.2
theorem RepVL.append {E : Env} : ∀ {cs ds : List V} {vs us : List Value}, cs.length = vs.length → RepVL E cs vs → RepVL E ds us → RepVL E (cs ++ ds) (vs ++ us)
  | [], ds, [], us, _, _, r => by simpa using r
  | [], ds, _ :: _, us, h, _, _ => by simp at h
  | c :: cs, ds, [], us, h, _, _ => by simp at h
  | c :: cs, ds, v :: vs, us, h, r, r' => by
    simp only [RepVL] at r
    simp only [List.cons_append, RepVL]
    exact ⟨r.1, RepVL.append (by simpa using h) r.2 r'⟩
theorem RepVL.ofPv {E : Env} : ∀ {cs : List PV} {vs : List Value}, RepL E.H cs vs → RepVL E (pvL cs) vs
  | [], _, _ => by simp [pvL, RepVL]
  | c :: cs, [], r => by simp [RepL] at r
  | c :: cs, v :: vs, r => by
    simp only [RepL] at r
    simp only [pvL, List.map_cons, RepVL, RepV]
    exact ⟨r.1, RepVL.ofPv r.2⟩
theorem RepVL.toPv {E : Env} : ∀ {cs : List V} {ps : List PV} {vs : List Value}, unL cs = some ps → RepVL E cs vs → RepL E.H ps vs
  | [], ps, _, h, _ => by simp [unL] at h; subst h; simp [RepL]
  | c :: cs, ps, [], h, r => by simp [RepVL] at r
  | c :: cs, ps, v :: vs, h, r => by
    simp only [unL] at h
    split at h
    · rename_i p qs hp hq
      cases h
      simp only [RepVL] at r
      simp only [RepL]
      refine ⟨?_, RepVL.toPv hq r.2⟩
      cases c <;> simp [V.un] at hp
      subst hp
      simpa [RepV] using r.1
    · cases h
theorem unL_len : ∀ {cs : List V} {ps : List PV}, unL cs = some ps → ps.length = cs.length
  | [], ps, h => by simp [unL] at h; subst h; rfl
  | c :: cs, ps, h => by
    simp only [unL] at h
    split at h
    · rename_i p qs hp hq
      cases h
      simp [unL_len hq]
    · cases h
theorem mkAgg_rep {E : Env} {cs : List V} {vs : List Value} (hl : vs.length = cs.length) (r : RepVL E cs vs) : RepV E (mkAgg cs) (.agg vs.toArray) := by
  unfold mkAgg
  split
  · rename_i ps e
    exact ⟨vs, rfl, by rw [hl, unL_len e], RepVL.toPv e r⟩
  · exact ⟨vs, rfl, hl, r⟩
theorem namesL_pvL (cs : List PV) : namesL (pvL cs) = [] := by
  induction cs with
  | nil => rfl
  | cons c cs ih => simpa [pvL, namesL, V.names] using ih
theorem namesE_pvE (es : List (List PV)) : namesE (pvE es) = [] := by
  induction es with
  | nil => rfl
  | cons c cs ih => simpa [pvE, namesE, namesL_pvL] using ih
theorem RepVE.toPv {E : Env} : ∀ {es : List (List V)} {ps : List (List PV)} {vs : List Value}, unE es = some ps → RepVE E es vs → RepE E.H ps vs
  | [], ps, _, h, _ => by simp [unE] at h; subst h; simp [RepE]
  | e :: es, ps, vs, h, r => by
    simp only [unE] at h
    split at h
    · rename_i p qs hp hq
      cases h
      simp only [RepVE] at r
      simp only [RepE]
      refine ⟨RepVL.toPv hp r.1, ?_⟩
      rw [unL_len hp]
      exact RepVE.toPv hq r.2
    · cases h
theorem unE_len : ∀ {es : List (List V)} {ps : List (List PV)}, unE es = some ps → ps.length = es.length
  | [], ps, h => by simp [unE] at h; subst h; rfl
  | e :: es, ps, h => by
    simp only [unE] at h
    split at h
    · rename_i p qs hp hq
      cases h
      simp [unE_len hq]
    · cases h
theorem mkSlice_rep {E : Env} {es : List (List V)} {b cap : Nat} (h1 : es.length ≤ cap) (h2 : es.length ≤ maxLen) (r : RepVE E es (E.H b)) : RepV E (mkSlice es) (.slice (some ⟨b, 0, none⟩) es.length cap) := by
  unfold mkSlice
  split
  · rename_i ps e
    have hl := unE_len e
    simp only [RepV, RepP]
    exact ⟨_, cap, by rw [hl], by omega, by omega, .inr ⟨b, 0, rfl, by simpa using RepVE.toPv e r⟩⟩
  · simp only [RepV]
    exact ⟨_, cap, rfl, h1, h2, .inr ⟨b, 0, rfl, by simpa using r⟩⟩
theorem mkSlice_names (es : List (List V)) : ∀ n ∈ (mkSlice es).names, n ∈ namesE es := by
  intro n hn
  unfold mkSlice at hn
  split at hn
  · simp [V.names] at hn
  · simpa [V.names] using hn
theorem mkAgg_names (cs : List V) : ∀ n ∈ (mkAgg cs).names, n ∈ namesL cs := by
  intro n hn
  unfold mkAgg at hn
  split at hn
  · simp [V.names] at hn
  · simpa [V.names] using hn
theorem mem_namesL {cs : List V} {n : Nat} : n ∈ namesL cs ↔ ∃ c ∈ cs, n ∈ c.names := by
  induction cs with
  | nil => simp [namesL]
  | cons c cs ih => simp [namesL, ih]
theorem mem_namesE {es : List (List V)} {n : Nat} : n ∈ namesE es ↔ ∃ e ∈ es, n ∈ namesL e := by
  induction es with
  | nil => simp [namesE]
  | cons c cs ih => simp [namesE, ih]

section
variable {P : Program} {t : Nat} {ti : TI}
theorem TIOK.run_size (h : TIOK P t ti) (w : World) : (sizeOf t).run P w = .ok ti.size w := by
  obtain ⟨i, hi, hs, _⟩ := h.info
  simp [sizeOf, typeInfo, hi, hs]
theorem TIOK.run_zero (h : TIOK P t ti) (w : World) : (zeroValue t).run P w = .ok ti.zero w := by
  obtain ⟨i, hi, _, _, hz⟩ := h.info
  simp [zeroValue, typeInfo, hi, hz]
theorem TIOK.run_agg (h : TIOK P t ti) (w : World) : (isAgg t).run P w = .ok ti.isAgg w := by
  obtain ⟨d, hd, hk⟩ := h.desc
  unfold TI.isAgg
  cases hkk : ti.k <;> rw [hkk] at hk <;> simp only [TKOK] at hk
  · cases d <;> simp_all [isAgg, run_underlying hd]
  · subst hk; simp [isAgg, run_underlying hd]
  · obtain ⟨e, rfl⟩ := hk; simp [isAgg, run_underlying hd]
  · obtain ⟨p, r, v, rfl⟩ := hk; simp [isAgg, run_underlying hd]
  · obtain ⟨f, rfl, _⟩ := hk; simp [isAgg, run_underlying hd]
  · subst hk; simp [isAgg, run_underlying hd]
  · subst hk; simp [isAgg, run_underlying hd]
  · obtain ⟨rfl, _⟩ := hk; simp [isAgg, run_underlying hd]
  · obtain ⟨ms, rfl⟩ := hk; simp [isAgg, run_underlying hd]

theorem cell_at {w : World} {b off : Nat} {c : Array Value} {T : Nat} {fr : Nat × Nat} (h : w.heap[b]? = some (.cells c T fr)) (j : Nat) :
    w.cell? ((⟨b, off, none⟩ : Addr).add j) = c[off + j]? := by
  unfold Addr.add
  split
  · rename_i e; subst e; simp [World.cell?, h]
  · simp [World.cell?, h]

theorem run_loadAt_agg (hT : TIOK P t ti) (ha : ti.isAgg = true) {w : World} {b off : Nat} {c : Array Value} {T : Nat} {fr : Nat × Nat}
    (h : w.heap[b]? = some (.cells c T fr)) (hle : off + ti.size ≤ c.size) :
    (Instr.loadAt t (.pointer (some ⟨b, off, none⟩))).run P w = .ok (.agg ((c.toList.drop off).take ti.size).toArray) w := by
  have hl := run_loadCells_list (P := P) w ⟨b, off, none⟩ ((c.toList.drop off).take ti.size) (by
    intro j v hj
    rw [cell_at h]
    rw [List.getElem?_take] at hj
    split at hj
    · simpa using hj
    · cases hj)
  have hlen : ((c.toList.drop off).take ti.size).length = ti.size := by simp; omega
  rw [hlen] at hl
  simp [Instr.loadAt, Instr.sureAddr, loadVar, hT.run_agg, ha, hT.run_size, hl]
theorem run_loadAt_one (hT : TIOK P t ti) (ha : ti.isAgg = false) {w : World} {b off : Nat} {c : Array Value} {T : Nat} {fr : Nat × Nat} {v : Value}
    (h : w.heap[b]? = some (.cells c T fr)) (hv : c[off]? = some v) :
    (Instr.loadAt t (.pointer (some ⟨b, off, none⟩))).run P w = .ok v w := by
  have hc : w.cell? ⟨b, off, none⟩ = some v := by simp [World.cell?, h, hv]
  simp [Instr.loadAt, Instr.sureAddr, loadVar, hT.run_agg, ha, hc]
end
end Go.Lg
/- Operations that only compute or read. -/
namespace Go.Lg

def OpRes (P : Program) (o : Oper) (a : Act) (w : World) (v : Value) (w' : World) : Prop :=
  (execOp a.eval o).run P w = .ok (.value v) w' ∨ ((execOp a.eval o).run P w = .ok .skip w' ∧ v = undef)

theorem OpRes.wp {P : Program} {o : Oper} {a : Act} {w w' : World} {v : Value} (h : OpRes P o a w v w') {K : Act → World → Prop} {Q : Exit → Act → World → Prop}
    (hk : K (a.put o.dst v) w') : o.wp P a w K Q := by
  unfold Oper.wp
  rcases h with h | ⟨h, rfl⟩
  · rw [h]; exact hk
  · rw [h]; exact hk

def St.app (σ : St) (dst : Option Nat) (r : R) : St :=
  ⟨putS dst r.out σ.slots,
   match r.wr with | some (n, o) => setO σ.objs n o | none => σ.objs,
   match r.wr, r.new with | some (n, _), true => n :: σ.used | _, _ => σ.used⟩

/-- The operation leads to the state that the logic says. -/
def Sound (P : Program) (C : Ctx) (E : Env) (σ : St) (a : Act) (w : World) (o : Oper) (r : R) : Prop :=
  ∃ v w' E', OpRes P o a w v w' ∧ Ga C E' (σ.app o.dst r) (a.put o.dst v) w' ∧ r.fact

section
variable {P : Program} {C : Ctx} {E : Env} {σ : St} {a : Act} {w : World} {gl : Nat → Option (List PV)} {o : Oper} {T : Nat → Option TI} {note : Note} {ob : Nat → Option Ob}

theorem Sound.pure (h : Ga C E σ a w) {v : Value} {c f : Prop} {x : V} {b : Bool} (hr : OpRes P o a w v w) (hx : RepV E x v) (hn : ∀ n ∈ x.names, n ∈ σ.used)
    (hd : ∀ d, o.dst = some d → d < C.nt) (hf : f) : Sound P C E σ a w o ⟨c, f, x, none, b⟩ :=
  ⟨v, w, E, hr, h.pure E.H o.dst x v (Hle.refl _) (Nat.le_refl _) ⟨rfl, rfl, rfl⟩ (fun _ _ => ⟨rfl, rfl⟩) h.heap hx hn hd, hf⟩

theorem sound_move (h : Ga C E σ a w) (hg : GOK gl C.E0.H) (hd : ∀ d, o.dst = some d → d < C.nt) {x : Operand} (ho : o.op = .move x ∨ o.op = .assign x) :
    Sound P C E σ a w o (R.of (σ.val gl x)) := by
  refine Sound.pure h (v := a.eval x) (.inl ?_) (val_rep h hg x) (val_names h x) hd trivial
  rcases ho with ho | ho <;> simp [execOp, ho]

theorem rep_bool {E : Env} {b : Bool} {v : Value} (h : RepV E (.pv (.bool b)) v) : v = .bool b := by simpa [RepV, RepP] using h
theorem rep_int {E : Env} {n : Int} {v : Value} (h : RepV E (.pv (.int n)) v) : v = .int .i64 n := by simpa [RepV, RepP] using h

theorem sound_bool (h : Ga C E σ a w) (hd : ∀ d, o.dst = some d → d < C.nt) {b : Bool} (hr : OpRes P o a w (.bool b) w) : Sound P C E σ a w o (R.of (.pv (.bool b))) :=
  Sound.pure h hr (by simp [RepV, RepP]) (by simp [V.names]) hd trivial
theorem sound_int (h : Ga C E σ a w) (hd : ∀ d, o.dst = some d → d < C.nt) {n : Int} {c f : Prop} {b : Bool} (hr : OpRes P o a w (.int .i64 n) w) (hf : f) : Sound P C E σ a w o ⟨c, f, .pv (.int n), none, b⟩ :=
  Sound.pure h hr (by simp [RepV, RepP]) (by simp [V.names]) hd hf

theorem sound_pick (h : Ga C E σ a w) (hg : GOK gl C.E0.H) (hd : ∀ d, o.dst = some d → d < C.nt) {c x y : Operand} (ho : o.op = .pick c x y) {r : R}
    (hs : stepOp T note (σ.val gl) ob o.dst (.pick c x y) = some r) : Sound P C E σ a w o r := by
  have hc := val_rep h hg c
  have hx := val_rep h hg x
  have hy := val_rep h hg y
  have nx := val_names (gl := gl) h x
  have ny := val_names (gl := gl) h y
  simp only [stepOp] at hs
  split at hs
  · rename_i c' a' b' e1 e2 e3
    rw [e1] at hc; rw [e2] at hx; rw [e3] at hy
    have hc := rep_bool hc
    have hx := rep_bool hx
    have hy := rep_bool hy
    simp only [boolR, Option.some.injEq] at hs
    subst hs
    refine sound_bool h hd (.inl ?_)
    cases c' <;> simp [execOp, ho, hc, hx, hy, asBool]
  · rename_i e1 _
    rw [e1] at hc
    have hc := rep_bool hc
    simp only [Option.some.injEq] at hs
    subst hs
    refine Sound.pure h (v := a.eval x) (.inl ?_) hx nx hd trivial
    simp [execOp, ho, hc, asBool]
  · rename_i e1 _
    rw [e1] at hc
    have hc := rep_bool hc
    simp only [Option.some.injEq] at hs
    subst hs
    refine Sound.pure h (v := a.eval y) (.inl ?_) hy ny hd trivial
    simp [execOp, ho, hc, asBool]
  · cases hs

theorem sound_not (h : Ga C E σ a w) (hg : GOK gl C.E0.H) (hd : ∀ d, o.dst = some d → d < C.nt) {t : Nat} {x : Operand} (ho : o.op = .unOp .not t x) {r : R}
    (hs : stepOp T note (σ.val gl) ob o.dst (.unOp .not t x) = some r) : Sound P C E σ a w o r := by
  have hx := val_rep h hg x
  simp only [stepOp] at hs
  split at hs
  · rename_i b e
    rw [e] at hx
    have hx := rep_bool hx
    simp only [boolR, Option.some.injEq] at hs
    subst hs
    refine sound_bool h hd (.inl ?_)
    simp [execOp, ho, hx, Op.unary]
  · cases hs

theorem sound_iface (h : Ga C E σ a w) (hg : GOK gl C.E0.H) (hd : ∀ d, o.dst = some d → d < C.nt) {t : Nat} {x : Operand} (ho : o.op = .makeInterface t x) {r : R}
    (hT : TOK P T) (hs : stepOp T note (σ.val gl) ob o.dst (.makeInterface t x) = some r) : Sound P C E σ a w o r := by
  have hx := val_rep h hg x
  simp only [stepOp] at hs
  split at hs
  · rename_i ti p et e
    rw [e] at hx
    cases hif : ti.k.isIface with
    | true => rw [hif] at hs; cases hs
    | false =>
    rw [hif] at hs
    simp only [cond_false, Option.some.injEq] at hs
    subst hs
    have hrun : ∀ v, (Instr.makeInterface t v).run P w = .ok (.iface t v) w := fun v => run_makeInterface (P := P) w t v ((hT t _ et).conc.resolve_left (by rw [hif]; simp))
    refine Sound.pure h (v := .iface t (a.eval x)) (.inl ?_) ?_ (by simp [V.names]) hd trivial
    · simp [execOp, ho, hrun]
    · simp only [RepV, RepP] at hx ⊢
      exact ⟨_, rfl, hx⟩
  · cases hs

theorem sound_assert (h : Ga C E σ a w) (hg : GOK gl C.E0.H) (hd : ∀ d, o.dst = some d → d < C.nt) (hT : TOK P T) {x : Operand} {t0 t : Nat} {b : Bool} (ho : o.op = .typeAssert x t0 t b) {r : R}
    (hs : stepOp T note (σ.val gl) ob o.dst (.typeAssert x t0 t b) = some r) : Sound P C E σ a w o r := by
  have hx := val_rep h hg x
  cases b with
  | false => simp only [stepOp] at hs; cases hs
  | true =>
    simp only [stepOp] at hs
    split at hs
    · rename_i t' p fs s1 s2 s3 s4 e et
      rw [e] at hx
      split at hs
      · rename_i e'
        subst e'
        cases hs
        obtain ⟨d, hde, hk⟩ := (hT t' _ et).desc
        simp only [TKOK] at hk
        obtain ⟨ff, rfl, _⟩ := hk
        simp only [RepV, RepP] at hx
        obtain ⟨u, hv, hu⟩ := hx
        refine Sound.pure h (v := .tuple #[u, .bool true]) (.inl ?_) ?_ (by simp [R.of, V.names]) hd trivial
        · simp [execOp, ho, hv, Instr.typeAssert, run_underlying hde]
        · simp only [RepV]
          rw [RepP]
          exact ⟨[u, .bool true], rfl, rfl, by rw [RepL, RepL, RepL]; exact ⟨hu, by simp [RepP], trivial⟩⟩
      · cases hs
    · cases hs

theorem sound_nilCheck (h : Ga C E σ a w) (hg : GOK gl C.E0.H) (hd : ∀ d, o.dst = some d → d < C.nt) {x : Operand} (ho : o.op = .nilCheck x) {r : R}
    (hs : stepOp T note (σ.val gl) ob o.dst (.nilCheck x) = some r) : Sound P C E σ a w o r := by
  have hx := val_rep h hg x
  have nx := val_names (gl := gl) h x
  simp only [stepOp] at hs
  have key : ∀ ad : Addr, a.eval x = .pointer (some ad) → Sound P C E σ a w o (R.of (σ.val gl x)) := by
    intro ad e
    refine Sound.pure h (v := a.eval x) (.inl ?_) hx nx hd trivial
    simp [execOp, ho, e]
  split at hs
  · rename_i cs e
    simp only [Option.some.injEq] at hs
    subst hs
    rw [← e]
    rw [e] at hx
    simp only [RepV, RepP] at hx
    obtain ⟨b, off, hv, _⟩ := hx
    exact key _ hv
  · rename_i n off e
    simp only [Option.some.injEq] at hs
    subst hs
    rw [← e]
    rw [e] at hx
    simp only [RepV] at hx
    obtain ⟨b, _, hv⟩ := hx
    exact key _ hv
  · rename_i n ver i off e
    simp only [Option.some.injEq] at hs
    subst hs
    rw [← e]
    rw [e] at hx
    simp only [RepV] at hx
    obtain ⟨_, ⟨ad, hv⟩, _⟩ := hx
    exact key _ hv
  · cases hs
end
end Go.Lg
/- Operations that compute with numbers and addresses, and that read memory. -/
namespace Go.Lg
section
variable {P : Program} {C : Ctx} {E : Env} {σ : St} {a : Act} {w : World} {gl : Nat → Option (List PV)} {o : Oper} {T : Nat → Option TI} {note : Note} {ob : Nat → Option Ob}

theorem wrap_in {x : Int} (h : inI x) : IntKind.i64.wrap x = x := IntWalk.i64_in x (by obtain ⟨h1, h2⟩ := h; omega)

theorem run_eqGuard {b : BinOp} {t : Nat} {x y : Operand} {u v : Value} (h1 : ∀ c, u ≠ .agg c) (h2 : u ≠ .nilIface) : (eqGuard b t x y u v).run P w = .ok () w := by
  cases u <;> first | exact absurd rfl (h1 _) | exact absurd rfl h2 | skip
  all_goals
    unfold eqGuard
    cases b <;> rfl

theorem exec_bin {b : BinOp} {t t' : Nat} {x y : Operand} (ho : o.op = .binOp b t x y t') {v : Value}
    (h : (binOp b t (a.eval x) (a.eval y)).run P w = .ok v w) (h1 : ∀ c, a.eval x ≠ .agg c) (h2 : a.eval x ≠ .nilIface) : OpRes P o a w v w := by
  refine .inl ?_
  have hq := run_eqGuard (P := P) (w := w) (b := b) (t := t) (x := x) (y := y) (v := a.eval y) h1 h2
  simp [execOp, ho, hq, h]

theorem run_equal {t : Nat} {x y : Value} {b : Bool} (h : ∀ d, (Op.equalIn (d + 1) t x y).run P w = .ok b w) : (Op.equal t x y).run P w = .ok b w := by
  unfold Op.equal
  exact h 9999

theorem sound_int2 {op : BinOp} {x y : Int} {r : R} (hs : stepInt op x y = some r) (hc : r.cond) (t : Nat) :
    ∃ v, (binOp op t (.int .i64 x) (.int .i64 y)).run P w = .ok v w ∧ RepV E r.out v ∧ r.out.names = [] ∧ r.wr = none ∧ r.fact := by
  have hb : ∀ z : Int, (x == y) = decide (x = y) := by intro z; by_cases e : x = y <;> simp [e]
  cases op <;> simp only [stepInt, boolR, Option.some.injEq, reduceCtorEq] at hs <;> subst hs
  · exact ⟨.int .i64 (x + y), by simp [binOp, Op.intArith, wrap_in hc], by simp [RepV, RepP, R.ofIf], rfl, rfl, trivial⟩
  · exact ⟨.int .i64 (x - y), by simp [binOp, Op.intArith, wrap_in hc], by simp [RepV, RepP, R.ofIf], rfl, rfl, trivial⟩
  · exact ⟨.int .i64 (x * y), by simp [binOp, Op.intArith, wrap_in hc], by simp [RepV, RepP, R.ofIf], rfl, rfl, trivial⟩
  · have hc : y ≠ 0 := hc
    exact ⟨.int .i64 (x.tmod y), by simp [binOp, Op.intDiv, hc], by simp [RepV, RepP, R.ofIf], rfl, rfl, trivial⟩
  · exact ⟨.bool (decide (x = y)), by simp [binOp, Op.intCmp, hb 0], by simp [RepV, RepP, R.of], rfl, rfl, trivial⟩
  · exact ⟨.bool (!decide (x = y)), by simp [binOp, Op.intCmp, bne, hb 0], by simp [RepV, RepP, R.of], rfl, rfl, trivial⟩
  · exact ⟨.bool (decide (x < y)), by simp [binOp, Op.intCmp], by simp [RepV, RepP, R.of], rfl, rfl, trivial⟩
  · exact ⟨.bool (decide (x ≤ y)), by simp [binOp, Op.intCmp], by simp [RepV, RepP, R.of], rfl, rfl, trivial⟩
  · exact ⟨.bool (decide (y < x)), by simp [binOp, Op.intCmp], by simp [RepV, RepP, R.of], rfl, rfl, trivial⟩
  · exact ⟨.bool (decide (y ≤ x)), by simp [binOp, Op.intCmp], by simp [RepV, RepP, R.of], rfl, rfl, trivial⟩

theorem sound_eq {t : Nat} {ti : TI} (hT : TIOK P t ti) {x y : V} {yo : Operand} {b : Bool} (hs : stepEq ti.k x y yo = some b) {u v : Value} (hu : RepV E x u) (hv : RepV E y v) (hyo : ∀ c, yo = .const c → v = c) :
    (Op.equal t u v).run P w = .ok b w ∧ ((∃ c, u = .bool c) ∨ (∃ c, u = .pointer c ∧ v = .pointer none) ∨ (∃ a b c, u = .slice a b c) ∨ u = .nilFunc ∨ (∃ a b c, u = .func a b c) ∨ ∃ t x, u = .iface t x ∧ v = .nilIface) := by
  obtain ⟨d, hd, hk⟩ := hT.desc
  unfold stepEq at hs
  split at hs
  · rename_i a' b' e
    rw [e] at hk
    simp only [TKOK] at hk
    subst hk
    have hu := rep_bool hu
    have hv := rep_bool hv
    subst hu hv
    simp only [Option.some.injEq] at hs
    subst hs
    exact ⟨run_equal fun d => by simp [Op.equalIn, run_underlying hd], .inl ⟨_, rfl⟩⟩
  · rename_i e
    rw [e] at hk
    obtain ⟨el, rfl⟩ := hk
    simp only [RepV, RepP] at hu hv
    subst hu hv
    simp only [Option.some.injEq] at hs
    subst hs
    exact ⟨run_equal fun d => by simp [Op.equalIn, run_underlying hd], .inr (.inl ⟨_, rfl, rfl⟩)⟩
  · rename_i cs e
    rw [e] at hk
    obtain ⟨el, rfl⟩ := hk
    simp only [RepV, RepP] at hu hv
    obtain ⟨b', off, rfl, _⟩ := hu
    subst hv
    simp only [Option.some.injEq] at hs
    subst hs
    exact ⟨run_equal fun d => by simp [Op.equalIn, run_underlying hd], .inr (.inl ⟨_, rfl, rfl⟩)⟩
  · rename_i n off e
    rw [e] at hk
    obtain ⟨el, rfl⟩ := hk
    simp only [RepV, RepP] at hu hv
    obtain ⟨b', _, rfl⟩ := hu
    subst hv
    simp only [Option.some.injEq] at hs
    subst hs
    exact ⟨run_equal fun d => by simp [Op.equalIn, run_underlying hd], .inr (.inl ⟨_, rfl, rfl⟩)⟩
  · rename_i e
    rw [e] at hk
    obtain ⟨p, r, vv, rfl⟩ := hk
    simp only [RepV, RepP] at hu hv
    subst hu hv
    simp only [Option.some.injEq] at hs
    subst hs
    exact ⟨run_equal fun d => by simp [Op.equalIn, run_underlying hd], .inr (.inr (.inr (.inl rfl)))⟩
  · rename_i f cs e
    rw [e] at hk
    obtain ⟨p, r, vv, rfl⟩ := hk
    simp only [RepV, RepP] at hu hv
    obtain ⟨vs, rfl, _⟩ := hu
    subst hv
    simp only [Option.some.injEq] at hs
    subst hs
    exact ⟨run_equal fun d => by simp [Op.equalIn, run_underlying hd], .inr (.inr (.inr (.inr (.inl ⟨_, _, _, rfl⟩))))⟩
  · rename_i t' p e
    rw [e] at hk
    obtain ⟨ms, rfl⟩ := hk
    simp only [RepV, RepP] at hu
    obtain ⟨x, rfl, _⟩ := hu
    split at hs
    · have := hyo _ rfl
      subst this
      simp only [Option.some.injEq] at hs
      subst hs
      exact ⟨run_equal fun d => by simp [Op.equalIn, run_underlying hd], .inr (.inr (.inr (.inr (.inr ⟨_, _, rfl, rfl⟩))))⟩
    · cases hs
  · rename_i el e
    rw [e] at hk
    simp only [TKOK] at hk
    subst hk
    simp only [RepV, RepP] at hu
    subst hu
    split at hs
    · have := hyo _ rfl
      subst this
      simp only [Option.some.injEq] at hs
      subst hs
      exact ⟨run_equal fun d => by simp [Op.equalIn, run_underlying hd], .inr (.inr (.inl ⟨_, _, _, rfl⟩))⟩
    · cases hs
  · rename_i el e1 e2 e
    rw [e] at hk
    simp only [TKOK] at hk
    subst hk
    simp only [RepV, RepP] at hu
    obtain ⟨ad, cap, rfl, _, _, h0⟩ := hu
    rcases h0 with h0 | ⟨b', off, rfl, _⟩
    · cases h0
    split at hs
    · have := hyo _ rfl
      subst this
      simp only [Option.some.injEq] at hs
      subst hs
      exact ⟨run_equal fun d => by simp [Op.equalIn, run_underlying hd], .inr (.inr (.inl ⟨_, _, _, rfl⟩))⟩
    · cases hs
  · cases hs

theorem run_eql_of {t : Nat} {u v : Value} {b : Bool} (hr : (Op.equal t u v).run P w = .ok b w)
    (hu : (∃ c, u = .bool c) ∨ (∃ c, u = .pointer c ∧ v = .pointer none) ∨ (∃ a b c, u = .slice a b c) ∨ u = .nilFunc ∨ (∃ a b c, u = .func a b c) ∨ ∃ t x, u = .iface t x ∧ v = .nilIface) :
    (binOp .eql t u v).run P w = .ok (.bool b) w ∧ (binOp .neq t u v).run P w = .ok (.bool !b) w := by
  rcases hu with ⟨c, rfl⟩ | ⟨c, rfl, rfl⟩ | ⟨a', b', c, rfl⟩ | rfl | ⟨a', b', c, rfl⟩ | ⟨t', x, rfl, rfl⟩
  · cases v <;> simp [binOp, hr]
  · simp [binOp, hr]
  · cases v <;> simp [binOp, hr]
  · cases v <;> simp [binOp, hr]
  · cases v <;> simp [binOp, hr]
  · simp [binOp, hr]

theorem sound_bin (h : Ga C E σ a w) (hg : GOK gl C.E0.H) (hd : ∀ d, o.dst = some d → d < C.nt) (hT : TOK P T) {b : BinOp} {t t' : Nat} {x y : Operand} (ho : o.op = .binOp b t x y t') {r : R} (hc : r.cond)
    (hs : stepOp T note (σ.val gl) ob o.dst (.binOp b t x y t') = some r) : Sound P C E σ a w o r := by
  have hx := val_rep h hg x
  have hy := val_rep h hg y
  simp only [stepOp] at hs
  split at hs
  · rename_i ti e
    have hti := hT t ti e
    unfold stepBin at hs
    split at hs
    · rename_i p q e1 e2
      rw [e1] at hx; rw [e2] at hy
      have hx := rep_int hx
      have hy := rep_int hy
      obtain ⟨v, hr, hv, hn, hw, hf⟩ := sound_int2 (P := P) (E := E) (w := w) hs hc t
      obtain ⟨c, f, x', wr, nw⟩ := r
      simp only at hw hn hv hf
      subst hw
      refine Sound.pure h (exec_bin ho (v := v) ?_ ?_ ?_) hv (by simp [hn]) hd hf
      · rw [hx, hy]; exact hr
      · rw [hx]; simp
      · rw [hx]; simp
    · have hyo : ∀ c, y = .const c → a.eval y = c := by rintro c rfl; rfl
      split at hs
      all_goals (try cases hs)
      all_goals
        rename_i bb e1
        obtain ⟨hr, hu⟩ := sound_eq (w := w) hti e1 hx hy hyo
        refine sound_bool h hd (exec_bin ho ?_ ?_ ?_)
        · first | exact (run_eql_of hr hu).1 | exact (run_eql_of hr hu).2
        · rcases hu with ⟨c, hu⟩ | ⟨c, hu, hu'⟩ | ⟨a', b', c, hu⟩ | hu | ⟨a', b', c, hu⟩ | ⟨t', x, hu, _⟩ <;> rw [hu] <;> simp
        · rcases hu with ⟨c, hu⟩ | ⟨c, hu, hu'⟩ | ⟨a', b', c, hu⟩ | hu | ⟨a', b', c, hu⟩ | ⟨t', x, hu, _⟩ <;> rw [hu] <;> simp
  · cases hs
end
end Go.Lg
/- Operations that make addresses and read memory. -/
namespace Go.Lg
theorem add_none (b o k : Nat) : (⟨b, o, none⟩ : Addr).add k = ⟨b, o + k, none⟩ := by
  unfold Addr.add
  split <;> simp_all

theorem RepE.get {H : Hp} {s : Nat} : ∀ {es : List (List PV)} {vs : List Value}, RepE H es vs → (∀ e ∈ es, e.length = s) → ∀ i, i < es.length → RepL H (es.getD i []) (vs.drop (i * s))
  | [], _, _, _, i, hi => by simp at hi
  | e :: es, vs, r, hs, 0, _ => by simp only [RepE] at r; simpa using r.1
  | e :: es, vs, r, hs, i + 1, hi => by
    simp only [RepE] at r
    have := RepE.get r.2 (fun x hx => hs x (by simp [hx])) i (by simpa using hi)
    rw [List.drop_drop, hs e (by simp)] at this
    simpa [Nat.succ_mul, Nat.add_comm] using this
theorem RepVE.get {E : Env} {s : Nat} : ∀ {es : List (List V)} {vs : List Value}, RepVE E es vs → (∀ e ∈ es, e.length = s) → ∀ i, i < es.length → RepVL E (es.getD i []) (vs.drop (i * s))
  | [], _, _, _, i, hi => by simp at hi
  | e :: es, vs, r, hs, 0, _ => by simp only [RepVE] at r; simpa using r.1
  | e :: es, vs, r, hs, i + 1, hi => by
    simp only [RepVE] at r
    have := RepVE.get r.2 (fun x hx => hs x (by simp [hx])) i (by simpa using hi)
    rw [List.drop_drop, hs e (by simp)] at this
    simpa [Nat.succ_mul, Nat.add_comm] using this
theorem RepE.dropE {H : Hp} {s : Nat} : ∀ {es : List (List PV)} {vs : List Value}, RepE H es vs → (∀ e ∈ es, e.length = s) → ∀ i, RepE H (es.drop i) (vs.drop (i * s))
  | es, vs, r, _, 0 => by simpa using r
  | [], vs, r, _, i + 1 => by simp [RepE]
  | e :: es, vs, r, hs, i + 1 => by
    simp only [RepE] at r
    have := RepE.dropE r.2 (fun x hx => hs x (by simp [hx])) i
    rw [List.drop_drop, hs e (by simp)] at this
    simpa [Nat.succ_mul, Nat.add_comm] using this
theorem RepE.takeE {H : Hp} : ∀ {es : List (List PV)} {vs : List Value}, RepE H es vs → ∀ i, RepE H (es.take i) vs
  | es, vs, r, 0 => by simp [RepE]
  | [], vs, r, i + 1 => by simp [RepE]
  | e :: es, vs, r, i + 1 => by
    simp only [RepE] at r
    simp only [List.take_succ_cons, RepE]
    exact ⟨r.1, RepE.takeE r.2 i⟩

section
variable {P : Program} {C : Ctx} {E : Env} {σ : St} {a : Act} {w : World} {gl : Nat → Option (List PV)} {o : Oper} {T : Nat → Option TI} {note : Note}

theorem addrOff_rep {x y : V} {off : Nat} {v : Value} (h : addrOff x off = some y) (hx : RepV E x v) :
    ∃ ad : Addr, v = .pointer (some ad) ∧ RepV E y (.pointer (some (ad.add off))) ∧ y.names = x.names := by
  unfold addrOff at h
  split at h
  · cases h
    simp only [RepV, RepP] at hx
    obtain ⟨b, o', rfl, hr⟩ := hx
    refine ⟨_, rfl, ?_, by simp [V.names]⟩
    rw [add_none]
    simp only [RepV, RepP]
    exact ⟨b, o' + off, rfl, by rw [← List.drop_drop]; exact RepL.drop off hr⟩
  · cases h
    simp only [RepV] at hx
    obtain ⟨b, hg, rfl⟩ := hx
    refine ⟨_, rfl, ?_, by simp [V.names]⟩
    rw [add_none]
    exact ⟨b, hg, rfl⟩
  · cases h
    simp only [RepV] at hx
    obtain ⟨h1, ⟨ad, rfl⟩, h2⟩ := hx
    refine ⟨ad, rfl, ?_, by simp [V.names]⟩
    simp only [RepV]
    refine ⟨h1, ⟨_, rfl⟩, fun e => ?_⟩
    obtain ⟨b, L, cap, hg, hv, hl⟩ := h2 e
    cases hv
    refine ⟨b, L, cap, hg, ?_, hl⟩
    rw [add_none, Nat.add_assoc]
  · cases h

theorem sound_fieldAddr (h : Ga C E σ a w) (hg : GOK gl C.E0.H) (hd : ∀ d, o.dst = some d → d < C.nt) (hT : TOK P T) {t f : Nat} {x : Operand} (ho : o.op = .fieldAddr t x f) {r : R} {ob : Nat → Option Ob}
    (hs : stepOp T note (σ.val gl) ob o.dst (.fieldAddr t x f) = some r) : Sound P C E σ a w o r := by
  have hx := val_rep h hg x
  have nx := val_names (gl := gl) h x
  simp only [stepOp] at hs
  split at hs
  · rename_i fs s1 s2 s3 s4 e
    have hti := hT t _ e
    obtain ⟨d, hde, hk⟩ := hti.desc
    simp only [TKOK] at hk
    obtain ⟨ff, rfl, hmap⟩ := hk
    split at hs
    · rename_i off size ef
      split at hs
      · cases hs
      · rename_i hz
        cases ha : addrOff (σ.val gl x) off with
        | none => rw [ha] at hs; cases hs
        | some y =>
          rw [ha] at hs
          simp only [Option.map_some, Option.some.injEq] at hs
          subst hs
          obtain ⟨ad, hv, hy, hny⟩ := addrOff_rep ha hx
          have hget : (ff.toList.map (fun x => (x.offset, (P.info? x.type).map (·.size))))[f]? = some (off, some size) := by
            rw [hmap]; simp [ef]
          rw [List.getElem?_map] at hget
          cases hff : ff.toList[f]? with
          | none => rw [hff] at hget; cases hget
          | some fd =>
            rw [hff] at hget
            simp only [Option.map_some, Option.some.injEq, Prod.mk.injEq] at hget
            have hff' : ff[f]? = some fd := by simpa using hff
            obtain ⟨hoff, hsz⟩ := hget
            cases hi : P.info? fd.type with
            | none => rw [hi] at hsz; cases hsz
            | some i =>
              rw [hi] at hsz
              have hsz : i.size = size := by simpa using hsz
              refine Sound.pure h (v := .pointer (some (ad.add off))) (.inl ?_) hy (by rw [hny]; exact nx) hd trivial
              simp [execOp, ho, Instr.fieldAt, run_underlying hde, hff', hv, Instr.sureAddr, fieldPlace, sizeOf, typeInfo, hi, hsz, hz, hoff]
    · cases hs
  · cases hs

theorem sound_extract (h : Ga C E σ a w) (hg : GOK gl C.E0.H) (hd : ∀ d, o.dst = some d → d < C.nt) {i : Nat} {x : Operand} (ho : o.op = .extract x i) {r : R} {ob : Nat → Option Ob}
    (hs : stepOp T note (σ.val gl) ob o.dst (.extract x i) = some r) : Sound P C E σ a w o r := by
  have hx := val_rep h hg x
  have nx := val_names (gl := gl) h x
  have getP : ∀ (cs : List PV) (vs : List Value) (i : Nat) (c : PV), RepL E.H cs vs → cs[i]? = some c → ∃ v, vs[i]? = some v ∧ RepP E.H c v := by
    intro cs
    induction cs with
    | nil => intro vs i c _ hc; simp at hc
    | cons d cs ih =>
      intro vs i c hr hc
      cases vs with
      | nil => simp [RepL] at hr
      | cons v vs =>
        simp only [RepL] at hr
        cases i with
        | zero => simp at hc; subst hc; exact ⟨v, rfl, hr.1⟩
        | succ i => simpa using ih vs i c hr.2 (by simpa using hc)
  have getV : ∀ (cs : List V) (vs : List Value) (i : Nat) (c : V), RepVL E cs vs → cs[i]? = some c → ∃ v, vs[i]? = some v ∧ RepV E c v := by
    intro cs
    induction cs with
    | nil => intro vs i c _ hc; simp at hc
    | cons d cs ih =>
      intro vs i c hr hc
      cases vs with
      | nil => simp [RepVL] at hr
      | cons v vs =>
        simp only [RepVL] at hr
        cases i with
        | zero => simp at hc; subst hc; exact ⟨v, rfl, hr.1⟩
        | succ i => simpa using ih vs i c hr.2 (by simpa using hc)
  simp only [stepOp] at hs
  split at hs
  · rename_i cs e
    rw [e] at hx
    simp only [RepV, RepP] at hx
    obtain ⟨vs, hv, hl, hr⟩ := hx
    cases hc : cs[i]? with
    | none => rw [hc] at hs; cases hs
    | some c =>
      rw [hc] at hs
      simp only [Option.map_some, Option.some.injEq] at hs
      subst hs
      obtain ⟨v, hvi, hrc⟩ := getP cs vs i c hr hc
      refine Sound.pure h (v := v) (.inl ?_) (by simpa [RepV] using hrc) (by simp [V.names]) hd trivial
      simp [execOp, ho, hv, Instr.extract, hvi]
  · rename_i cs e
    rw [e] at hx nx
    simp only [RepV] at hx
    obtain ⟨vs, hv, hl, hr⟩ := hx
    cases hc : cs[i]? with
    | none => rw [hc] at hs; cases hs
    | some c =>
      rw [hc] at hs
      simp only [Option.map_some, Option.some.injEq] at hs
      subst hs
      obtain ⟨v, hvi, hrc⟩ := getV cs vs i c hr hc
      refine Sound.pure h (v := v) (.inl ?_) hrc (fun n hn => nx n ?_) hd trivial
      · simp [execOp, ho, hv, Instr.extract, hvi]
      · simp only [V.names]
        exact mem_namesL.2 ⟨c, List.mem_of_getElem? hc, hn⟩
  · cases hs
end
end Go.Lg
/- Indexes, loads, lengths and cuts of slices. -/
namespace Go.Lg
section
variable {P : Program} {C : Ctx} {E : Env} {σ : St} {a : Act} {w : World} {gl : Nat → Option (List PV)} {o : Oper} {T : Nat → Option TI} {note : Note}

/-- the header of an array of at least one element -/
theorem arr_header {n ver sz ty : Nat} {es : List (List V)} (h : ObOK E w n (.arr ver sz ty es)) :
    ∃ ad cap, E.g n = .slice ad es.length cap ∧ es.length ≤ cap ∧ es.length ≤ maxLen ∧
      (ad = none ∧ es = [] ∧ cap = 0 ∨ ∃ b cur, ad = some ⟨b, 0, none⟩ ∧ w.heap[b]? = some (.cells cur ty (0, 0)) ∧ cur.size = cap * sz ∧ RepVE E es cur.toList ∧ E.H b = []) := by
  obtain ⟨_, _, _, xs, ho, hr, hf⟩ := h
  rcases ho.2 with ⟨e, h0⟩ | ⟨g, cap, cur, e, _, hc, hle, hm, hs, ht⟩
  · refine ⟨none, 0, by rw [e, h0], by omega, by omega, .inl ⟨rfl, List.eq_nil_of_length_eq_zero h0, rfl⟩⟩
  · refine ⟨_, cap, e, hle, Nat.le_trans hle hm, .inr ⟨g, cur, rfl, hc, hs, ?_, hf g (by rw [e]; rfl)⟩⟩
    refine RepVE.mono (Hle.refl _) es xs _ ?_ (fun n _ => EExt.refl E n) hr
    rw [← ht]
    exact List.take_prefix _ _

theorem sound_index (h : Ga C E σ a w) (hg : GOK gl C.E0.H) (hd : ∀ d, o.dst = some d → d < C.nt) (hT : TOK P T) {t : Nat} {x i : Operand} (ho : o.op = .indexAddr t x i) {r : R} (hc : r.cond)
    (hs : stepOp T note (σ.val gl) (getO σ.objs) o.dst (.indexAddr t x i) = some r) : Sound P C E σ a w o r := by
  have hx := val_rep h hg x
  have nx := val_names (gl := gl) h x
  have hi := val_rep h hg i
  simp only [stepOp, stepIndex] at hs
  split at hs
  · rename_i k ek
    rw [ek] at hi
    have hi := rep_int hi
    split at hs
    · rename_i e s1 s2 s3 s4 et
      obtain ⟨d, hde, hk⟩ := (hT t _ et).desc
      simp only [TKOK] at hk
      subst hk
      split at hs
      · rename_i te ee
        have hte := hT e te ee
        split at hs
        · rename_i es ex
          rw [ex] at hx
          simp only [Option.some.injEq] at hs
          subst hs
          obtain ⟨h0, h1, h2⟩ := hc
          simp only [RepV, RepP] at hx
          obtain ⟨ad, cap, hv, hl, hm, hr⟩ := hx
          obtain ⟨kn, rfl⟩ := Int.eq_ofNat_of_zero_le h0
          have hlt : kn < es.length := by omega
          rcases hr with rfl | ⟨b, off, rfl, hr⟩
          · simp at hlt
          refine Sound.pure h (v := .pointer (some ((⟨b, off, none⟩ : Addr).add (kn * te.size)))) (.inl ?_) ?_ (by simp [V.names]) hd trivial
          · simp [execOp, ho, Instr.indexAt, hi, asIntOf, run_underlying hde, hv, hlt, hte.run_size]
          · rw [add_none]
            simp only [RepV, RepP, Int.toNat_natCast]
            refine ⟨b, off + kn * te.size, rfl, ?_⟩
            rw [← List.drop_drop]
            exact hr.get h2 kn hlt
        · rename_i n ver len ex
          rw [ex] at hx nx
          split at hs
          · rename_i ver' sz ty es eo
            simp only [Option.some.injEq] at hs
            subst hs
            obtain ⟨rfl, h0, h1, h2, h3⟩ := hc
            have hob := h.objs n _ eo
            obtain ⟨hver, hsz, _⟩ := id hob
            obtain ⟨ad, cap, hgn, hlc, hlm, hh⟩ := arr_header hob
            simp only [RepV] at hx
            obtain ⟨_, _, hx⟩ := hx
            obtain ⟨ad', L, cap', hgn', hv, hle⟩ := hx hver.symm
            rw [hgn] at hgn'
            cases hgn'
            obtain ⟨kn, rfl⟩ := Int.eq_ofNat_of_zero_le h0
            have hlt : kn < len := by omega
            rcases hh with ⟨_, e0, _⟩ | ⟨b, cur, rfl, hcur, _⟩
            · subst e0; simp at hle; omega
            refine Sound.pure h (v := .pointer (some ((⟨b, 0, none⟩ : Addr).add (kn * te.size)))) (.inl ?_) ?_ ?_ hd trivial
            · simp [execOp, ho, Instr.indexAt, hi, asIntOf, run_underlying hde, hv, hlt, hte.run_size]
            · rw [add_none]
              simp only [RepV, Int.toNat_natCast]
              refine ⟨by omega, ⟨_, rfl⟩, fun _ => ⟨b, _, _, hgn, ?_, by omega⟩⟩
              rw [hsz, h2]; simp
            · intro m hm
              simp only [R.ofIf, V.names] at hm nx
              exact nx m hm
          · cases hs
        · cases hs
      · cases hs
    · rename_i m e s1 s2 s3 s4 et
      obtain ⟨d, hde, hk⟩ := (hT t _ et).desc
      simp only [TKOK] at hk
      subst hk
      split at hs
      · rename_i te ee
        have hte := hT e te ee
        cases ha : addrOff (σ.val gl x) (k.toNat * te.size) with
        | none => rw [ha] at hs; cases hs
        | some y =>
          rw [ha] at hs
          simp only [Option.map_some, Option.some.injEq] at hs
          subst hs
          obtain ⟨h0, h1⟩ := hc
          obtain ⟨ad, hv, hy, hny⟩ := addrOff_rep ha hx
          refine Sound.pure h (v := .pointer (some (ad.add (k.toNat * te.size)))) (.inl ?_) hy (by rw [hny]; exact nx) hd trivial
          simp [execOp, ho, Instr.indexAt, hi, asIntOf, run_underlying hde, hv, h0, h1, hte.run_size, Instr.sureAddr]
      · cases hs
    · cases hs
  · cases hs

theorem rdV_rep {agg : Bool} {n : Nat} {cs : List V} {x : V} {vs : List Value} (h : rdV agg n cs = some x) (hr : RepVL E cs vs) :
    (agg = true → n ≤ vs.length ∧ RepV E x (.agg (vs.take n).toArray)) ∧ (agg = false → ∃ v, vs[0]? = some v ∧ RepV E x v) ∧ ∀ m ∈ x.names, m ∈ namesL cs := by
  unfold rdV at h
  split at h
  · rename_i ha
    split at h
    · rename_i hl
      cases h
      have hlen := hr.len
      refine ⟨fun _ => ⟨by omega, mkAgg_rep (by simp; omega) (hr.take n)⟩, by simp [ha], ?_⟩
      intro m hm
      have := mkAgg_names _ m hm
      obtain ⟨c, hc, hmc⟩ := mem_namesL.1 this
      exact mem_namesL.2 ⟨c, List.mem_of_mem_take hc, hmc⟩
    · cases h
  · rename_i ha
    split at h
    · rename_i c cs'
      cases h
      cases vs with
      | nil => simp [RepVL] at hr
      | cons v vs =>
        simp only [RepVL] at hr
        exact ⟨by simp [ha], fun _ => ⟨v, rfl, hr.1⟩, fun m hm => by simp [namesL, hm]⟩
    · cases h

theorem sound_load (h : Ga C E σ a w) (hg : GOK gl C.E0.H) (hd : ∀ d, o.dst = some d → d < C.nt) (hT : TOK P T) {t : Nat} {x : Operand} (ho : o.op = .load t x) {r : R} (hc : r.cond)
    (hs : stepOp T note (σ.val gl) (getO σ.objs) o.dst (.load t x) = some r) : Sound P C E σ a w o r := by
  have hx := val_rep h hg x
  simp only [stepOp] at hs
  split at hs
  · rename_i ti et
    have hti := hT t ti et
    unfold stepLoad at hs
    split at hs
    · rename_i cs ex
      rw [ex] at hx
      simp only [RepV, RepP] at hx
      obtain ⟨b, off, hv, hr⟩ := hx
      unfold rdP at hs
      split at hs
      · rename_i ha
        simp only [Option.some.injEq] at hs
        subst hs
        have hc : ti.size ≤ cs.length := hc
        have hlen := hr.len
        by_cases hne : E.H b = []
        · rw [hne] at hr hlen
          simp only [List.drop_nil, List.length_nil, Nat.le_zero_eq] at hlen
          have h0 : ti.size = 0 := by omega
          have hcs : cs = [] := List.eq_nil_of_length_eq_zero hlen
          subst hcs
          have hll : (loadCells ⟨b, off, none⟩ 0).run P w = .ok #[] w := by simp [loadCells, loadCellsFrom]
          refine Sound.pure h (v := .agg #[]) (.inl ?_) ?_ (by simp [V.names]) hd trivial
          · simp [execOp, ho, hv, Instr.loadAt, Instr.sureAddr, loadVar, hti.run_agg, ha, hti.run_size, h0, hll]
          · simp only [RepV, RepP]; exact ⟨[], rfl, by simp, by simp [RepL]⟩
        · obtain ⟨c, T', fr, hcell, hpre, _⟩ := h.heap b hne
          have hl2 : ((E.H b).drop off).length ≤ c.size - off := by
            have := hpre.1
            simp at this ⊢; omega
          have hle : off + ti.size ≤ c.size ∨ ti.size = 0 := by
            by_cases h0 : ti.size = 0
            · exact .inr h0
            · left; omega
          rcases hle with hle | h0
          · refine Sound.pure h (v := .agg ((c.toList.drop off).take ti.size).toArray) (.inl ?_) ?_ (by simp [V.names]) hd trivial
            · simp [execOp, ho, hv, run_loadAt_agg hti ha hcell hle]
            · simp only [RepV, RepP]
              refine ⟨_, rfl, by simp; omega, ?_⟩
              refine RepL.take _ (hr.msk (hpre.drop off))
          · have hll : (loadCells ⟨b, off, none⟩ 0).run P w = .ok #[] w := by simp [loadCells, loadCellsFrom]
            refine Sound.pure h (v := .agg #[]) (.inl ?_) ?_ (by simp [V.names]) hd trivial
            · simp [execOp, ho, hv, Instr.loadAt, Instr.sureAddr, loadVar, hti.run_agg, ha, hti.run_size, h0, hll]
            · simp only [RepV, RepP]; exact ⟨[], rfl, by simp [h0], by simp [h0, RepL]⟩
      · rename_i ha
        have ha : ti.isAgg = false := by simpa using ha
        split at hs
        · rename_i c cs'
          simp only [Option.some.injEq] at hs
          subst hs
          cases hdr : (E.H b).drop off with
          | nil => rw [hdr] at hr; simp [RepL] at hr
          | cons v vs =>
            rw [hdr] at hr
            simp only [RepL] at hr
            have hne : E.H b ≠ [] := by intro e; rw [e] at hdr; simp at hdr
            obtain ⟨cc, T', fr, hcell, hpre, _⟩ := h.heap b hne
            have hget : cc[off]? = some v := by
              have h1 : (E.H b)[off]? = some v := by
                have := congrArg (fun l => l[0]?) hdr
                simpa using this
              rw [← Array.getElem?_toList]
              exact hpre.2 off v h1 (not_hole hr.1)
            refine Sound.pure h (v := v) (.inl ?_) (by simpa [RepV] using hr.1) (by simp [V.names]) hd trivial
            simp [execOp, ho, hv, run_loadAt_one hti ha hcell hget]
        · cases hs
    · rename_i n off ex
      rw [ex] at hx
      split at hs
      · rename_i cs eo
        cases hrd : rdV ti.isAgg ti.size (cs.drop off) with
        | none => rw [hrd] at hs; cases hs
        | some y =>
          rw [hrd] at hs
          simp only [Option.map_some, Option.some.injEq] at hs
          subst hs
          obtain ⟨b, c, T', hgn, hcell, hsz, hr, _⟩ := h.objs n _ eo
          simp only [RepV] at hx
          obtain ⟨b', hgn', hv⟩ := hx
          rw [hgn] at hgn'
          cases hgn'
          obtain ⟨h1, h2, h3⟩ := rdV_rep hrd (hr.drop off)
          have hnm : ∀ m ∈ y.names, m ∈ σ.used := by
            intro m hm
            obtain ⟨c', hc', hm'⟩ := mem_namesL.1 (h3 m hm)
            exact (h.usedO n _ eo).2 m (mem_namesL.2 ⟨c', List.mem_of_mem_drop hc', hm'⟩)
          cases hagg : ti.isAgg with
          | true =>
            obtain ⟨hle, hy⟩ := h1 hagg
            by_cases h0 : off + ti.size ≤ c.size
            · refine Sound.pure h (.inl ?_) hy hnm hd trivial
              simp [execOp, ho, hv, run_loadAt_agg hti hagg hcell h0]
            · have h00 : ti.size = 0 := by simp at hle; omega
              have hll : (loadCells ⟨b, off, none⟩ 0).run P w = .ok #[] w := by simp [loadCells, loadCellsFrom]
              rw [h00] at hy
              refine Sound.pure h (.inl ?_) hy hnm hd trivial
              simp [execOp, ho, hv, Instr.loadAt, Instr.sureAddr, loadVar, hti.run_agg, hagg, hti.run_size, h00, hll]
          | false =>
            obtain ⟨v, hv0, hy⟩ := h2 hagg
            have hget : c[off]? = some v := by simpa using hv0
            refine Sound.pure h (.inl ?_) hy hnm hd trivial
            simp [execOp, ho, hv, run_loadAt_one hti hagg hcell hget]
      · cases hs
    · rename_i n ver i off ex
      rw [ex] at hx
      split at hs
      · rename_i ver' sz ty es eo
        split at hs
        · rename_i e ee
          cases hrd : rdV ti.isAgg ti.size (e.drop off) with
          | none => rw [hrd] at hs; cases hs
          | some y =>
            rw [hrd] at hs
            simp only [Option.map_some, Option.some.injEq] at hs
            subst hs
            have hc : ver = ver' := hc
            subst hc
            have hob := h.objs n _ eo
            obtain ⟨hver, hsz, hlen, _⟩ := id hob
            obtain ⟨ad, cap, hgn, hlc, hlm, hh⟩ := arr_header hob
            simp only [RepV] at hx
            obtain ⟨_, _, hx⟩ := hx
            obtain ⟨b', L, cap', hgn', hv, hlt⟩ := hx hver.symm
            rw [hgn] at hgn'
            cases hgn'
            rcases hh with ⟨e0, _⟩ | ⟨b, c, hb, hcell, hcs, hr, _⟩
            · cases e0
            cases hb
            have hi : i < es.length := by rw [List.getElem?_eq_some_iff] at ee; exact ee.1
            have hre := hr.get hlen i hi
            have hge : es.getD i [] = e := by simp [List.getD, ee]
            rw [hge] at hre
            have hre := hre.drop off
            rw [List.drop_drop] at hre
            obtain ⟨h1, h2, h3⟩ := rdV_rep hrd hre
            have hnm : ∀ m ∈ y.names, m ∈ σ.used := by
              intro m hm
              obtain ⟨c', hc', hm'⟩ := mem_namesL.1 (h3 m hm)
              exact (h.usedO n _ eo).2 m (mem_namesE.2 ⟨e, List.mem_of_getElem? ee, mem_namesL.2 ⟨c', List.mem_of_mem_drop hc', hm'⟩⟩)
            rw [hsz] at hv
            cases hagg : ti.isAgg with
            | true =>
              obtain ⟨hle, hy⟩ := h1 hagg
              by_cases h0 : i * sz + off + ti.size ≤ c.size
              · refine Sound.pure h (.inl ?_) hy hnm hd trivial
                simp [execOp, ho, hv, run_loadAt_agg hti hagg hcell h0]
              · have h00 : ti.size = 0 := by simp at hle; omega
                have hll : (loadCells ⟨b', i * sz + off, none⟩ 0).run P w = .ok #[] w := by simp [loadCells, loadCellsFrom]
                rw [h00] at hy
                refine Sound.pure h (.inl ?_) hy hnm hd trivial
                simp [execOp, ho, hv, Instr.loadAt, Instr.sureAddr, loadVar, hti.run_agg, hagg, hti.run_size, h00, hll]
            | false =>
              obtain ⟨v, hv0, hy⟩ := h2 hagg
              have hget : c[i * sz + off]? = some v := by simpa using hv0
              refine Sound.pure h (.inl ?_) hy hnm hd trivial
              simp [execOp, ho, hv, run_loadAt_one hti hagg hcell hget]
        · cases hs
      · cases hs
    · cases hs
  · cases hs
end
end Go.Lg
