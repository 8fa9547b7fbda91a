/- Part of the proof: contracts of the checks, of cells and values, of Run and Call; no conditions. -/
import Derived.Test.YtodjpfpmhjdhbaaGreatDoorCallsD9
set_option linter.unusedVariables false
set_option linter.unusedSimpArgs false
set_option linter.unusedSectionVars false
namespace Go.Proofs.YtodjpfpmhjdhbaaGreatDoor
open Go.Lg
set_option maxRecDepth 10000
set_option maxHeartbeats 4000000
def inBlock : Code → Code
  | .block _ c => c
  | c => c
def inLoop : Code → Code
  | .loop c => c
  | c => c
/-- a round of the loop over the arguments, behind its condition -/
noncomputable def rd49 : Code := inBlock (left (right (right (inLoop (inBlock (right md49))))))
noncomputable def dr49 : Code := right (right (right (right rd49)))
noncomputable def hd49 : Code := left (inLoop (inBlock dr49))
def S2 (av : PV) (n i : Nat) : List (Nat × V) := [(0, .loc 901 0), (1, .pv av), (4, .loc 4 0), (5, .loc 5 0), (12, .pv av), (13, .pv (.int n)), (14, .pv (.int i))]
theorem names_S2 (av : PV) (n i : Nat) : ∀ k ∈ namesSl (S2 av n i), k ∈ [901, 4, 5] := by
  intro n hn
  simp [S2, namesSl, V.names] at hn ⊢
  omega
/-- other slots do not matter -/
theorem GS_slots {c : List Ins} {l : Nat} {m : Ms} {S S' : List (Nat × V)} {U : List Nat} (hnm : Nm m) (hS : slotsLe S S') (hSn : ∀ n ∈ namesSl S, n ∈ [901, 4, 5]) : Weak (XX [] 38 [901, 4, 5]) ⟨S', gO c l m, U⟩ (GS c l S m) := by
  have := GS_weak (nm := []) (nt := 38) (c := c) (l := l) (S := S) (S' := S') (U := U) (objs := []) (objs' := []) hnm hnm trivial (by simp [keysO]) (fun k o h => .inr ⟨rfl, by simp [keysO], h⟩) hS hSn
  exact this
theorem head_go (c : List Ins) (l : Nat) (av : PV) (n i : Nat) (m : Ms) (hnm : Nm m) (hf : m.frames ≠ []) (Q : AEx → St → Prop) (hQ : ∀ σ, Weak (XX [] 38 [901, 4, 5]) σ (GS c l (S2 av n i) m) → Q .normal σ) : AWP (XX [] 38 [901, 4, 5]) hd49 (GS c l (S2 av n i) m) Q := by
  have hw := fun (S' : List (Nat × V)) (U : List Nat) hS => GS_slots (c := c) (l := l) (S' := S') (U := U) hnm hS (names_S2 av n i)
  have h901 : getO (gO c l m) 901 = some (.box [.pv (.slice (c.map insP)), .pv (.int l), .pv (.int m.steps), .pv .nilfn, .pv .nilfn, .arr 902 m.sv m.stack.length, .arr 903 m.fv m.frames.length, .pv (.int m.at_), .pv (varsP m.vars)]) := rfl
  have hlt : (0 : Int) < (m.frames.length : Int) := by
    have := List.length_pos_iff.2 hf
    omega
  have h903 : getO (gO c l m) 903 = some (.arr m.fv 5 206 ((m.frames ++ m.fg).map frV)) := rfl
  unfold GS S2 at *
  generalize (m.frames ++ m.fg).map frV = FF at *
  generalize gO c l m = O1 at *
  generalize gU m = U1 at *
  generalize m.frames.length = fl at *
  clear hf
  simp only [hd49, dr49, rd49, md49, c49, Tryz.f84, Option.getD_some, left, right, inBlock, inLoop]
  refine gg ?_
  exact hQ _ (hw _ _ (by simp [slotsLe, getS]))
theorem head_out (c : List Ins) (l : Nat) (av : PV) (n i : Nat) (m : Ms) (hnm : Nm m) (hf : m.frames = []) (Q : AEx → St → Prop) (hQ : ∀ σ, Weak (XX [] 38 [901, 4, 5]) σ (GS c l (S2 av n i) m) → Q (.exit 4) σ) : AWP (XX [] 38 [901, 4, 5]) hd49 (GS c l (S2 av n i) m) Q := by
  have hw := fun (S' : List (Nat × V)) (U : List Nat) hS => GS_slots (c := c) (l := l) (S' := S') (U := U) hnm hS (names_S2 av n i)
  have h901 : getO (gO c l m) 901 = some (.box [.pv (.slice (c.map insP)), .pv (.int l), .pv (.int m.steps), .pv .nilfn, .pv .nilfn, .arr 902 m.sv m.stack.length, .arr 903 m.fv 0, .pv (.int m.at_), .pv (varsP m.vars)]) := by
    have : getO (gO c l m) 901 = some (.box [.pv (.slice (c.map insP)), .pv (.int l), .pv (.int m.steps), .pv .nilfn, .pv .nilfn, .arr 902 m.sv m.stack.length, .arr 903 m.fv m.frames.length, .pv (.int m.at_), .pv (varsP m.vars)]) := rfl
    rw [this, hf]
    rfl
  have h903 : getO (gO c l m) 903 = some (.arr m.fv 5 206 ((m.frames ++ m.fg).map frV)) := rfl
  unfold GS S2 at *
  generalize (m.frames ++ m.fg).map frV = FF at *
  generalize gO c l m = O1 at *
  generalize gU m = U1 at *
  clear hf
  simp only [hd49, dr49, rd49, md49, c49, Tryz.f84, Option.getD_some, left, right, inBlock, inLoop]
  refine gg ?_
  exact hQ _ (hw _ _ (by simp [slotsLe, getS]))
theorem drain49 (c : List Ins) (l b : Nat) (hcode : Okc c) (hl : b + l ≤ 700000) (av : PV) (n i : Nat) (r : Res) (m : Ms) (hi : Inv l b m) (hr : Drains c l m r) (Q : AEx → St → Prop)
    (hstop : ∀ m1 σ, r = .stop m1 → Inv l b m1 → Weak (XX [] 38 [901, 4, 5]) σ (GS c l (S2 av n i) m1) → Q .normal σ) (herr : ∀ e σ, r = .err e → ErrSt σ → Q (.panic (fail e)) σ) :
    AWP (XX [] 38 [901, 4, 5]) dr49 (GS c l (S2 av n i) m) Q := by
  have edr : dr49 = .block 4 (.loop (.seq hd49 (right (inLoop (inBlock dr49))))) := rfl
  rw [edr]
  refine ex_block ?_
  refine AWP.loop (ι := { m : Ms // Inv l b m ∧ Drains c l m r }) (fun j => GS c l (S2 av n i) j.1) (fun j => l - j.1.steps) ⟨m, hi, hr⟩ ?_ ?_
  · exact GS_slots hi.nm (by simp [S2, slotsLe, getS]) (names_S2 av n i)
  · rintro ⟨m, hi, hr⟩
    simp only
    refine ex_seq ?_
    by_cases hf : m.frames = []
    · refine head_out c l av n i m hi.nm hf _ ?_
      intro σ hw
      have : r = .stop m := by
        cases hr with
        | done _ => rfl
        | err h _ => exact absurd hf h
        | go h _ _ => exact absurd hf h
        | stop h _ _ => exact absurd hf h
      (repeat (first | with_reducible refine q_exit ?_ | with_reducible refine b_same ?_))
      exact hstop m σ this hi hw
    · refine head_go c l av n i m hi.nm hf _ ?_
      intro σ hw
      refine q_normal ?_
      refine AWP.weaken hw ?_
      have hs : ∃ q, m.step c l (1000 + m.steps) = some q := by
        cases hr with
        | done h => exact absurd h hf
        | err _ h => exact ⟨_, h⟩
        | go _ h _ => exact ⟨_, h⟩
        | stop _ h _ => exact ⟨_, h⟩
      obtain ⟨q, hq⟩ := hs
      obtain ⟨hfull, hnext⟩ := hi.step hcode hl hq
      have hfg := fun (objs objs' : List (Nat × Ob)) h => fresh_gU (objs := objs) (objs' := objs') hi.nm h
      have hSn := names_S2 av n i
      unfold GS S2
      simp only [dr49, rd49, md49, c49, Tryz.f84, Option.getD_some, left, right, inBlock, inLoop]
      refine gg ?_
      cases q with
      | err e =>
        obtain ⟨objs, hac, hsub⟩ := hfull
        have hre : r = .err e := by
          cases hr with
          | done h => exact absurd h hf
          | err _ h => rw [h] at hq; cases hq; rfl
          | go _ h _ => rw [h] at hq; cases hq
          | stop _ h _ => rw [h] at hq; cases hq
        have hst : ErrSt ⟨(33, .loc 901 0) :: S2 av n i, updAll (gO c l m) (callWr objs []), [] ++ gU m⟩ := errSt_of hi.nm hsub rfl rfl
        refine runOps_call_panic (X := XX [] 38 [901, 4, 5]) hac (by simp only [dstOK, XX_nt]; decide) rfl rfl (sub_gO hsub) trivial (σ' := ⟨(33, .loc 901 0) :: S2 av n i, updAll (gO c l m) (callWr objs []), [] ++ gU m⟩) rfl ?_
        simp only [thenQ_panic, blockQ_panic]
        exact herr e _ hre hst
      | go m' =>
        obtain ⟨objs, objs', hac, hsub, hkeys, hget, hnm'⟩ := hfull
        have hrm : Drains c l m' r := by
          cases hr with
          | done h => exact absurd h hf
          | err _ h => rw [h] at hq; cases hq
          | go _ h h' => rw [h] at hq; cases hq; exact h'
          | stop _ h _ => rw [h] at hq; cases hq
        have hn := hnext m' (.inl rfl)
        have hw := fun (S' : List (Nat × V)) (U : List Nat) hS => GS_weak (nm := []) (nt := 38) (c := c) (l := l) (S := S2 av n i) (S' := S') (U := U) hi.nm hnm' hsub hkeys hget hS hSn
        refine runOps_call (X := XX [] 38 [901, 4, 5]) hac (by simp only [dstOK, XX_nt]; decide) rfl rfl (sub_gO hsub) (hfg _ _ hkeys) (σ' := ⟨(34, .pv (.bool true)) :: (33, .loc 901 0) :: S2 av n i, updAll (gO c l m) (callWr objs objs'), (keysO objs').filter (fun n => (getO objs n).isNone) ++ gU m⟩) rfl rfl ?_
        generalize updAll (gO c l m) (callWr objs objs') = O1 at *
        generalize (keysO objs').filter (fun n => (getO objs n).isNone) ++ gU m = U1 at *
        refine gg ?_
        exact ⟨⟨m', hn.1, hrm⟩, hn.2, hw _ _ (by simp [S2, slotsLe, getS])⟩
      | stop m' =>
        obtain ⟨objs, objs', hac, hsub, hkeys, hget, hnm'⟩ := hfull
        have hrm : Drains c l m' r := by
          cases hr with
          | done h => exact absurd h hf
          | err _ h => rw [h] at hq; cases hq
          | go _ h h' => rw [h] at hq; cases hq
          | stop _ h h' => rw [h] at hq; cases hq; exact h'
        have hn := hnext m' (.inr rfl)
        have hw := fun (S' : List (Nat × V)) (U : List Nat) hS => GS_weak (nm := []) (nt := 38) (c := c) (l := l) (S := S2 av n i) (S' := S') (U := U) hi.nm hnm' hsub hkeys hget hS hSn
        refine runOps_call (X := XX [] 38 [901, 4, 5]) hac (by simp only [dstOK, XX_nt]; decide) rfl rfl (sub_gO hsub) (hfg _ _ hkeys) (σ' := ⟨(34, .pv (.bool false)) :: (33, .loc 901 0) :: S2 av n i, updAll (gO c l m) (callWr objs objs'), (keysO objs').filter (fun n => (getO objs n).isNone) ++ gU m⟩) rfl rfl ?_
        generalize updAll (gO c l m) (callWr objs objs') = O1 at *
        generalize (keysO objs').filter (fun n => (getO objs n).isNone) ++ gU m = U1 at *
        refine gg ?_
        exact ⟨⟨m', hn.1, hrm⟩, hn.2, hw _ _ (by simp [S2, slotsLe, getS])⟩
end Go.Proofs.YtodjpfpmhjdhbaaGreatDoor
namespace Go.Proofs.YtodjpfpmhjdhbaaGreatDoor
open Go.Lg
set_option maxRecDepth 10000
set_option maxHeartbeats 4000000
noncomputable def pre49 (D : Code) : Code := .seq (left rd49) (.seq (left (right rd49)) (.seq (left (right (right rd49))) (.seq (left (right (right (right rd49)))) D)))
theorem ent49 (c : List Ins) (l b : Nat) (hl : b + l ≤ 700000) (zs : List It) (i : Nat) (a : It) (ha : zs[i]? = some a) (hn : zs.length ≤ 1000000) (hba : Bd b a) (m m1 m2 : Ms) (f : It) (hi : Inv l b m) (hpop : m.pop = some (f, m1))
    (hent : ({ m1 with at_ := -1 } : Ms).enter f a none = .go m2) (D : Code) (Q : AEx → St → Prop) (hD : ∀ σ, Inv l b m2 → Weak (XX [] 38 [901, 4, 5]) σ (GS c l (S2 (.slice (zs.map itC)) zs.length i) m2) → AWP (XX [] 38 [901, 4, 5]) D σ Q) :
    AWP (XX [] 38 [901, 4, 5]) (pre49 D) (GS c l (S2 (.slice (zs.map itC)) zs.length i) m) Q := by
  obtain ⟨s, hs, rfl⟩ := pop_inv hpop
  have hil : i < zs.length := by
    have := List.getElem?_eq_some_iff.1 ha
    exact this.1
  have hle := hi.le
  have hlen0 := hi.ok.len
  have hmo := hba.more
  have hbf : Bd (b + m.steps) f := by
    have := hi.ok.stack
    rw [hs, BdL_app] at this
    simp only [BdL, and_true] at this
    exact this.2
  have hok1 : Okm (b + m.steps) ({ m with stack := s, sg := f :: m.sg, at_ := -1 } : Ms) := by
    refine ⟨?_, ?_, hi.ok.vars, hi.ok.inside, hi.ok.frames, hi.ok.few⟩
    · have := hi.ok.stack
      rw [hs, BdL_app] at this
      exact this.1
    · simp only [hs, List.length_append, List.length_cons, List.length_nil] at hlen0
      simp only
      omega
  have hok2 := hok1.enter hbf (hba.mono (by omega)) (by intro n r h; cases h) hent
  have p1 := pop_ok c l m s f hs (by omega)
  unfold Ms.enter at hent
  cases f with
  | fn p vs =>
    simp only at hent
    split at hent
    · cases hent
    rename_i hfl
    cases hent
    simp only [Bd] at hbf
    have hvl := inside_len vs
    have hN : ∀ n ∈ frN (m.frames ++ m.fg), 905 ≤ n := fun n hn => by have := hi.nm.lo n hn; omega
    have he := enter_ok c l ({ m with stack := s, sg := .fn p vs :: m.sg, at_ := -1 } : Ms) p vs a none (by simp only at hfl ⊢; omega) hN (by simp [rpN]) (by omega) (by omega) (by omega)
    have hnm2 : Nm ({ m with stack := s, sg := .fn p vs :: m.sg, frames := m.frames ++ [⟨-1, m.vars, .fn p vs, a, none⟩], fg := [], fv := m.fv + 1, at_ := p, vars := a :: vs } : Ms) := by
      have e1 : frN (m.frames ++ [(⟨-1, m.vars, .fn p vs, a, none⟩ : Fr)]) = frN m.frames := by simp [frN]
      have h1 := hi.nm.nd
      have h2 := hi.nm.lo
      have h3 := hi.nm.hi
      rw [frN_app] at h2 h3
      refine ⟨by simp only [e1]; exact h1, ?_, ?_⟩
      · intro n hn
        simp only [List.append_nil, e1] at hn
        exact h2 n (List.mem_append.2 (.inl hn))
      · intro n hn
        simp only [List.append_nil, e1] at hn
        exact h3 n (List.mem_append.2 (.inl hn))
    have hD' := fun σ => hD σ ⟨hnm2, hok2, hle⟩
    have hw := fun (S' : List (Nat × V)) (U : List Nat) hS => GS_slots (c := c) (l := l) (S' := S') (U := U) hnm2 hS (names_S2 (.slice (zs.map itC)) zs.length i)
    clear hok1 hok2 hD hnm2
    have eg : gO c l m = (901, mB c l m) :: (902, mS m) :: (903, mF m) :: (rdO m.frames ++ resO) := rfl
    have eg2 : gO c l ({ m with stack := s, sg := .fn p vs :: m.sg, frames := m.frames ++ [⟨-1, m.vars, .fn p vs, a, none⟩], fg := [], fv := m.fv + 1, at_ := p, vars := a :: vs } : Ms) = (901, mB c l { m with stack := s, sg := .fn p vs :: m.sg, frames := m.frames ++ [⟨-1, m.vars, .fn p vs, a, none⟩], fg := [], fv := m.fv + 1, at_ := p, vars := a :: vs }) :: (902, mS { m with stack := s, sg := .fn p vs :: m.sg }) :: (903, mF { m with stack := s, sg := .fn p vs :: m.sg, frames := m.frames ++ [⟨-1, m.vars, .fn p vs, a, none⟩], fg := [], fv := m.fv + 1, at_ := p, vars := a :: vs }) :: (rdO m.frames ++ resO) := by
      have : rdO (m.frames ++ [(⟨-1, m.vars, .fn p vs, a, none⟩ : Fr)]) = rdO m.frames := by simp [rdO]
      unfold gO
      simp only [this]
      rfl
    rw [eg2] at hw
    have eGS : GS c l (S2 (.slice (zs.map itC)) zs.length i) m = ⟨S2 (.slice (zs.map itC)) zs.length i, (901, mB c l m) :: (902, mS m) :: (903, mF m) :: (rdO m.frames ++ resO), gU m⟩ := rfl
    rw [eGS]
    clear eg eg2 eGS
    have q1 := vcells_one (itP_one a)
    have q2 : (V.pv (itP a)).one = true := by rw [one_pv]; exact itP_one a
    have q3 := itP_one a
    have hgk : (zs.map itC).getD i [] = [itP a] := by simp [List.getD, ha, itC]
    have hal := itC_all zs
    have hlen : (zs.map itC).length = zs.length := by simp
    have k1 : (i : Int) < zs.length := by omega
    have k2 : (0 : Int) ≤ (i : Int) := by omega
    have hlt : zs.length ≤ 1000000 := hn
    have hkey : ∀ n ∈ frN (m.frames ++ m.fg), ¬ n = 901 ∧ ¬ n = 902 ∧ ¬ n = 903 := fun n hn => by have := hN n hn; omega
    clear hN hfl hs hpop hlen0 hi
    have eB : mB c l ({ m with stack := s, sg := .fn p vs :: m.sg } : Ms) = .box [.pv (.slice (c.map insP)), .pv (.int l), .pv (.int m.steps), .pv .nilfn, .pv .nilfn, .arr 902 m.sv s.length, .arr 903 m.fv m.frames.length, .pv (.int m.at_), .pv (varsP m.vars)] := rfl
    have eB2 : mB c l ({ m with stack := s, sg := .fn p vs :: m.sg, at_ := -1 } : Ms) = .box [.pv (.slice (c.map insP)), .pv (.int l), .pv (.int m.steps), .pv .nilfn, .pv .nilfn, .arr 902 m.sv s.length, .arr 903 m.fv m.frames.length, .pv (.int (-1)), .pv (varsP m.vars)] := rfl
    have eF : mF ({ m with stack := s, sg := .fn p vs :: m.sg, at_ := -1 } : Ms) = mF m := rfl
    rw [eB] at p1
    rw [eB2, eF] at he
    clear eB eB2 eF
    unfold S2 at *
    simp only [rpV] at he
    generalize mB c l m = B0 at *
    generalize mS m = S0 at *
    generalize mF m = F0 at *
    generalize mS ({ m with stack := s, sg := .fn p vs :: m.sg } : Ms) = S1 at *
    generalize mB c l ({ m with stack := s, sg := .fn p vs :: m.sg, frames := m.frames ++ [⟨-1, m.vars, .fn p vs, a, none⟩], fg := [], fv := m.fv + 1, at_ := p, vars := a :: vs } : Ms) = B2 at *
    generalize mF ({ m with stack := s, sg := .fn p vs :: m.sg, frames := m.frames ++ [⟨-1, m.vars, .fn p vs, a, none⟩], fg := [], fv := m.fv + 1, at_ := p, vars := a :: vs } : Ms) = F2 at *
    generalize GS c l [(0, V.loc 901 0), (1, .pv (.slice (zs.map itC))), (4, .loc 4 0), (5, .loc 5 0), (12, .pv (.slice (zs.map itC))), (13, .pv (.int zs.length)), (14, .pv (.int i))] ({ m with stack := s, sg := .fn p vs :: m.sg, frames := m.frames ++ [⟨-1, m.vars, .fn p vs, a, none⟩], fg := [], fv := m.fv + 1, at_ := p, vars := a :: vs } : Ms) = G2 at *
    generalize rdO m.frames ++ resO = RR at *
    generalize gU m = U1 at *
    generalize zs.map itC = cc at *
    generalize itP a = pa at *
    have w1 := vcells_one (itP_one (.fn p vs))
    have w2 : (V.pv (itP (.fn p vs))).one = true := by rw [one_pv]; exact itP_one _
    have w3 := itP_one (.fn p vs)
    generalize itP (.fn p vs) = pf at *
    simp only [pre49, rd49, md49, c49, Tryz.f84, Option.getD_some, left, right, inBlock, inLoop]
    refine gg ?_
    refine call p1 ?_
    refine gg ?_
    refine call he ?_
    refine gg ?_
    exact hD' _ (hw _ _ (by simp [slotsLe, getS]))
  | num _ => cases hent
  | list _ => cases hent
  | pair _ _ => cases hent
  | unit => cases hent
end Go.Proofs.YtodjpfpmhjdhbaaGreatDoor
namespace Go.Proofs.YtodjpfpmhjdhbaaGreatDoor
open Go.Lg
set_option maxRecDepth 10000
set_option maxHeartbeats 4000000
/-- what came is entered with some cells: no function is called in vain -/
inductive Ents (c : List Ins) (l : Nat) : Ms → List It → Res → Prop
  | nil {m : Ms} : Ents c l m [] (.stop m)
  | bad {m m1 m2 : Ms} {f a : It} {zs : List It} {e : Nat} : m.pop = some (f, m1) → ({ m1 with at_ := -1 } : Ms).enter f a none = .go m2 → Drains c l m2 (.err e) → Ents c l m (a :: zs) (.err e)
  | cons {m m1 m2 m3 : Ms} {f a : It} {zs : List It} {r : Res} : m.pop = some (f, m1) → ({ m1 with at_ := -1 } : Ms).enter f a none = .go m2 → Drains c l m2 (.stop m3) → Ents c l m3 zs r → Ents c l m (a :: zs) r
theorem pre_eq : rd49 = pre49 dr49 := rfl
noncomputable def lh49 : Code := left (right (inLoop (inBlock (right md49))))
theorem mid_args (c : List Ins) (l b : Nat) (hcode : Okc c) (hl : b + l ≤ 700000) (zs : List It) (hz : zs.length ≤ 1000000) (hb : ∀ a ∈ zs, Bd b a) (r : Res) (m : Ms) (hi : Inv l b m) (hr : Ents c l m zs r) (Q : AEx → St → Prop)
    (hstop : ∀ m1 σ, r = .stop m1 → Inv l b m1 → Weak (XX [] 38 [901, 4, 5]) σ (GS c l [(0, .loc 901 0), (4, .loc 4 0), (5, .loc 5 0)] m1) → Q .normal σ) (herr : ∀ e σ, r = .err e → ErrSt σ → Q (.panic (fail e)) σ) :
    AWP (XX [] 38 [901, 4, 5]) md49 (GS c l [(0, .loc 901 0), (1, .pv (.slice (zs.map itC))), (4, .loc 4 0), (5, .loc 5 0)] m) Q := by
  have emd : md49 = .seq (left md49) (.block 2 (.loop (.seq (left (inLoop (inBlock (right md49)))) (.seq lh49 (.seq (.block 3 rd49) (right (right (right (inLoop (inBlock (right md49))))))))))) := rfl
  rw [emd]
  have hlen : (zs.map itC).length = zs.length := by simp
  refine ex_seq ?_
  have hw0 := fun (S' : List (Nat × V)) (U : List Nat) hS => GS_slots (c := c) (l := l) (S' := S') (U := U) hi.nm hS (names_S2 (.slice (zs.map itC)) zs.length 0)
  have key : ∀ σ, Weak (XX [] 38 [901, 4, 5]) σ (GS c l (S2 (.slice (zs.map itC)) zs.length 0) m) → AWP (XX [] 38 [901, 4, 5]) (.block 2 (.loop (.seq (left (inLoop (inBlock (right md49)))) (.seq lh49 (.seq (.block 3 rd49) (right (right (right (inLoop (inBlock (right md49)))))))))))  σ Q := by
    intro σ hw
    refine AWP.weaken hw ?_
    refine ex_block ?_
    refine AWP.loop (ι := { p : Nat × Ms // p.1 ≤ zs.length ∧ Inv l b p.2 ∧ Ents c l p.2 (zs.drop p.1) r }) (fun j => GS c l (S2 (.slice (zs.map itC)) zs.length j.1.1) j.1.2) (fun j => zs.length - j.1.1) ⟨(0, m), Nat.zero_le _, hi, hr⟩ ?_ ?_
    · exact GS_slots hi.nm (by simp [S2, slotsLe, getS]) (names_S2 _ _ _)
    · rintro ⟨⟨i, m⟩, hiz, hi, hr⟩
      simp only at hiz hi hr ⊢
      have hws := fun (m' : Ms) (hnm : Nm m') (i : Nat) (S' : List (Nat × V)) (U : List Nat) hS => GS_slots (c := c) (l := l) (S' := S') (U := U) hnm hS (names_S2 (.slice (zs.map itC)) zs.length i)
      have hwo := fun (S' : List (Nat × V)) (U : List Nat) hS => GS_slots (c := c) (l := l) (S := [(0, .loc 901 0), (4, .loc 4 0), (5, .loc 5 0)]) (S' := S') (U := U) hi.nm hS (by simp [namesSl, V.names])
      by_cases hlt : i < zs.length
      · have hzd : zs.drop i = zs[i] :: zs.drop (i + 1) := List.drop_eq_getElem_cons hlt
        rw [hzd] at hr
        have hgi : zs[i]? = some zs[i] := List.getElem?_eq_getElem hlt
        have hbi := hb zs[i] (List.getElem_mem hlt)
        have k1 : (i : Int) < zs.length := by omega
        have hcont : AWP (XX [] 38 [901, 4, 5]) (.seq (.block 3 rd49) (right (right (right (inLoop (inBlock (right md49))))))) (GS c l (S2 (.slice (zs.map itC)) zs.length i) m) (thenQ (fun σ' => ∃ j : { p : Nat × Ms // p.1 ≤ zs.length ∧ Inv l b p.2 ∧ Ents c l p.2 (zs.drop p.1) r }, zs.length - j.1.1 < zs.length - i ∧ Weak (XX [] 38 [901, 4, 5]) σ' (GS c l (S2 (.slice (zs.map itC)) zs.length j.1.1) j.1.2)) (blockQ 2 Q)) := by
          refine ex_seq ?_
          refine ex_block ?_
          rw [pre_eq]
          cases hr with
          | bad h1 h2 h3 =>
            refine ent49 c l b hl zs i _ hgi hz hbi m _ _ _ hi h1 h2 _ _ ?_
            intro σ hi2 hw
            refine AWP.weaken hw ?_
            refine drain49 c l b hcode hl _ _ _ _ _ hi2 h3 _ (fun _ _ h => by cases h) ?_
            intro e σ he hst
            cases he
            simp only [thenQ_panic, blockQ_panic]
            exact herr _ _ rfl hst
          | cons h1 h2 h3 h4 =>
            refine ent49 c l b hl zs i _ hgi hz hbi m _ _ _ hi h1 h2 _ _ ?_
            intro σ hi2 hw
            refine AWP.weaken hw ?_
            refine drain49 c l b hcode hl _ _ _ _ _ hi2 h3 _ ?_ (fun _ _ h => by cases h)
            intro m1 σ he hi3 hw
            obtain rfl := (Res.stop.inj he).symm
            (repeat (first | with_reducible refine q_normal ?_ | with_reducible refine b_normal ?_))
            refine AWP.weaken hw ?_
            have hn2 : Ents c l m1 (zs.drop (i + 1)) r := h4
            have hfin := fun (S' : List (Nat × V)) (U : List Nat) hS => hws m1 hi3.nm (i + 1) S' U hS
            have hex : ∀ σ', Weak (XX [] 38 [901, 4, 5]) σ' (GS c l (S2 (.slice (zs.map itC)) zs.length (i + 1)) m1) → ∃ j : { p : Nat × Ms // p.1 ≤ zs.length ∧ Inv l b p.2 ∧ Ents c l p.2 (zs.drop p.1) r }, zs.length - j.1.1 < zs.length - i ∧ Weak (XX [] 38 [901, 4, 5]) σ' (GS c l (S2 (.slice (zs.map itC)) zs.length j.1.1) j.1.2) := by
              intro σ' h
              exact ⟨⟨(i + 1, m1), by simp only; omega, hi3, hn2⟩, by simp only; omega, h⟩
            generalize hPP : (fun σ' => ∃ j : { p : Nat × Ms // p.1 ≤ zs.length ∧ Inv l b p.2 ∧ Ents c l p.2 (zs.drop p.1) r }, zs.length - j.1.1 < zs.length - i ∧ Weak (XX [] 38 [901, 4, 5]) σ' (GS c l (S2 (.slice (zs.map itC)) zs.length j.1.1) j.1.2)) = PP
            have hex' : ∀ σ', Weak (XX [] 38 [901, 4, 5]) σ' (GS c l (S2 (.slice (zs.map itC)) zs.length (i + 1)) m1) → PP σ' := by
              intro σ' h
              rw [← hPP]
              exact hex σ' h
            clear hPP hex hws hwo
            unfold GS S2 at *
            generalize gO c l m1 = O1 at *
            generalize gU m1 = U1 at *
            clear hcode hb hr h4 hn2 hi hi2 hi3 h1 h2 h3 hgi hbi hzd
            have k3 : ((i + 1 : Nat) : Int) = (i : Int) + 1 := by omega
            rw [k3] at hfin hex'
            simp only [md49, c49, Tryz.f84, Option.getD_some, left, right, inBlock, inLoop]
            refine gg ?_
            exact hex' _ (hfin _ _ (by simp [slotsLe, getS]))
        refine ex_seq ?_
        have hw1 := hws m hi.nm i
        have hcont' : ∀ σ, Weak (XX [] 38 [901, 4, 5]) σ (GS c l (S2 (.slice (zs.map itC)) zs.length i) m) → AWP (XX [] 38 [901, 4, 5]) (.seq (.block 3 rd49) (right (right (right (inLoop (inBlock (right md49))))))) σ (thenQ (fun σ' => ∃ j : { p : Nat × Ms // p.1 ≤ zs.length ∧ Inv l b p.2 ∧ Ents c l p.2 (zs.drop p.1) r }, zs.length - j.1.1 < zs.length - i ∧ Weak (XX [] 38 [901, 4, 5]) σ' (GS c l (S2 (.slice (zs.map itC)) zs.length j.1.1) j.1.2)) (blockQ 2 Q)) := fun σ h => AWP.weaken h hcont
        clear hcont hws hwo
        generalize (Code.seq (.block 3 rd49) (right (right (right (inLoop (inBlock (right md49))))))) = CC at *
        generalize (thenQ (fun σ' => ∃ j : { p : Nat × Ms // p.1 ≤ zs.length ∧ Inv l b p.2 ∧ Ents c l p.2 (zs.drop p.1) r }, zs.length - j.1.1 < zs.length - i ∧ Weak (XX [] 38 [901, 4, 5]) σ' (GS c l (S2 (.slice (zs.map itC)) zs.length j.1.1) j.1.2)) (blockQ 2 Q)) = QQ at *
        clear hr hi hb hcode hzd hgi hbi
        unfold GS S2 at *
        generalize gO c l m = O1 at *
        generalize gU m = U1 at *
        simp only [lh49, md49, c49, Tryz.f84, Option.getD_some, left, right, inBlock, inLoop]
        refine gg ?_
        exact hcont' _ (hw1 _ _ (by simp [slotsLe, getS]))
      · obtain rfl : i = zs.length := by omega
        have k1 : ¬ (zs.length : Int) < zs.length := by omega
        have hrm : r = .stop m := by
          rw [List.drop_length] at hr
          cases hr
          rfl
        have hst := fun σ => hstop m σ hrm hi
        clear hr hb hcode hws hstop herr
        generalize (fun σ' => ∃ j : { p : Nat × Ms // p.1 ≤ zs.length ∧ Inv l b p.2 ∧ Ents c l p.2 (zs.drop p.1) r }, zs.length - j.1.1 < zs.length - zs.length ∧ Weak (XX [] 38 [901, 4, 5]) σ' (GS c l (S2 (.slice (zs.map itC)) zs.length j.1.1) j.1.2)) = PP
        clear hi
        generalize rd49 = RD
        unfold GS S2 at *
        generalize gO c l m = O1 at *
        generalize gU m = U1 at *
        simp only [lh49, md49, c49, Tryz.f84, Option.getD_some, left, right, inBlock, inLoop]
        refine gg ?_
        exact hst _ (hwo _ _ (by simp [slotsLe, getS]))
  have key' : ∀ (S' : List (Nat × V)) (U : List Nat), slotsLe (S2 (.slice (zs.map itC)) zs.length 0) S' → AWP (XX [] 38 [901, 4, 5]) (.block 2 (.loop (.seq (left (inLoop (inBlock (right md49)))) (.seq lh49 (.seq (.block 3 rd49) (right (right (right (inLoop (inBlock (right md49))))))))))) ⟨S', gO c l m, U⟩ Q := fun S' U hS => key _ (hw0 S' U hS)
  clear key hw0 hr hstop herr hi hb
  generalize (Code.block 2 (.loop (.seq (left (inLoop (inBlock (right md49)))) (.seq lh49 (.seq (.block 3 rd49) (right (right (right (inLoop (inBlock (right md49)))))))))) ) = CC at *
  unfold GS S2 at *
  generalize gO c l m = O1 at *
  generalize gU m = U1 at *
  generalize zs.map itC = cc at *
  simp only [md49, c49, Tryz.f84, Option.getD_some, left, right]
  refine gg ?_
  exact key' _ _ (by simp [slotsLe, getS])
theorem go_args (c : List Ins) (l b : Nat) (hcode : Okc c) (hl : b + l ≤ 700000) (zs : List It) (hz : zs.length ≤ 1000000) (hb : ∀ a ∈ zs, Bd b a) (m m1 m' : Ms) (x : It) (hr : Runs c l ms0 (.stop m)) (he : Ents c l m zs (.stop m1)) (hpop : m1.pop = some (x, m')) :
    AC Tryz.prog gl 84 [.loc 901 0, .pv (.slice (zs.map itC))] [(901, mB0 c l)] (.ret (.pv (.tuple [itP x, .int 0]))) [(901, mE c l m1.steps)] := by
  refine go_start c l _ _ _ (by simp [V.names, namesOb, subL, mE, Ob.names, namesL]) ?_
  refine ex_seq ?_
  refine loop1 c l b hcode hl _ _ ms0 (inv0 l b) hr _ ?_ (fun _ _ h => by cases h)
  intro m2 σ h hi hw
  obtain rfl := (Res.stop.inj h).symm
  refine AWP.weaken hw ?_
  refine ex_seq ?_
  refine mid_args c l b hcode hl zs hz hb _ _ hi he _ ?_ (fun _ _ h => by cases h)
  intro m3 σ h hi hw
  obtain rfl := (Res.stop.inj h).symm
  refine AWP.weaken hw ?_
  exact tail49 c l b hl _ m' x hi hpop _ (by simp [slotsLe, getS])
theorem go_args_err (c : List Ins) (l b e : Nat) (hcode : Okc c) (hl : b + l ≤ 700000) (zs : List It) (hz : zs.length ≤ 1000000) (hb : ∀ a ∈ zs, Bd b a) (h : Runs c l ms0 (.err e) ∨ ∃ m, Runs c l ms0 (.stop m) ∧ Ents c l m zs (.err e)) :
    AC Tryz.prog gl 84 [.loc 901 0, .pv (.slice (zs.map itC))] [(901, mB0 c l)] (.ret (.pv (.tuple [.nil, .int e]))) [] := by
  refine go_start c l _ _ _ (by simp [V.names, namesOb, subL]) ?_
  refine ex_seq ?_
  rcases h with hr | ⟨m, hr, he⟩
  · refine loop1 c l b hcode hl _ _ ms0 (inv0 l b) hr _ (fun _ _ h => by cases h) ?_
    intro e' σ he hst
    cases he
    exact rescue_err hst
  · refine loop1 c l b hcode hl _ _ ms0 (inv0 l b) hr _ ?_ (fun _ _ h => by cases h)
    intro m2 σ h hi hw
    obtain rfl := (Res.stop.inj h).symm
    refine AWP.weaken hw ?_
    refine ex_seq ?_
    refine mid_args c l b hcode hl zs hz hb _ _ hi he _ (fun _ _ h => by cases h) ?_
    intro e' σ he hst
    cases he
    exact rescue_err hst
end Go.Proofs.YtodjpfpmhjdhbaaGreatDoor
