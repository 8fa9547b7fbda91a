/- Part of the proof: the contract of the law's own function; no conditions. -/
import Derived.Test.YtodjpfpmhjdhbaaGreatDoorCallsF9
import Derived.Test.YtodjpfpmhjdhbaaGreatDoorCallsE5
import Derived.Test.YtodjpfpmhjdhbaaGreatDoorCallsF1
set_option linter.unusedVariables false
set_option linter.unusedSimpArgs false
set_option linter.unusedSectionVars false
/- ref02.TypeOf of closed terms; RunEval, plainly: what the run comes to. -/
namespace Go.Proofs.YtodjpfpmhjdhbaaGreatDoor
open Go.Lg
set_option maxRecDepth 10000
set_option maxHeartbeats 4000000
theorem context_ok : AC Tryz.prog gl 86 [.pv (.slice [])] [] (.ret (.pv (.int 0))) [] := by
  refine body [] Tryz.func86 Tryz.ntmps86 ?_
  refine gg ?_
  refine ex_loop 1 (ex_round ?_)
  refine gg ?_
  exact ⟨by simp [retIs, resV, resL, resOne, mkTup, getS, getO, rdV, mkAgg, unL, V.un, TI.isAgg, XX_T, tt27, Tryz.f86], by simp [subO, getO, tt27, Tryz.f86]⟩
theorem typed_of (t : Tm) (hw : t.wf = true) (hz : t.size ≤ 4096) (a : List PV) (e : Int) (sa : ∃ k s, a = [.int k, .slice s]) (h : AC Tryz.prog gl 118 [.pv (.slice []), .pv (.agg t.cells)] [] (.ret (.pv (.tuple [.agg a, .int e]))) []) :
    AC Tryz.prog gl 87 [.pv (.slice []), .pv (.agg t.cells)] [] (.ret (.pv (.tuple [.agg a, .int e]))) [] := by
  obtain ⟨k, s, rfl⟩ := sa
  have h1 := tcheck_ok t hw (by omega)
  rw [if_pos hz] at h1
  rw [Tm.cells_eq] at *
  generalize t.ty.args.map Ty.cells = ta at *
  generalize t.args.map Tm.cells = tas at *
  refine body [] Tryz.func87 Tryz.ntmps87 ?_
  refine gg ?_
  refine call h1 ?_
  refine gg ?_
  refine call h ?_
  refine gg ?_
  exact ⟨by simp [retIs, resV, resL, resOne, mkTup, getS, getO, rdV, mkAgg, unL, V.un, TI.isAgg, XX_T, tt27, Tryz.f87], by simp [subO, getO, tt27, Tryz.f87]⟩
theorem typeof_of (t : Tm) (hw : t.wf = true) (hz : t.size ≤ 4096) (a : List PV) (e : Int) (sa : ∃ k s, a = [.int k, .slice s]) (h : AC Tryz.prog gl 118 [.pv (.slice []), .pv (.agg t.cells)] [] (.ret (.pv (.tuple [.agg a, .int e]))) []) :
    AC Tryz.prog gl 47 [.pv (.slice []), .pv (.agg t.cells)] [] (.ret (.pv (.tuple [.agg a, .int e]))) [] := by
  have h2 := typed_of t hw hz a e sa h
  have h1 := context_ok
  obtain ⟨k, s, rfl⟩ := sa
  rw [Tm.cells_eq] at *
  generalize t.ty.args.map Ty.cells = ta at *
  generalize t.args.map Tm.cells = tas at *
  refine body [] Tryz.func47 Tryz.ntmps47 ?_
  refine gg ?_
  refine call h1 ?_
  refine gg ?_
  refine call h2 ?_
  refine gg ?_
  exact ⟨by simp [retIs, resV, resL, resOne, mkTup, getS, getO, rdV, mkAgg, unL, V.un, TI.isAgg, XX_T, tt27, Tryz.f47], by simp [subO, getO, tt27, Tryz.f47]⟩
/-- the type of a closed term is found, or too large -/
theorem typeof_all {t : Tm} {τ : Ty} (h : HasTy [] t τ) (hw : t.wf = true) (hz : t.size ≤ 4096) :
    AC Tryz.prog gl 47 [.pv (.slice []), .pv (.agg t.cells)] [] (.ret (.pv (.tuple [.agg τ.cells, .int 0]))) [] ∨ AC Tryz.prog gl 47 [.pv (.slice []), .pv (.agg t.cells)] [] (.ret (.pv (.tuple [.agg [.int 0, .slice []], .int 4]))) [] := by
  rcases infer_all h hw (by simp) (by simp; omega) with ⟨h1, _⟩ | h1
  · exact .inl (typeof_of t hw hz _ _ ⟨_, _, τ.cells_eq⟩ h1)
  · exact .inr (typeof_of t hw hz _ _ ⟨_, _, rfl⟩ h1)
theorem VR_sameT {c : List Ins} {B : Nat} {x : It} {r : Rs} {τ : Ty} (hp : τ.plain) (ht : RsT B r τ) (h : VR c x r) : SameD x r ∧ Dat x := by
  have base : ∀ {x : It} {r : Rs} {τ : Ty}, (τ = .nat ∨ τ = .list ∨ τ = .unit) → RsT B r τ → VR c x r → SameD x r ∧ Dat x := by
    intro x r τ hb ht h
    rcases hb with rfl | rfl | rfl <;> cases ht <;> cases h
    · exact ⟨.num _, .num _⟩
    · exact ⟨.list _, .list _⟩
    · exact ⟨.unit, .unit⟩
  rcases plain_cases hp with hb | ⟨s, hb, rfl⟩
  · exact base hb ht h
  · cases ht with
    | pair ha hb' =>
      cases h with
      | pair va vb =>
        obtain ⟨a1, a2⟩ := base (.inl rfl) ha va
        obtain ⟨b1, b2⟩ := base (by rcases hb with rfl | rfl <;> simp) hb' vb
        exact ⟨.pair a1 b1, .pair a2 b2⟩
end Go.Proofs.YtodjpfpmhjdhbaaGreatDoor
/- The law RunEval. -/
namespace Go.Proofs.YtodjpfpmhjdhbaaGreatDoor
open Go.Lg
set_option maxRecDepth 10000
set_option maxHeartbeats 4000000
theorem shape_valC {B : Nat} {r : Rs} {t : Ty} (h : RsT B r t) (hp : t.plain) : ∃ k m s q, valC r = [.int k, .int m, s, q] ∧ s.one = true ∧ q.one = true := by
  rcases plain_cases hp with hb | ⟨s, hb, rfl⟩
  · obtain ⟨k, n, s, e, o⟩ := valC_shape h hb
    exact ⟨k, n, s, .nils, e, o, rfl⟩
  · cases h with
    | pair ha hb' => exact ⟨_, _, _, _, rfl, rfl, rfl⟩
theorem shape_valW {B : Nat} {r : Rs} {t : Ty} (h : RsT B r t) (hp : t.plain) : ∃ k m s q, valW r = [.int k, .int m, s, q] ∧ s.one = true ∧ q.one = true := by
  rcases plain_cases hp with hb | ⟨s, hb, rfl⟩
  · obtain ⟨k, n, s, e, o⟩ := valW_shape h hb
    exact ⟨k, n, s, .nils, e, o, rfl⟩
  · cases h with
    | pair ha hb' => exact ⟨_, _, _, _, rfl, rfl, rfl⟩
end Go.Proofs.YtodjpfpmhjdhbaaGreatDoor
