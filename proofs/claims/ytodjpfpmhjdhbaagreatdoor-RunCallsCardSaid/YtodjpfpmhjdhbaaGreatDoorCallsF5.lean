/- Part of the proof: contracts of the evaluator, of values and of the inference of types; no conditions. -/
import Derived.Test.YtodjpfpmhjdhbaaGreatDoorCallsF4
import Derived.Test.YtodjpfpmhjdhbaaGreatDoorCallsE5
set_option linter.unusedVariables false
set_option linter.unusedSimpArgs false
set_option linter.unusedSectionVars false
/- The evaluator of ref06: plain values. -/
namespace Go.Proofs.YtodjpfpmhjdhbaaGreatDoor
open Go.Lg
set_option maxRecDepth 10000
set_option maxHeartbeats 4000000
/-- the cells of the value of a result without functions -/
def valC : Rs → List PV
  | .num n => [.int 1, .int n, .nils, .nils]
  | .list l => [.int 2, .int 0, .slice (numsR l), .nils]
  | .unit => [.int 4, .int 0, .nils, .nils]
  | .pair a b => [.int 3, .int 0, .nils, .slice [valC a, valC b]]
  | .clo _ _ => []
theorem plain_num (n : Nat) : AC Tryz.prog gl 54 [.pv (.agg (rsC (.num n))), .pv (.agg Ty.nat.cells)] [] (.ret (.pv (.agg (valC (.num n))))) [] := by
  simp only [rsC, valC, Ty.cells]
  refine body [] Tryz.func54 Tryz.ntmps54 ?_
  refine gg ?_
  exact ⟨by simp [retIs, resV, resL, resOne, mkTup, getS, getO, rdV, mkAgg, unL, V.un, TI.isAgg, XX_T, tt41, Tryz.f54], by simp [subO, getO, tt41, Tryz.f54]⟩
theorem plain_unit : AC Tryz.prog gl 54 [.pv (.agg (rsC .unit)), .pv (.agg Ty.unit.cells)] [] (.ret (.pv (.agg (valC .unit)))) [] := by
  simp only [rsC, valC, Ty.cells]
  refine body [] Tryz.func54 Tryz.ntmps54 ?_
  refine gg ?_
  exact ⟨by simp [retIs, resV, resL, resOne, mkTup, getS, getO, rdV, mkAgg, unL, V.un, TI.isAgg, XX_T, tt41, Tryz.f54], by simp [subO, getO, tt41, Tryz.f54]⟩
theorem numsR_all (zs : List Nat) : ∀ q ∈ numsR zs, q.length = 1 := by
  intro q hq
  simp only [numsR, List.mem_map] at hq
  obtain ⟨k, _, rfl⟩ := hq
  rfl
theorem plain_list (l : List Nat) (hl : l.length ≤ 100000) : AC Tryz.prog gl 54 [.pv (.agg (rsC (.list l))), .pv (.agg Ty.list.cells)] [] (.ret (.pv (.agg (valC (.list l))))) [] := by
  have hall := numsR_all l
  have hlz : (numsR l).length ≤ 100000 := by simpa [numsR] using hl
  simp only [rsC, valC, Ty.cells]
  generalize numsR l = qs at *
  refine body [] Tryz.func54 Tryz.ntmps54 ?_
  refine gg ?_
  exact ⟨by simp [retIs, resV, resL, resOne, mkTup, getS, getO, rdV, mkAgg, unL, V.un, TI.isAgg, XX_T, tt41, Tryz.f54], by simp [subO, getO, tt41, Tryz.f54]⟩
theorem valC_shape {B : Nat} {r : Rs} {t : Ty} (h : RsT B r t) (hp : t = .nat ∨ t = .list ∨ t = .unit) : ∃ k n s, valC r = [.int k, .int n, s, .nils] ∧ s.one = true := by
  rcases hp with rfl | rfl | rfl <;> cases h <;> exact ⟨_, _, _, rfl, rfl⟩
theorem plain_base {B : Nat} (hB : B ≤ 100000) {r : Rs} {t : Ty} (h : RsT B r t) (hp : t = .nat ∨ t = .list ∨ t = .unit) : AC Tryz.prog gl 54 [.pv (.agg (rsC r)), .pv (.agg t.cells)] [] (.ret (.pv (.agg (valC r)))) [] := by
  rcases hp with rfl | rfl | rfl
  · cases h; exact plain_num _
  · cases h with
    | list h1 h2 => exact plain_list _ (by omega)
  · cases h; exact plain_unit
theorem plain_pair {B : Nat} (hB : B ≤ 100000) {a b : Rs} {s t : Ty} (ha : RsT B a s) (hb : RsT B b t) (hs : s = .nat ∨ s = .list ∨ s = .unit) (ht : t = .nat ∨ t = .list ∨ t = .unit) :
    AC Tryz.prog gl 54 [.pv (.agg (rsC (.pair a b))), .pv (.agg (Ty.pair s t).cells)] [] (.ret (.pv (.agg (valC (.pair a b))))) [] := by
  have h1 := plain_base hB ha hs
  have h2 := plain_base hB hb ht
  obtain ⟨n1, l1, p1, k1, i1, tk1, ta1, bs1, f1, ea⟩ := rsC_shape a
  obtain ⟨n2, l2, p2, k2, i2, tk2, ta2, bs2, f2, eb⟩ := rsC_shape b
  obtain ⟨k3, n3, s3, e3, o3⟩ := valC_shape ha hs
  obtain ⟨k4, n4, s4, e4, o4⟩ := valC_shape hb ht
  have w3 := vcells_one o3
  have w4 := vcells_one o4
  have v3 : (V.pv s3).one = true := by rw [one_pv]; exact o3
  have v4 : (V.pv s4).one = true := by rw [one_pv]; exact o4
  have es := s.cells_eq
  have et := t.cells_eq
  simp only [rsC, valC, Ty.cells, ea, eb, e3, e4] at h1 h2 ⊢
  rw [es] at h1 ⊢
  rw [et] at h2 ⊢
  clear ea eb e3 e4 es et
  generalize s.args.map Ty.cells = sa at *
  generalize t.args.map Ty.cells = ta at *
  refine body [] Tryz.func54 Tryz.ntmps54 ?_
  refine gg ?_
  refine call h1 ?_
  refine gg ?_
  refine call h2 ?_
  refine gg ?_
  refine ⟨by rfl, ?_⟩
  refine gg ?_
  exact ⟨by simp [retIs, resV, resL, resOne, mkTup, getS, getO, rdV, mkAgg, unL, V.un, TI.isAgg, XX_T, tt41, Tryz.f54], by simp [subO, getO, tt41, Tryz.f54]⟩
end Go.Proofs.YtodjpfpmhjdhbaaGreatDoor
/- Values are compared (ref05.Ints, ref05.Same). -/
namespace Go.Proofs.YtodjpfpmhjdhbaaGreatDoor
open Go.Lg
set_option maxRecDepth 10000
set_option maxHeartbeats 4000000
theorem ints_nn : AC Tryz.prog gl 45 [.pv .nils, .pv (.slice [])] [] (.ret (.pv (.bool true))) [] := by
  refine body [] Tryz.func45 Tryz.ntmps45 ?_
  refine gg ?_
  refine ex_loop 1 (ex_round ?_)
  refine gg ?_
  exact ⟨by simp [retIs, resV, resL, resOne, mkTup, getS, getO, rdV, mkAgg, unL, V.un, TI.isAgg, XX_T, tt41, Tryz.f45], by simp [subO, getO, tt41, Tryz.f45]⟩
noncomputable def inI2 (cc : List (List PV)) (k : Nat) : St := ⟨[(0, .pv (.slice cc)), (1, .pv (.slice cc)), (11, .pv (.slice cc)), (12, .pv (.int cc.length)), (13, .pv (.int k))], [], []⟩
theorem ints_same (l : List Nat) (hl : l.length ≤ 100000) : AC Tryz.prog gl 45 [.pv (.slice (numsR l)), .pv (.slice (numsR l))] [] (.ret (.pv (.bool true))) [] := by
  have hal := numsR_all l
  have hlen : (numsR l).length = l.length := by simp [numsR]
  have hg : ∀ k, k < l.length → ∃ a : Nat, (numsR l).getD k [] = [.int a] := by
    intro k hk
    refine ⟨l[k], ?_⟩
    simp [numsR, List.getD, hk]
  generalize numsR l = cc at *
  rw [← hlen] at hg hl
  clear hlen
  refine body [] Tryz.func45 Tryz.ntmps45 ?_
  refine gg ?_
  refine AWP.loopN cc.length (inI2 cc) ?_ ?_
  · refine ⟨by simp [inI2, slotsLe, getS], by simp [inI2, subO, getO], by simp [inI2, subL, namesSl, V.names, namesOb, Ob.names, XX_given]⟩
  intro k hkn
  unfold inI2
  by_cases hk : k < cc.length
  · obtain ⟨a, ha⟩ := hg k hk
    have k1 : (k : Int) < cc.length := by omega
    have k2 : (0 : Int) ≤ (k : Int) := by omega
    clear hg
    refine gg ?_
    refine ⟨by rfl, ?_⟩
    refine gg ?_
    refine ⟨hk, ?_, ?_, ?_⟩
    · simp [slotsLe, getS]
    · simp [subO, getO]
    · simp [subL, namesSl, V.names, namesOb, Ob.names, XX_given]
  · have k1 : ¬ (k : Int) < cc.length := by omega
    clear hg
    refine gg ?_
    exact ⟨by simp [retIs, resV, resL, resOne, mkTup, getS, getO, rdV, mkAgg, unL, V.un, TI.isAgg, XX_T, tt41, Tryz.f45], by simp [subO, getO, tt41, Tryz.f45]⟩
/-- the cells of a value that run.Value makes -/
def valW : Rs → List PV
  | .num n => [.int 1, .int n, .slice [], .nils]
  | .list l => [.int 2, .int 0, .slice (numsR l), .nils]
  | .unit => [.int 4, .int 0, .slice [], .nils]
  | .pair a b => [.int 3, .int 0, .slice [], .slice [valW a, valW b]]
  | .clo _ _ => []
theorem vsame_num (n : Nat) : AC Tryz.prog gl 16 [.pv (.agg (valC (.num n))), .pv (.agg (valW (.num n)))] [] (.ret (.pv (.bool true))) [] := by
  have h := ints_nn
  simp only [valC, valW]
  refine body [] Tryz.func16 Tryz.ntmps16 ?_
  refine gg ?_
  refine call h ?_
  refine gg ?_
  refine ex_loop 1 (ex_round ?_)
  refine gg ?_
  exact ⟨by simp [retIs, resV, resL, resOne, mkTup, getS, getO, rdV, mkAgg, unL, V.un, TI.isAgg, XX_T, tt41, Tryz.f16], by simp [subO, getO, tt41, Tryz.f16]⟩
theorem vsame_unit : AC Tryz.prog gl 16 [.pv (.agg (valC .unit)), .pv (.agg (valW .unit))] [] (.ret (.pv (.bool true))) [] := by
  have h := ints_nn
  simp only [valC, valW]
  refine body [] Tryz.func16 Tryz.ntmps16 ?_
  refine gg ?_
  refine call h ?_
  refine gg ?_
  refine ex_loop 1 (ex_round ?_)
  refine gg ?_
  exact ⟨by simp [retIs, resV, resL, resOne, mkTup, getS, getO, rdV, mkAgg, unL, V.un, TI.isAgg, XX_T, tt41, Tryz.f16], by simp [subO, getO, tt41, Tryz.f16]⟩
theorem vsame_list (l : List Nat) (hl : l.length ≤ 100000) : AC Tryz.prog gl 16 [.pv (.agg (valC (.list l))), .pv (.agg (valW (.list l)))] [] (.ret (.pv (.bool true))) [] := by
  have h := ints_same l hl
  simp only [valC, valW]
  generalize numsR l = cc at *
  refine body [] Tryz.func16 Tryz.ntmps16 ?_
  refine gg ?_
  refine call h ?_
  refine gg ?_
  refine ex_loop 1 (ex_round ?_)
  refine gg ?_
  exact ⟨by simp [retIs, resV, resL, resOne, mkTup, getS, getO, rdV, mkAgg, unL, V.un, TI.isAgg, XX_T, tt41, Tryz.f16], by simp [subO, getO, tt41, Tryz.f16]⟩
theorem valW_shape {B : Nat} {r : Rs} {t : Ty} (h : RsT B r t) (hp : t = .nat ∨ t = .list ∨ t = .unit) : ∃ k n s, valW r = [.int k, .int n, s, .nils] ∧ s.one = true := by
  rcases hp with rfl | rfl | rfl <;> cases h <;> exact ⟨_, _, _, rfl, rfl⟩
theorem vsame_base {B : Nat} (hB : B ≤ 100000) {r : Rs} {t : Ty} (h : RsT B r t) (hp : t = .nat ∨ t = .list ∨ t = .unit) : AC Tryz.prog gl 16 [.pv (.agg (valC r)), .pv (.agg (valW r))] [] (.ret (.pv (.bool true))) [] := by
  rcases hp with rfl | rfl | rfl
  · cases h; exact vsame_num _
  · cases h with
    | list h1 h2 => exact vsame_list _ (by omega)
  · cases h; exact vsame_unit
theorem vsame_pair {B : Nat} (hB : B ≤ 100000) {a b : Rs} {s t : Ty} (ha : RsT B a s) (hb : RsT B b t) (hs : s = .nat ∨ s = .list ∨ s = .unit) (ht : t = .nat ∨ t = .list ∨ t = .unit) :
    AC Tryz.prog gl 16 [.pv (.agg (valC (.pair a b))), .pv (.agg (valW (.pair a b)))] [] (.ret (.pv (.bool true))) [] := by
  have h0 := ints_nn
  have h1 := vsame_base hB ha hs
  have h2 := vsame_base hB hb ht
  obtain ⟨k3, n3, s3, e3, o3⟩ := valC_shape ha hs
  obtain ⟨k4, n4, s4, e4, o4⟩ := valC_shape hb ht
  obtain ⟨k5, n5, s5, e5, o5⟩ := valW_shape ha hs
  obtain ⟨k6, n6, s6, e6, o6⟩ := valW_shape hb ht
  have w3 := vcells_one o3
  have w4 := vcells_one o4
  have w5 := vcells_one o5
  have w6 := vcells_one o6
  have v3 : (V.pv s3).one = true := by rw [one_pv]; exact o3
  have v4 : (V.pv s4).one = true := by rw [one_pv]; exact o4
  have v5 : (V.pv s5).one = true := by rw [one_pv]; exact o5
  have v6 : (V.pv s6).one = true := by rw [one_pv]; exact o6
  simp only [valC, valW, e3, e4, e5, e6] at h1 h2 ⊢
  clear e3 e4 e5 e6
  refine body [] Tryz.func16 Tryz.ntmps16 ?_
  refine gg ?_
  refine call h0 ?_
  refine gg ?_
  refine ex_loop 3 (ex_round ?_)
  refine gg ?_
  refine call h1 ?_
  refine gg ?_
  refine ⟨by rfl, ?_⟩
  refine gg ?_
  refine ex_round ?_
  refine gg ?_
  refine call h2 ?_
  refine gg ?_
  refine ⟨by rfl, ?_⟩
  refine gg ?_
  refine ex_round ?_
  refine gg ?_
  exact ⟨by simp [retIs, resV, resL, resOne, mkTup, getS, getO, rdV, mkAgg, unL, V.un, TI.isAgg, XX_T, tt41, Tryz.f16], by simp [subO, getO, tt41, Tryz.f16]⟩
end Go.Proofs.YtodjpfpmhjdhbaaGreatDoor
/- Types without functions are data (ref01.Data); ref02.ok. -/
namespace Go.Proofs.YtodjpfpmhjdhbaaGreatDoor
open Go.Lg
set_option maxRecDepth 10000
set_option maxHeartbeats 4000000
theorem level_nat : AC Tryz.prog gl 90 [.pv (.agg Ty.nat.cells)] [] (.ret (.pv (.int 0))) [] := by
  simp only [Ty.cells]
  refine body [] Tryz.func90 Tryz.ntmps90 ?_
  refine gg ?_
  exact ⟨by simp [retIs, resV, resL, resOne, mkTup, getS, getO, rdV, mkAgg, unL, V.un, TI.isAgg, XX_T, tt41, Tryz.f90], by simp [subO, getO, tt41, Tryz.f90]⟩
theorem level_list : AC Tryz.prog gl 90 [.pv (.agg Ty.list.cells)] [] (.ret (.pv (.int 0))) [] := by
  simp only [Ty.cells]
  refine body [] Tryz.func90 Tryz.ntmps90 ?_
  refine gg ?_
  exact ⟨by simp [retIs, resV, resL, resOne, mkTup, getS, getO, rdV, mkAgg, unL, V.un, TI.isAgg, XX_T, tt41, Tryz.f90], by simp [subO, getO, tt41, Tryz.f90]⟩
theorem level_unit : AC Tryz.prog gl 90 [.pv (.agg Ty.unit.cells)] [] (.ret (.pv (.int 0))) [] := by
  simp only [Ty.cells]
  refine body [] Tryz.func90 Tryz.ntmps90 ?_
  refine gg ?_
  exact ⟨by simp [retIs, resV, resL, resOne, mkTup, getS, getO, rdV, mkAgg, unL, V.un, TI.isAgg, XX_T, tt41, Tryz.f90], by simp [subO, getO, tt41, Tryz.f90]⟩
theorem level_pair (s t : Ty) (hs : AC Tryz.prog gl 90 [.pv (.agg s.cells)] [] (.ret (.pv (.int 0))) []) (ht : AC Tryz.prog gl 90 [.pv (.agg t.cells)] [] (.ret (.pv (.int 0))) []) : AC Tryz.prog gl 90 [.pv (.agg (Ty.pair s t).cells)] [] (.ret (.pv (.int 0))) [] := by
  simp only [Ty.cells]
  rw [s.cells_eq] at *
  rw [t.cells_eq] at *
  generalize s.args.map Ty.cells = sa at *
  generalize t.args.map Ty.cells = ta at *
  refine body [] Tryz.func90 Tryz.ntmps90 ?_
  refine gg ?_
  refine call hs ?_
  refine gg ?_
  refine call ht ?_
  refine gg ?_
  refine ⟨by rfl, ?_⟩
  refine gg ?_
  exact ⟨by simp [retIs, resV, resL, resOne, mkTup, getS, getO, rdV, mkAgg, unL, V.un, TI.isAgg, XX_T, tt41, Tryz.f90], by simp [subO, getO, tt41, Tryz.f90]⟩
theorem level_base {t : Ty} (hp : t = .nat ∨ t = .list ∨ t = .unit) : AC Tryz.prog gl 90 [.pv (.agg t.cells)] [] (.ret (.pv (.int 0))) [] := by
  rcases hp with rfl | rfl | rfl
  · exact level_nat
  · exact level_list
  · exact level_unit
theorem tdata_of (t : Ty) (hs : t.ok = true) (hz : t.size ≤ 64) (hl : AC Tryz.prog gl 90 [.pv (.agg t.cells)] [] (.ret (.pv (.int 0))) []) : AC Tryz.prog gl 50 [.pv (.agg t.cells)] [] (.ret (.pv (.tuple [.bool true, .int 0]))) [] := by
  have h := tycheck_ok t hs hz
  rw [t.cells_eq] at *
  generalize t.args.map Ty.cells = ta at *
  refine body [] Tryz.func50 Tryz.ntmps50 ?_
  refine gg ?_
  refine call h ?_
  refine gg ?_
  refine call hl ?_
  refine gg ?_
  exact ⟨by simp [retIs, resV, resL, resOne, mkTup, getS, getO, rdV, mkAgg, unL, V.un, TI.isAgg, XX_T, tt41, Tryz.f50], by simp [subO, getO, tt41, Tryz.f50]⟩
theorem plain_cases {t : Ty} (h : t.plain) : (t = .nat ∨ t = .list ∨ t = .unit) ∨ ∃ s, (s = .list ∨ s = .nat) ∧ t = .pair .nat s := by
  rcases h with h | h | h
  · left
    cases t <;> simp_all [Ty.base]
  · exact .inr ⟨.list, .inl rfl, h⟩
  · exact .inr ⟨.nat, .inr rfl, h⟩
theorem tdata_ok (t : Ty) (hp : t.plain) : AC Tryz.prog gl 50 [.pv (.agg t.cells)] [] (.ret (.pv (.tuple [.bool true, .int 0]))) [] := by
  rcases plain_cases hp with h | ⟨s, hs, rfl⟩
  · refine tdata_of t ?_ ?_ (level_base h)
    · rcases h with rfl | rfl | rfl <;> rfl
    · rcases h with rfl | rfl | rfl <;> decide
  · refine tdata_of _ ?_ ?_ (level_pair _ _ level_nat (level_base (by rcases hs with rfl | rfl <;> simp)))
    · rcases hs with rfl | rfl <;> rfl
    · rcases hs with rfl | rfl <;> decide
theorem tok_ok (t : Ty) (hs : t.ok = true) (hz : t.size ≤ 64) : AC Tryz.prog gl 137 [.pv (.agg t.cells)] [] (.ret (.pv (.tuple [.agg t.cells, .int 0]))) [] := by
  have h := tycheck_ok t hs hz
  rw [t.cells_eq] at *
  generalize t.args.map Ty.cells = ta at *
  refine body [] Tryz.func137 Tryz.ntmps137 ?_
  refine gg ?_
  refine call h ?_
  refine gg ?_
  exact ⟨by simp [retIs, resV, resL, resOne, mkTup, getS, getO, rdV, mkAgg, unL, V.un, TI.isAgg, XX_T, tt27, Tryz.f137], by simp [subO, getO, tt27, Tryz.f137]⟩
end Go.Proofs.YtodjpfpmhjdhbaaGreatDoor
