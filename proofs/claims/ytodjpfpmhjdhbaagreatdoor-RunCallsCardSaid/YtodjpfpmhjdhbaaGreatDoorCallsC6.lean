/- Part of the proof: contracts of the types, terms, the generator and the compiler; no conditions. -/
import Derived.Test.YtodjpfpmhjdhbaaGreatDoorCallsC5
set_option linter.unusedVariables false
set_option linter.unusedSimpArgs false
set_option linter.unusedSectionVars false
namespace Go.Proofs.YtodjpfpmhjdhbaaGreatDoor
open Go.Lg
set_option maxRecDepth 10000
set_option maxHeartbeats 4000000
theorem tail_num (L : List Int) (at_ : Nat) (g : List Ty) (d : Int) (hL : L.length ≤ 500) (hd : ¬ 0 < d) : Goes (right (right (right (right c18)))) L at_ g .nat d := by
  have h1 := next_ok L at_ 3 hL (by omega)
  have hn := nxv_lt L at_ 3 (by omega)
  generalize nxv L at_ 3 = n at *
  generalize nxa L at_ 3 = at1 at *
  have h2 := num_ok n (by omega)
  refine ⟨numT n, at1, num_good g n _ hn, ?_⟩
  simp only [right, c18, Tryz.f37, Option.getD_some, X18, st18, deck] at *
  simp only [Tm.cells, Tm.node, Tm.kind, Tm.args, Tm.ty, Ty.cells, Ty.kind, Ty.args, List.map_nil, List.map_cons, Int.cast_ofNat_Int] at h1 ⊢
  rw [Tm.cells_eq] at h2 ⊢
  refine gg ?_
  refine call h1 ?_
  refine gg ?_
  refine call h2 ?_
  refine gg ?_
  exact ⟨by simp [retIs, resV, resL, resOne, mkTup, getS, getO, rdV, mkAgg, unL, V.un, TI.isAgg, XX_T, tt30], by simp [subO, getO, tt30]⟩
theorem tail_nat (L : List Int) (at_ : Nat) (g : List Ty) (d : Int) (hL : L.length ≤ 500) (hd : -100 ≤ d ∧ d ≤ 100) (hgp : ∀ s ∈ g, s.plain) (hs : Sub18 L g .nat d) : Goes (right (right (right (right c18)))) L at_ g .nat d := by
  by_cases h : 0 < d
  · have h5 := next_ok L at_ 5 hL (by omega)
    have hn := nxv_lt L at_ 5 (by omega)
    generalize nxv L at_ 5 = n at *
    generalize nxa L at_ 5 = at1 at *
    have hsz := Sz_pos h
    obtain ⟨a, at2, ga, ha⟩ := hs g .nat at1 hgp (.inl (.inl rfl)) (.inl h) (by omega)
    obtain ⟨b, at3, gb, hb⟩ := hs g .nat at2 hgp (.inl (.inl rfl)) (.inl h) (by omega)
    have sa := ga.size
    have sb := gb.size
    have hn : n = 0 ∨ n = 1 ∨ n = 2 ∨ n = 3 ∨ n = 4 := by omega
    clear hs
    rcases hn with rfl | rfl | rfl | hn
    · have hc := nn_ok (.succ a) rfl rfl
      refine ⟨.succ a, at2, ⟨.succ ga.ty, by simp [Tm.wf, ga.wf], by simp [Tm.size]; omega, by omega⟩, ?_⟩
      clear ga gb hb
      simp only [right, c18, Tryz.f37, Option.getD_some, X18, st18, deck] at *
      simp only [Tm.cells, Tm.node, Tm.kind, Tm.args, Tm.ty, Ty.cells, Ty.kind, Ty.args, List.map_nil, List.map_cons, Int.cast_ofNat_Int] at h5 ha hc ⊢
      rw [a.cells_eq] at ha hc ⊢
      refine gg ?_
      refine call h5 ?_
      refine gg ?_
      refine call ha ?_
      refine gg ?_
      refine call hc ?_
      refine gg ?_
      exact ⟨by simp [retIs, resV, resL, resOne, mkTup, getS, getO, rdV, mkAgg, unL, V.un, TI.isAgg, XX_T, tt30], by simp [subO, getO, tt30]⟩
    · have hc := app_ok plusT a b
      have hp := plus_ok
      refine ⟨.app (.app plusT a) b, at3, ⟨.app (.app (plus_ty g) ga.ty) gb.ty, by simp [Tm.wf, ga.wf, gb.wf]; rfl, ?_, by omega⟩, ?_⟩
      · have : plusT.size ≤ 16 := by decide
        simp only [Tm.size]; omega
      clear ga gb
      simp only [right, c18, Tryz.f37, Option.getD_some, X18, st18, deck] at *
      simp only [Tm.cells, Tm.node, Tm.kind, Tm.args, Tm.ty, Ty.cells, Ty.kind, Ty.args, List.map_nil, List.map_cons, Int.cast_ofNat_Int] at h5 ha hb hc hp ⊢
      rw [plusT.cells_eq] at hc hp ⊢
      rw [a.cells_eq] at ha hc ⊢
      rw [b.cells_eq] at hb hc ⊢
      refine gg ?_
      refine call h5 ?_
      refine gg ?_
      refine call hp ?_
      refine gg ?_
      refine call ha ?_
      refine gg ?_
      refine call hb ?_
      refine gg ?_
      refine call hc ?_
      refine gg ?_
      refine ⟨by rfl, ?_⟩
      refine gg ?_
      exact ⟨by simp [retIs, resV, resL, resOne, mkTup, getS, getO, rdV, mkAgg, unL, V.un, TI.isAgg, XX_T, tt30], by simp [subO, getO, tt30]⟩
    · have hc := app_ok subT a b
      have hp := sub_ok
      refine ⟨.app (.app subT a) b, at3, ⟨.app (.app (sub_ty g) ga.ty) gb.ty, by simp [Tm.wf, ga.wf, gb.wf]; rfl, ?_, by omega⟩, ?_⟩
      · have : subT.size ≤ 16 := by decide
        simp only [Tm.size]; omega
      clear ga gb
      simp only [right, c18, Tryz.f37, Option.getD_some, X18, st18, deck] at *
      simp only [Tm.cells, Tm.node, Tm.kind, Tm.args, Tm.ty, Ty.cells, Ty.kind, Ty.args, List.map_nil, List.map_cons, Int.cast_ofNat_Int] at h5 ha hb hc hp ⊢
      rw [subT.cells_eq] at hc hp ⊢
      rw [a.cells_eq] at ha hc ⊢
      rw [b.cells_eq] at hb hc ⊢
      refine gg ?_
      refine call h5 ?_
      refine gg ?_
      refine call hp ?_
      refine gg ?_
      refine call ha ?_
      refine gg ?_
      refine call hb ?_
      refine gg ?_
      refine call hc ?_
      refine gg ?_
      refine ⟨by rfl, ?_⟩
      refine gg ?_
      exact ⟨by simp [retIs, resV, resL, resOne, mkTup, getS, getO, rdV, mkAgg, unL, V.un, TI.isAgg, XX_T, tt30], by simp [subO, getO, tt30]⟩
    · have h1 := next_ok L at1 3 hL (by omega)
      have hm := nxv_lt L at1 3 (by omega)
      generalize nxv L at1 3 = m at *
      generalize nxa L at1 3 = at4 at *
      have h2 := num_ok m (by omega)
      refine ⟨numT m, at4, num_good g m _ hm, ?_⟩
      clear ga gb ha hb
      simp only [right, c18, Tryz.f37, Option.getD_some, X18, st18, deck] at *
      simp only [Tm.cells, Tm.node, Tm.kind, Tm.args, Tm.ty, Ty.cells, Ty.kind, Ty.args, List.map_nil, List.map_cons, Int.cast_ofNat_Int] at h1 h5 ⊢
      rw [Tm.cells_eq] at h2 ⊢
      rcases hn with rfl | rfl
      · simp only [Int.cast_ofNat_Int] at h5
        refine gg ?_
        refine call h5 ?_
        refine gg ?_
        refine call h1 ?_
        refine gg ?_
        refine call h2 ?_
        refine gg ?_
        exact ⟨by simp [retIs, resV, resL, resOne, mkTup, getS, getO, rdV, mkAgg, unL, V.un, TI.isAgg, XX_T, tt30], by simp [subO, getO, tt30]⟩
      · simp only [Int.cast_ofNat_Int] at h5
        refine gg ?_
        refine call h5 ?_
        refine gg ?_
        refine call h1 ?_
        refine gg ?_
        refine call h2 ?_
        refine gg ?_
        exact ⟨by simp [retIs, resV, resL, resOne, mkTup, getS, getO, rdV, mkAgg, unL, V.un, TI.isAgg, XX_T, tt30], by simp [subO, getO, tt30]⟩
  · exact tail_num L at_ g d hL h
theorem tail_pair (L : List Int) (at_ : Nat) (g : List Ty) (s u : Ty) (d : Int) (hp : (Ty.pair s u).plain) (hd : -100 ≤ d ∧ d ≤ 100) (hgp : ∀ s ∈ g, s.plain) (hs : Sub18 L g (.pair s u) d) : Goes (right (right (right (right c18)))) L at_ g (.pair s u) d := by
  have hsb : s.base ∧ u.base := by
    rcases hp with (h | h | h) | h | h <;> simp at h
    · exact ⟨.inl h.1, .inr (.inl h.2)⟩
    · exact ⟨.inl h.1, .inl h.2⟩
  have hnb : ¬ (Ty.pair s u).base := by rintro (h | h | h) <;> cases h
  obtain ⟨a, at1, ga, ha⟩ := hs g s at_ hgp (.inl hsb.1) (.inr ⟨hsb.1, hnb⟩) (by omega)
  obtain ⟨b, at2, gb, hb⟩ := hs g u at1 hgp (.inl hsb.2) (.inr ⟨hsb.2, hnb⟩) (by omega)
  have sa := ga.size
  have sb := gb.size
  have hc := nn_ok (.pair a b) rfl rfl
  refine ⟨.pair a b, at2, ⟨.pair ga.ty gb.ty, by simp [Tm.wf, ga.wf, gb.wf], ?_, fun _ h => absurd h hnb⟩, ?_⟩
  · by_cases h : 0 < d
    · have := Sz_pos h
      simp only [Tm.size]; omega
    · have e : (d - 1).toNat = 0 := by omega
      have := ga.small e hsb.1
      have := gb.small e hsb.2
      have := Sz_ge d.toNat
      simp only [Tm.size]; omega
  clear ga gb hs hp hnb hsb
  simp only [right, c18, Tryz.f37, Option.getD_some, X18, st18, deck] at *
  simp only [Tm.cells, Tm.node, Tm.kind, Tm.args, Tm.ty, Ty.cells, Ty.kind, Ty.args, List.map_nil, List.map_cons, Int.cast_ofNat_Int] at hc ⊢
  rw [s.cells_eq] at ha ⊢
  rw [u.cells_eq] at hb ⊢
  rw [a.cells_eq] at ha hc ⊢
  rw [b.cells_eq] at hb hc ⊢
  refine gg ?_
  refine call ha ?_
  refine gg ?_
  refine call hb ?_
  refine gg ?_
  refine call hc ?_
  refine gg ?_
  refine ⟨by rfl, ?_⟩
  refine gg ?_
  exact ⟨by simp [retIs, resV, resL, resOne, mkTup, getS, getO, rdV, mkAgg, unL, V.un, TI.isAgg, XX_T, tt30], by simp [subO, getO, tt30]⟩
theorem tail_ok (L : List Int) (at_ : Nat) (g : List Ty) (t : Ty) (d : Int) (hL : L.length ≤ 500) (ht : t.plain) (hd : -100 ≤ d ∧ d ≤ 100) (hgp : ∀ s ∈ g, s.plain) (hs : Sub18 L g t d) : Goes (right (right (right (right c18)))) L at_ g t d := by
  rcases id ht with (rfl | rfl | rfl) | rfl | rfl
  · exact tail_nat L at_ g d hL hd hgp hs
  · exact tail_list L at_ g d hL hd hgp hs
  · exact tail_unit L at_ g d
  · exact tail_pair L at_ g _ _ d ht hd hgp hs
  · exact tail_pair L at_ g _ _ d ht hd hgp hs
end Go.Proofs.YtodjpfpmhjdhbaaGreatDoor
namespace Go.Proofs.YtodjpfpmhjdhbaaGreatDoor
open Go.Lg
set_option maxRecDepth 10000
set_option maxHeartbeats 4000000
theorem pick7_base (n : Nat) : (pick7 n).base := by
  unfold pick7 Ty.base
  split
  · simp
  · split <;> simp
theorem plain_app {g l : List Ty} (h : ∀ s ∈ g, s.plain) (h' : ∀ s ∈ l, s.plain) : ∀ s ∈ g ++ l, s.plain := by
  intro s hs
  rcases List.mem_append.1 hs with hs | hs
  · exact h s hs
  · exact h' s hs
/-- a function that is applied at once -/
theorem cont_0 (L : List Int) (at_ : Nat) (g : List Ty) (t : Ty) (d : Int) (hL : L.length ≤ 500) (ht : t.plain) (hd : -100 ≤ d ∧ d ≤ 100) (hgl : g.length ≤ 90) (hgp : ∀ s ∈ g, s.plain) (hs : Sub18 L g t d) (h : 0 < d) (h0 : nxv L at_ 8 = 0) : Goes (right (right (right c18))) L at_ g t d := by
  have h8 := next_ok L at_ 8 hL (by omega)
  rw [h0] at h8
  generalize nxa L at_ 8 = at1 at *
  have hsz := Sz_pos h
  have h7 := type_ok L at1 hL
  have hb := pick7_base (nxv L at1 7)
  generalize pick7 (nxv L at1 7) = s at *
  generalize nxa L at1 7 = at2 at *
  have hl := longer_ok g [s] (by omega) (by simp)
  obtain ⟨a, at3, ga, ha⟩ := hs (g ++ [s]) t at2 (plain_app hgp (by simpa using .inl hb)) ht (.inl h) (by simp)
  obtain ⟨b, at4, gb, hb'⟩ := hs g s at3 hgp (.inl hb) (.inl h) (by omega)
  have h1 := tn_ok (.lam s a) rfl
  have h2 := nn_ok (.app (.lam s a) b) rfl rfl
  have sa := ga.size
  have sb := gb.size
  have hgood := Ty.plain_good (.inl hb)
  refine ⟨.app (.lam s a) b, at4, ⟨.app (.lam ga.ty) gb.ty, by simp [Tm.wf, ga.wf, gb.wf, hgood], by simp [Tm.size]; omega, by omega⟩, ?_⟩
  clear ga gb hs hgp ht hb hgood h0
  simp only [right, c18, Tryz.f37, Option.getD_some, X18, st18, deck] at *
  simp only [Tm.cells, Tm.node, Tm.kind, Tm.args, Tm.ty, Ty.cells, Ty.kind, Ty.args, List.map_nil, List.map_cons, Int.cast_ofNat_Int] at h8 h7 hl h1 h2 ⊢
  rw [s.cells_eq] at h7 hl h1 hb'
  rw [t.cells_eq] at ha ⊢
  rw [a.cells_eq] at ha h1 h2 ⊢
  rw [b.cells_eq] at hb' h2 ⊢
  refine gg ?_
  refine call h8 ?_
  refine gg ?_
  refine call h7 ?_
  refine gg ?_
  refine call hl ?_
  refine gg ?_
  refine call ha ?_
  refine gg ?_
  refine call h1 ?_
  refine gg ?_
  refine call hb' ?_
  refine gg ?_
  refine call h2 ?_
  refine gg ?_
  refine ⟨by rfl, ?_⟩
  refine gg ?_
  exact ⟨by simp [retIs, resV, resL, resOne, mkTup, getS, getO, rdV, mkAgg, unL, V.un, TI.isAgg, XX_T, tt30], by simp [subO, getO, tt30]⟩
end Go.Proofs.YtodjpfpmhjdhbaaGreatDoor
