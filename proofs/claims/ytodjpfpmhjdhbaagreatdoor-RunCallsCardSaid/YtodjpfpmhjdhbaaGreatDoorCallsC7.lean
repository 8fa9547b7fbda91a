/- Part of the proof: contracts of the types, terms, the generator and the compiler; no conditions. -/
import Derived.Test.YtodjpfpmhjdhbaaGreatDoorCallsC6
set_option linter.unusedVariables false
set_option linter.unusedSimpArgs false
set_option linter.unusedSectionVars false
namespace Go.Proofs.YtodjpfpmhjdhbaaGreatDoor
open Go.Lg
set_option maxRecDepth 10000
set_option maxHeartbeats 4000000
theorem cont_1 (L : List Int) (at_ : Nat) (g : List Ty) (t : Ty) (d : Int) (hL : L.length ≤ 500) (ht : t.plain) (hd : -100 ≤ d ∧ d ≤ 100) (hgl : g.length ≤ 90) (hgp : ∀ s ∈ g, s.plain) (hs : Sub18 L g t d) (h : 0 < d) (h0 : nxv L at_ 8 = 1) : Goes (right (right (right c18))) L at_ g t d := by
  have h8 := next_ok L at_ 8 hL (by omega)
  rw [h0] at h8
  generalize nxa L at_ 8 = at1 at *
  have hsz := Sz_pos h
  have h7 := type_ok L at1 hL
  have hb := pick7_base (nxv L at1 7)
  generalize pick7 (nxv L at1 7) = s at *
  generalize nxa L at1 7 = at2 at *
  obtain ⟨a, at3, ga, ha⟩ := hs g t at2 hgp ht (.inl h) (by omega)
  obtain ⟨b, at4, gb, hb'⟩ := hs g s at3 hgp (.inl hb) (.inl h) (by omega)
  have h1 := nn_ok (.pair a b) rfl rfl
  have h2 := nn_ok (.fst (.pair a b)) rfl rfl
  have sa := ga.size
  have sb := gb.size
  refine ⟨.fst (.pair a b), at4, ⟨.fst (.pair ga.ty gb.ty), by simp [Tm.wf, ga.wf, gb.wf], by simp [Tm.size]; omega, by omega⟩, ?_⟩
  clear ga gb hs hgp ht hb h0
  simp only [right, c18, Tryz.f37, Option.getD_some, X18, st18, deck] at *
  simp only [Tm.cells, Tm.node, Tm.kind, Tm.args, Tm.ty, Ty.cells, Ty.kind, Ty.args, List.map_nil, List.map_cons, Int.cast_ofNat_Int] at h8 h7 h1 h2 ⊢
  rw [s.cells_eq] at h7 hb'
  rw [t.cells_eq] at ha ⊢
  rw [a.cells_eq] at ha h1 h2 ⊢
  rw [b.cells_eq] at hb' h1 h2 ⊢
  refine gg ?_
  refine call h8 ?_
  refine gg ?_
  refine call h7 ?_
  refine gg ?_
  refine call ha ?_
  refine gg ?_
  refine call hb' ?_
  refine gg ?_
  refine call h1 ?_
  refine gg ?_
  refine call h2 ?_
  refine gg ?_
  refine ⟨by rfl, ?_⟩
  refine gg ?_
  exact ⟨by simp [retIs, resV, resL, resOne, mkTup, getS, getO, rdV, mkAgg, unL, V.un, TI.isAgg, XX_T, tt30], by simp [subO, getO, tt30]⟩
theorem cont_4 (L : List Int) (at_ : Nat) (g : List Ty) (t : Ty) (d : Int) (hL : L.length ≤ 500) (ht : t.plain) (hd : -100 ≤ d ∧ d ≤ 100) (hgl : g.length ≤ 90) (hgp : ∀ s ∈ g, s.plain) (hs : Sub18 L g t d) (h : 0 < d) (h0 : nxv L at_ 8 = 4) : Goes (right (right (right c18))) L at_ g t d := by
  have h8 := next_ok L at_ 8 hL (by omega)
  rw [h0] at h8
  generalize nxa L at_ 8 = at1 at *
  have hsz := Sz_pos h
  have h7 := type_ok L at1 hL
  have hb := pick7_base (nxv L at1 7)
  generalize pick7 (nxv L at1 7) = s at *
  generalize nxa L at1 7 = at2 at *
  obtain ⟨a, at3, ga, ha⟩ := hs g s at2 hgp (.inl hb) (.inl h) (by omega)
  obtain ⟨b, at4, gb, hb'⟩ := hs g t at3 hgp ht (.inl h) (by omega)
  have h1 := nn_ok (.pair a b) rfl rfl
  have h2 := nn_ok (.snd (.pair a b)) rfl rfl
  have sa := ga.size
  have sb := gb.size
  refine ⟨.snd (.pair a b), at4, ⟨.snd (.pair ga.ty gb.ty), by simp [Tm.wf, ga.wf, gb.wf], by simp [Tm.size]; omega, by omega⟩, ?_⟩
  clear ga gb hs hgp ht hb h0
  simp only [right, c18, Tryz.f37, Option.getD_some, X18, st18, deck] at *
  simp only [Tm.cells, Tm.node, Tm.kind, Tm.args, Tm.ty, Ty.cells, Ty.kind, Ty.args, List.map_nil, List.map_cons, Int.cast_ofNat_Int] at h8 h7 h1 h2 ⊢
  rw [s.cells_eq] at h7 ha
  rw [t.cells_eq] at hb' ⊢
  rw [a.cells_eq] at ha h1 h2 ⊢
  rw [b.cells_eq] at hb' h1 h2 ⊢
  refine gg ?_
  refine call h8 ?_
  refine gg ?_
  refine call h7 ?_
  refine gg ?_
  refine call ha ?_
  refine gg ?_
  refine call hb' ?_
  refine gg ?_
  refine call h1 ?_
  refine gg ?_
  refine call h2 ?_
  refine gg ?_
  refine ⟨by rfl, ?_⟩
  refine gg ?_
  exact ⟨by simp [retIs, resV, resL, resOne, mkTup, getS, getO, rdV, mkAgg, unL, V.un, TI.isAgg, XX_T, tt30], by simp [subO, getO, tt30]⟩
end Go.Proofs.YtodjpfpmhjdhbaaGreatDoor
namespace Go.Proofs.YtodjpfpmhjdhbaaGreatDoor
open Go.Lg
set_option maxRecDepth 10000
set_option maxHeartbeats 4000000
theorem num_wf : ∀ n, (numT n).wf = true
  | 0 => rfl
  | n + 1 => num_wf n
theorem num_ty (g : List Ty) : ∀ n, HasTy g (numT n) .nat
  | 0 => .zero
  | n + 1 => .succ (num_ty g n)
theorem num_size : ∀ n, (numT n).size = n + 1
  | 0 => rfl
  | n + 1 => by simp only [numT, Tm.size, num_size n]; omega
theorem cont_2 (L : List Int) (at_ : Nat) (g : List Ty) (t : Ty) (d : Int) (hL : L.length ≤ 500) (ht : t.plain) (hd : -100 ≤ d ∧ d ≤ 100) (hgl : g.length ≤ 90) (hgp : ∀ s ∈ g, s.plain) (hs : Sub18 L g t d) (h : 0 < d) (h0 : nxv L at_ 8 = 2) : Goes (right (right (right c18))) L at_ g t d := by
  have h8 := next_ok L at_ 8 hL (by omega)
  rw [h0] at h8
  generalize nxa L at_ 8 = at1 at *
  have hsz := Sz_pos h
  have hnat := nat_ok
  have hl := longer_ok g [.nat, t] (by omega) (by simp)
  obtain ⟨a, at3, ga, ha⟩ := hs (g ++ [.nat, t]) t at1 (plain_app hgp (by simp; exact ⟨.inl (.inl rfl), ht⟩)) ht (.inl h) (by simp)
  obtain ⟨b, at4, gb, hb⟩ := hs g t at3 hgp ht (.inl h) (by omega)
  have h3 := next_ok L at4 3 hL (by omega)
  have hm := nxv_lt L at4 3 (by omega)
  generalize nxv L at4 3 = m at *
  generalize nxa L at4 3 = at5 at *
  have hnum := num_ok m (by omega)
  have h1 := tn_ok (.lam t a) rfl
  have h2 := tn_ok (.lam .nat (.lam t a)) rfl
  have hr := tn_ok (.recn t b (.lam .nat (.lam t a)) (numT m)) rfl
  have sa := ga.size
  have sb := gb.size
  have hns := num_size m
  have hgood := Ty.plain_good ht
  have hta : HasTy ((g ++ [.nat]) ++ [t]) a t := by simpa using ga.ty
  refine ⟨.recn t b (.lam .nat (.lam t a)) (numT m), at5, ⟨.recn gb.ty (.lam (.lam hta)) (num_ty g m), ?_, by simp [Tm.size]; omega, by omega⟩, ?_⟩
  · simp only [Tm.wf, ga.wf, gb.wf, hgood, num_wf]; rfl
  clear ga gb hs hgp ht hgood h0 hta
  simp only [right, c18, Tryz.f37, Option.getD_some, X18, st18, deck] at *
  simp only [Tm.cells, Tm.node, Tm.kind, Tm.args, Tm.ty, Ty.cells, Ty.kind, Ty.args, List.map_nil, List.map_cons, Int.cast_ofNat_Int] at h8 h3 hnat hl h1 h2 hr ⊢
  rw [(numT m).cells_eq] at hnum hr ⊢
  rw [t.cells_eq] at ha hb hl h1 hr ⊢
  rw [a.cells_eq] at ha h1 h2 hr ⊢
  rw [b.cells_eq] at hb hr ⊢
  refine gg ?_
  refine call h8 ?_
  refine gg ?_
  refine call hnat ?_
  refine gg ?_
  refine call hnat ?_
  refine gg ?_
  refine call hl ?_
  refine gg ?_
  refine call ha ?_
  refine gg ?_
  refine call h1 ?_
  refine gg ?_
  refine call h2 ?_
  refine gg ?_
  refine ⟨by rfl, ?_⟩
  refine gg ?_
  refine call hb ?_
  refine gg ?_
  refine call h3 ?_
  refine gg ?_
  refine call hnum ?_
  refine gg ?_
  refine call hr ?_
  refine gg ?_
  refine ⟨by rfl, ?_⟩
  refine gg ?_
  exact ⟨by simp [retIs, resV, resL, resOne, mkTup, getS, getO, rdV, mkAgg, unL, V.un, TI.isAgg, XX_T, tt30], by simp [subO, getO, tt30]⟩
theorem cont_3 (L : List Int) (at_ : Nat) (g : List Ty) (t : Ty) (d : Int) (hL : L.length ≤ 500) (ht : t.plain) (hd : -100 ≤ d ∧ d ≤ 100) (hgl : g.length ≤ 90) (hgp : ∀ s ∈ g, s.plain) (hs : Sub18 L g t d) (h : 0 < d) (h0 : nxv L at_ 8 = 3) : Goes (right (right (right c18))) L at_ g t d := by
  have h8 := next_ok L at_ 8 hL (by omega)
  rw [h0] at h8
  generalize nxa L at_ 8 = at1 at *
  have hsz := Sz_pos h
  have hnat := nat_ok
  have hlist := list_ok
  have hl := longer_ok g [.nat, .list, t] (by omega) (by simp)
  obtain ⟨a, at3, ga, ha⟩ := hs (g ++ [.nat, .list, t]) t at1 (plain_app hgp (by simp; exact ⟨.inl (.inl rfl), .inl (.inr (.inl rfl)), ht⟩)) ht (.inl h) (by simp)
  obtain ⟨b, at4, gb, hb⟩ := hs g t at3 hgp ht (.inl h) (by omega)
  obtain ⟨c, at5, gc, hc⟩ := hs g .list at4 hgp (.inl (.inr (.inl rfl))) (.inl h) (by omega)
  have h1 := tn_ok (.lam t a) rfl
  have h2 := tn_ok (.lam .list (.lam t a)) rfl
  have h3 := tn_ok (.lam .nat (.lam .list (.lam t a))) rfl
  have hr := tn_ok (.fold t b (.lam .nat (.lam .list (.lam t a))) c) rfl
  have sa := ga.size
  have sb := gb.size
  have sc := gc.size
  have hgood := Ty.plain_good ht
  have hta : HasTy (((g ++ [.nat]) ++ [.list]) ++ [t]) a t := by simpa using ga.ty
  refine ⟨.fold t b (.lam .nat (.lam .list (.lam t a))) c, at5, ⟨.fold gb.ty (.lam (.lam (.lam hta))) gc.ty, ?_, by simp [Tm.size]; omega, by omega⟩, ?_⟩
  · simp only [Tm.wf, ga.wf, gb.wf, gc.wf, hgood]; rfl
  clear ga gb gc hs hgp ht hgood h0 hta
  simp only [right, c18, Tryz.f37, Option.getD_some, X18, st18, deck] at *
  simp only [Tm.cells, Tm.node, Tm.kind, Tm.args, Tm.ty, Ty.cells, Ty.kind, Ty.args, List.map_nil, List.map_cons, Int.cast_ofNat_Int] at h8 h3 hnat hlist hl hc h1 h2 hr ⊢
  rw [t.cells_eq] at ha hb hl h1 hr ⊢
  rw [a.cells_eq] at ha h1 h2 h3 hr ⊢
  rw [b.cells_eq] at hb hr ⊢
  rw [c.cells_eq] at hc hr ⊢
  refine gg ?_
  refine call h8 ?_
  refine gg ?_
  refine call hnat ?_
  refine gg ?_
  refine call hlist ?_
  refine gg ?_
  refine call hnat ?_
  refine gg ?_
  refine call hlist ?_
  refine gg ?_
  refine call hl ?_
  refine gg ?_
  refine call ha ?_
  refine gg ?_
  refine call h1 ?_
  refine gg ?_
  refine call h2 ?_
  refine gg ?_
  refine call h3 ?_
  refine gg ?_
  refine ⟨by rfl, ?_⟩
  refine gg ?_
  refine call hb ?_
  refine gg ?_
  refine call hlist ?_
  refine gg ?_
  refine call hc ?_
  refine gg ?_
  refine call hr ?_
  refine gg ?_
  refine ⟨by rfl, ?_⟩
  refine gg ?_
  exact ⟨by simp [retIs, resV, resL, resOne, mkTup, getS, getO, rdV, mkAgg, unL, V.un, TI.isAgg, XX_T, tt30], by simp [subO, getO, tt30]⟩
end Go.Proofs.YtodjpfpmhjdhbaaGreatDoor
namespace Go.Proofs.YtodjpfpmhjdhbaaGreatDoor
open Go.Lg
set_option maxRecDepth 10000
set_option maxHeartbeats 4000000
def left : Code → Code
  | .seq a _ => a
  | c => c
theorem cont_low (L : List Int) (at_ : Nat) (g : List Ty) (t : Ty) (d : Int) (hL : L.length ≤ 500) (ht : t.plain) (hd : -100 ≤ d ∧ d ≤ 100) (hgl : g.length ≤ 90) (hgp : ∀ s ∈ g, s.plain) (hs : Sub18 L g t d) (h : ¬ 0 < d) : Goes (right (right (right c18))) L at_ g t d := by
  obtain ⟨tm, at', hg, hw⟩ := tail_ok L at_ g t d hL ht hd hgp hs
  refine ⟨tm, at', hg, ?_⟩
  clear hs hg hgp
  have e : right (right (right c18)) = .seq (left (right (right (right c18)))) (right (right (right (right c18)))) := rfl
  rw [e]
  refine ex_seq ?_
  generalize right (right (right (right c18))) = tl at *
  clear e
  simp only [left, right, c18, Tryz.f37, Option.getD_some, X18, st18, deck] at *
  rw [t.cells_eq] at hw ⊢
  refine gg ?_
  refine kp [0, 1, 3, 6, 8] [8, 900] ?_
  exact hw
theorem cont_67 (L : List Int) (at_ : Nat) (g : List Ty) (t : Ty) (d : Int) (hL : L.length ≤ 500) (ht : t.plain) (hd : -100 ≤ d ∧ d ≤ 100) (hgl : g.length ≤ 90) (hgp : ∀ s ∈ g, s.plain) (hs : Sub18 L g t d) (h : 0 < d) (h0 : nxv L at_ 8 = 6 ∨ nxv L at_ 8 = 7) : Goes (right (right (right c18))) L at_ g t d := by
  have h8 := next_ok L at_ 8 hL (by omega)
  obtain ⟨tm, at', hg, hw⟩ := tail_ok L (nxa L at_ 8) g t d hL ht hd hgp hs
  generalize nxa L at_ 8 = at1 at *
  refine ⟨tm, at', hg, ?_⟩
  clear hs hg hgp
  have e : right (right (right c18)) = .seq (left (right (right (right c18)))) (right (right (right (right c18)))) := rfl
  rw [e]
  refine ex_seq ?_
  generalize right (right (right (right c18))) = tl at *
  clear e
  simp only [left, right, c18, Tryz.f37, Option.getD_some, X18, st18, deck] at *
  rw [t.cells_eq] at hw ⊢
  rcases h0 with h0 | h0
  all_goals rw [h0] at h8
  all_goals simp only [Int.cast_ofNat_Int] at h8
  all_goals refine gg ?_
  all_goals refine call h8 ?_
  all_goals refine gg ?_
  all_goals refine kp [0, 1, 3, 6, 8] [8, 900] ?_
  all_goals exact hw
theorem cont_5 (L : List Int) (at_ : Nat) (g : List Ty) (t : Ty) (d : Int) (hL : L.length ≤ 500) (ht : t.plain) (hd : -100 ≤ d ∧ d ≤ 100) (hgl : g.length ≤ 90) (hgp : ∀ s ∈ g, s.plain) (hs : Sub18 L g t d) (h : 0 < d) (h0 : nxv L at_ 8 = 5) : Goes (right (right (right c18))) L at_ g t d := by
  have h8 := next_ok L at_ 8 hL (by omega)
  obtain ⟨tm, at', hg, hw⟩ := tail_ok L (nxa L at_ 8) g t d hL ht hd hgp hs
  generalize nxa L at_ 8 = at1 at *
  refine ⟨tm, at', hg, ?_⟩
  clear hs hg
  have e : right (right (right c18)) = .seq (left (right (right (right c18)))) (right (right (right (right c18)))) := rfl
  rw [e]
  refine ex_seq ?_
  generalize right (right (right (right c18))) = tl at *
  clear e
  simp only [left, right, c18, Tryz.f37, Option.getD_some, X18, st18, deck] at *
  rw [t.cells_eq] at hw ⊢
  rw [h0] at h8
  simp only [Int.cast_ofNat_Int] at h8
  have hal := Ty.all_len g
  have hlen : (g.map Ty.cells).length = g.length := by simp
  refine gg ?_
  refine call h8 ?_
  refine gg ?_
  refine AWP.loopN g.length (fun k => ⟨[(0, .loc 900 0), (1, .pv (.slice (g.map Ty.cells))), (3, .pv (.int d)), (6, .pv (.ptr [.int t.kind, .slice (t.args.map Ty.cells)])), (8, .loc 8 0), (176, .pv (.int g.length)), (177, .pv (.int k))],
    [(8, .box [.pv (.int 0), .pv (.int 0), .pv (.int 0), .pv (.slice []), .pv (.slice [])]), (900, .box [.pv (.slice (ints L)), .pv (.int at1)])], [8, 900]⟩) ⟨by simp [slotsLe, getS], by simp [subO, getO], by simp [subL, namesSl, V.names, namesOb, Ob.names, namesL, namesE, namesE_pvE, XX_given]⟩ ?_
  intro k hk
  by_cases hkl : k < g.length
  · have h' : (k : Int) < g.length := by omega
    obtain ⟨a, hka⟩ : ∃ a, g[g.length - 1 - k]? = some a := ⟨_, List.getElem?_eq_getElem (by omega)⟩
    have hget := getD_map (f := Ty.cells) (d := []) hka
    have hi : ((g.length : Int) - 1 - k).toNat = g.length - 1 - k := by omega
    have hp := hgp a (List.mem_of_getElem? hka)
    have hk4 : ¬ a.kind = 4 := by rcases hp with (rfl | rfl | rfl) | rfl | rfl <;> decide
    rw [Ty.cells_eq] at hget
    have hb1 : (0 : Int) ≤ (g.length : Int) - 1 - k := by omega
    have hb2 : (g.length : Int) - 1 - k < g.length := by omega
    clear hka hp hgp hw
    refine gg ?_
    refine ⟨by rfl, ?_⟩
    refine gg ?_
    exact ⟨hkl, ⟨by simp [slotsLe, getS], by simp [subO, getO], by simp [subL, namesSl, V.names, namesOb, Ob.names, namesL, namesE, namesE_pvE, XX_given]⟩⟩
  · have h' : ¬ (k : Int) < g.length := by omega
    clear hgp
    refine gg ?_
    refine kp [0, 1, 3, 6, 8] [8, 900] ?_
    exact hw
end Go.Proofs.YtodjpfpmhjdhbaaGreatDoor
