/- Part of the proof: contracts of the evaluator, of values and of the inference of types; no conditions. -/
import Derived.Test.YtodjpfpmhjdhbaaGreatDoorCallsF8
set_option linter.unusedVariables false
set_option linter.unusedSimpArgs false
set_option linter.unusedSectionVars false
/- Types are inferred (ref02.infer): an argument's type is too large. -/
namespace Go.Proofs.YtodjpfpmhjdhbaaGreatDoor
open Go.Lg
set_option maxRecDepth 10000
set_option maxHeartbeats 4000000
def InE (g : List Ty) (t : Tm) : Prop := AC Tryz.prog gl 118 [.pv (.slice (g.map Ty.cells)), .pv (.agg t.cells)] [] (.ret (.pv (.tuple [.agg [.int 0, .slice []], .int 4]))) []
theorem ierr_0_1 (g : List Ty) (t a : Tm) (hk1 : ¬ t.kind = 1) (hk2 : ¬ t.kind = 2) (hta : t.args = [a]) (h0 : InE g a) : InE g t := by
  have hc := t.cells_eq
  rw [hta] at hc
  simp only [InE, InC] at *
  rw [hc]
  simp only [List.map_cons, List.map_nil]
  rw [Tm.cells_eq a]
  rw [Tm.cells_eq a] at h0
  clear hc hta
  generalize g.map Ty.cells = gs at *
  generalize a.ty.args.map Ty.cells = ta at *
  generalize a.args.map Tm.cells = sa at *
  generalize t.ty.args.map Ty.cells = tta at *
  generalize t.kind = tk at *
  generalize t.idx = ti at *
  generalize t.ty.kind = tyk at *
  refine body [(8, .arr 973 2 27)] Tryz.func118 Tryz.ntmps118 ?_
  refine gg ?_
  refine ex_loop 1 (ex_round ?_)
  refine gg ?_
  refine call h0 ?_
  refine gg ?_
  exact ⟨by simp [retIs, resV, resL, resOne, mkTup, getS, getO, rdV, mkAgg, unL, V.un, TI.isAgg, XX_T, tt27, Tryz.f118], by simp [subO, getO, tt27, Tryz.f118]⟩
theorem ierr_0_2 (g : List Ty) (t a b : Tm) (hk1 : ¬ t.kind = 1) (hk2 : ¬ t.kind = 2) (hta : t.args = [a, b]) (h0 : InE g a) : InE g t := by
  have hc := t.cells_eq
  rw [hta] at hc
  simp only [InE, InC] at *
  rw [hc]
  simp only [List.map_cons, List.map_nil]
  rw [Tm.cells_eq a, Tm.cells_eq b]
  rw [Tm.cells_eq a] at h0
  clear hc hta
  generalize g.map Ty.cells = gs at *
  generalize a.ty.args.map Ty.cells = ta at *
  generalize a.args.map Tm.cells = sa at *
  generalize b.ty.args.map Ty.cells = tb at *
  generalize b.args.map Tm.cells = sb at *
  generalize t.ty.args.map Ty.cells = tta at *
  generalize t.kind = tk at *
  generalize t.idx = ti at *
  generalize t.ty.kind = tyk at *
  refine body [(8, .arr 973 2 27)] Tryz.func118 Tryz.ntmps118 ?_
  refine gg ?_
  refine ex_loop 1 (ex_round ?_)
  refine gg ?_
  refine call h0 ?_
  refine gg ?_
  exact ⟨by simp [retIs, resV, resL, resOne, mkTup, getS, getO, rdV, mkAgg, unL, V.un, TI.isAgg, XX_T, tt27, Tryz.f118], by simp [subO, getO, tt27, Tryz.f118]⟩
theorem ierr_1_2 (g : List Ty) (t a b : Tm) (r0 : Ty) (hk1 : ¬ t.kind = 1) (hk2 : ¬ t.kind = 2) (hta : t.args = [a, b]) (h0 : InC g a r0) (h1 : InE g b) : InE g t := by
  have hc := t.cells_eq
  rw [hta] at hc
  simp only [InE, InC] at *
  rw [hc]
  simp only [List.map_cons, List.map_nil]
  rw [Tm.cells_eq a, Tm.cells_eq b]
  rw [Tm.cells_eq a] at h0
  rw [Tm.cells_eq b] at h1
  rw [Ty.cells_eq r0] at h0
  generalize r0.args.map Ty.cells = q0 at *
  clear hc hta
  generalize g.map Ty.cells = gs at *
  generalize a.ty.args.map Ty.cells = ta at *
  generalize a.args.map Tm.cells = sa at *
  generalize b.ty.args.map Ty.cells = tb at *
  generalize b.args.map Tm.cells = sb at *
  generalize t.ty.args.map Ty.cells = tta at *
  generalize t.kind = tk at *
  generalize t.idx = ti at *
  generalize t.ty.kind = tyk at *
  refine body [(8, .arr 973 2 27)] Tryz.func118 Tryz.ntmps118 ?_
  refine gg ?_
  refine ex_loop 2 (ex_round ?_)
  refine gg ?_
  refine call h0 ?_
  refine gg ?_
  refine ex_round ?_
  refine kp [0, 3, 4, 5, 8, 67, 68, 69] [4, 973] ?_
  refine gg ?_
  refine call h1 ?_
  refine gg ?_
  exact ⟨by simp [retIs, resV, resL, resOne, mkTup, getS, getO, rdV, mkAgg, unL, V.un, TI.isAgg, XX_T, tt27, Tryz.f118], by simp [subO, getO, tt27, Tryz.f118]⟩
theorem ierr_0_3 (g : List Ty) (t a b d : Tm) (hk1 : ¬ t.kind = 1) (hk2 : ¬ t.kind = 2) (hta : t.args = [a, b, d]) (h0 : InE g a) : InE g t := by
  have hc := t.cells_eq
  rw [hta] at hc
  simp only [InE, InC] at *
  rw [hc]
  simp only [List.map_cons, List.map_nil]
  rw [Tm.cells_eq a, Tm.cells_eq b, Tm.cells_eq d]
  rw [Tm.cells_eq a] at h0
  clear hc hta
  generalize g.map Ty.cells = gs at *
  generalize a.ty.args.map Ty.cells = ta at *
  generalize a.args.map Tm.cells = sa at *
  generalize b.ty.args.map Ty.cells = tb at *
  generalize b.args.map Tm.cells = sb at *
  generalize d.ty.args.map Ty.cells = td at *
  generalize d.args.map Tm.cells = sd at *
  generalize t.ty.args.map Ty.cells = tta at *
  generalize t.kind = tk at *
  generalize t.idx = ti at *
  generalize t.ty.kind = tyk at *
  refine body [(8, .arr 973 2 27)] Tryz.func118 Tryz.ntmps118 ?_
  refine gg ?_
  refine ex_loop 1 (ex_round ?_)
  refine gg ?_
  refine call h0 ?_
  refine gg ?_
  exact ⟨by simp [retIs, resV, resL, resOne, mkTup, getS, getO, rdV, mkAgg, unL, V.un, TI.isAgg, XX_T, tt27, Tryz.f118], by simp [subO, getO, tt27, Tryz.f118]⟩
theorem ierr_1_3 (g : List Ty) (t a b d : Tm) (r0 : Ty) (hk1 : ¬ t.kind = 1) (hk2 : ¬ t.kind = 2) (hta : t.args = [a, b, d]) (h0 : InC g a r0) (h1 : InE g b) : InE g t := by
  have hc := t.cells_eq
  rw [hta] at hc
  simp only [InE, InC] at *
  rw [hc]
  simp only [List.map_cons, List.map_nil]
  rw [Tm.cells_eq a, Tm.cells_eq b, Tm.cells_eq d]
  rw [Tm.cells_eq a] at h0
  rw [Tm.cells_eq b] at h1
  rw [Ty.cells_eq r0] at h0
  generalize r0.args.map Ty.cells = q0 at *
  clear hc hta
  generalize g.map Ty.cells = gs at *
  generalize a.ty.args.map Ty.cells = ta at *
  generalize a.args.map Tm.cells = sa at *
  generalize b.ty.args.map Ty.cells = tb at *
  generalize b.args.map Tm.cells = sb at *
  generalize d.ty.args.map Ty.cells = td at *
  generalize d.args.map Tm.cells = sd at *
  generalize t.ty.args.map Ty.cells = tta at *
  generalize t.kind = tk at *
  generalize t.idx = ti at *
  generalize t.ty.kind = tyk at *
  refine body [(8, .arr 973 2 27)] Tryz.func118 Tryz.ntmps118 ?_
  refine gg ?_
  refine ex_loop 2 (ex_round ?_)
  refine gg ?_
  refine call h0 ?_
  refine gg ?_
  refine ex_round ?_
  refine kp [0, 3, 4, 5, 8, 67, 68, 69] [4, 973] ?_
  refine gg ?_
  refine call h1 ?_
  refine gg ?_
  exact ⟨by simp [retIs, resV, resL, resOne, mkTup, getS, getO, rdV, mkAgg, unL, V.un, TI.isAgg, XX_T, tt27, Tryz.f118], by simp [subO, getO, tt27, Tryz.f118]⟩
theorem ierr_2_3 (g : List Ty) (t a b d : Tm) (r0 r1 : Ty) (hk1 : ¬ t.kind = 1) (hk2 : ¬ t.kind = 2) (hta : t.args = [a, b, d]) (h0 : InC g a r0) (h1 : InC g b r1) (h2 : InE g d) : InE g t := by
  have hc := t.cells_eq
  rw [hta] at hc
  simp only [InE, InC] at *
  rw [hc]
  simp only [List.map_cons, List.map_nil]
  rw [Tm.cells_eq a, Tm.cells_eq b, Tm.cells_eq d]
  rw [Tm.cells_eq a] at h0
  rw [Tm.cells_eq b] at h1
  rw [Tm.cells_eq d] at h2
  rw [Ty.cells_eq r0] at h0
  generalize r0.args.map Ty.cells = q0 at *
  rw [Ty.cells_eq r1] at h1
  generalize r1.args.map Ty.cells = q1 at *
  clear hc hta
  generalize g.map Ty.cells = gs at *
  generalize a.ty.args.map Ty.cells = ta at *
  generalize a.args.map Tm.cells = sa at *
  generalize b.ty.args.map Ty.cells = tb at *
  generalize b.args.map Tm.cells = sb at *
  generalize d.ty.args.map Ty.cells = td at *
  generalize d.args.map Tm.cells = sd at *
  generalize t.ty.args.map Ty.cells = tta at *
  generalize t.kind = tk at *
  generalize t.idx = ti at *
  generalize t.ty.kind = tyk at *
  refine body [(8, .arr 973 2 27)] Tryz.func118 Tryz.ntmps118 ?_
  refine gg ?_
  refine ex_loop 3 (ex_round ?_)
  refine gg ?_
  refine call h0 ?_
  refine gg ?_
  refine ex_round ?_
  refine kp [0, 3, 4, 5, 8, 67, 68, 69] [4, 973] ?_
  refine gg ?_
  refine call h1 ?_
  refine gg ?_
  refine ex_round ?_
  refine kp [0, 3, 4, 5, 8, 67, 68, 69] [4, 973] ?_
  refine gg ?_
  refine call h2 ?_
  refine gg ?_
  exact ⟨by simp [retIs, resV, resL, resOne, mkTup, getS, getO, rdV, mkAgg, unL, V.un, TI.isAgg, XX_T, tt27, Tryz.f118], by simp [subO, getO, tt27, Tryz.f118]⟩
end Go.Proofs.YtodjpfpmhjdhbaaGreatDoor
/- Types are inferred (ref02.infer): the type of a function or of a pair is too large; what comes of every typed term; ref02.TypeOf. -/
namespace Go.Proofs.YtodjpfpmhjdhbaaGreatDoor
open Go.Lg
set_option maxRecDepth 10000
set_option maxHeartbeats 4000000
theorem ipair_big (g : List Ty) (a b : Tm) (s t : Ty) (ha : InC g a s) (hb : InC g b t) (ho : (Ty.pair s t).ok = true) (hz : 64 < (Ty.pair s t).size) (hy : (Ty.pair s t).size ≤ 1000) : InE g (.pair a b) := by
  have h1 := nat_ok
  have h2 := list_ok
  have h3 := two_ok s t
  have h4 := tok_big (.pair s t) ho hz hy
  have ec : (Tm.pair a b).cells = [.int 10, .int 0, .int 0, .slice [], .slice [a.cells, b.cells]] := by rw [Tm.cells_eq]; rfl
  unfold InC at *
  unfold InE
  rw [ec]
  rw [Tm.cells_eq a, Tm.cells_eq b]
  rw [Tm.cells_eq a] at ha
  rw [Tm.cells_eq b] at hb
  simp only [Ty.cells] at *
  rw [Ty.cells_eq s, Ty.cells_eq t] at h3 h4
  rw [Ty.cells_eq s] at ha
  rw [Ty.cells_eq t] at hb
  clear ec
  generalize s.args.map Ty.cells = ss at *
  generalize t.args.map Ty.cells = tq at *
  generalize a.ty.args.map Ty.cells = ta at *
  generalize a.args.map Tm.cells = sa at *
  generalize b.ty.args.map Ty.cells = tb at *
  generalize b.args.map Tm.cells = sb at *
  generalize g.map Ty.cells = gs at *
  refine body [(8, .arr 973 2 27)] Tryz.func118 Tryz.ntmps118 ?_
  refine gg ?_
  refine ex_loop 3 (ex_round ?_)
  refine gg ?_
  refine call ha ?_
  refine gg ?_
  refine ex_round ?_
  refine kp [0, 3, 4, 5, 8, 67, 68, 69] [4, 973] ?_
  refine gg ?_
  refine call hb ?_
  refine gg ?_
  refine ex_round ?_
  refine kp [0, 3, 4, 5, 8, 67, 68, 69] [4, 973] ?_
  refine gg ?_
  refine call h1 ?_
  refine gg ?_
  refine call h2 ?_
  refine gg ?_
  refine call h3 ?_
  refine gg ?_
  refine call h4 ?_
  refine gg ?_
  refine ⟨by rfl, ?_⟩
  refine gg ?_
  exact ⟨by simp [retIs, resV, resL, resOne, mkTup, getS, getO, rdV, mkAgg, unL, V.un, TI.isAgg, XX_T, tt27, Tryz.f118], by simp [subO, getO, tt27, Tryz.f118]⟩
theorem ilam_big (g : List Ty) (s : Ty) (b : Tm) (t : Ty) (hb : InC (g ++ [s]) b t) (ho : (Ty.fn s t).ok = true) (hz : 64 < (Ty.fn s t).size) (hy : (Ty.fn s t).size ≤ 1000) (hl : g.length ≤ 5000) : InE g (.lam s b) := by
  have h3 := fun_ok s t
  have h4 := tok_big (.fn s t) ho hz hy
  have ec : (Tm.lam s b).cells = [.int 2, .int 0, .int s.kind, .slice (s.args.map Ty.cells), .slice [b.cells]] := by rw [Tm.cells_eq]; rfl
  have hle : (g.map Ty.cells).length = g.length := by simp
  have hal : ∀ y ∈ g.map Ty.cells, y.length = 2 := by
    intro y hy
    obtain ⟨s, _, rfl⟩ := List.mem_map.1 hy
    rw [Ty.cells_eq]; rfl
  unfold InC at *
  unfold InE
  rw [ec]
  rw [Tm.cells_eq b] at *
  simp only [Ty.cells, List.map_append, List.map_cons, List.map_nil] at *
  rw [Ty.cells_eq s] at hb
  rw [Ty.cells_eq s, Ty.cells_eq t] at h3 h4
  rw [Ty.cells_eq t] at hb
  clear ec
  generalize s.args.map Ty.cells = ss at *
  generalize t.args.map Ty.cells = ts at *
  generalize b.ty.args.map Ty.cells = tb at *
  generalize b.args.map Tm.cells = sb at *
  generalize g.map Ty.cells = gs at *
  refine body [(8, .arr 973 2 27)] Tryz.func118 Tryz.ntmps118 ?_
  refine gg ?_
  refine go ?_ (hc := by simp only [buildC, and_true, true_and, implies_true, true_implies, and_self]; exact ⟨hal, by unfold maxLen; omega, by omega⟩)
  refine gg ?_
  refine call hb ?_
  refine gg ?_
  refine ⟨by rfl, ?_⟩
  refine gg ?_
  refine call h3 ?_
  refine gg ?_
  refine call h4 ?_
  refine gg ?_
  exact ⟨by simp [retIs, resV, resL, resOne, mkTup, getS, getO, rdV, mkAgg, unL, V.un, TI.isAgg, XX_T, tt27, Tryz.f118], by simp [subO, getO, tt27, Tryz.f118]⟩
theorem ilam_err (g : List Ty) (s : Ty) (b : Tm) (hb : InE (g ++ [s]) b) (hl : g.length ≤ 5000) : InE g (.lam s b) := by
  have ec : (Tm.lam s b).cells = [.int 2, .int 0, .int s.kind, .slice (s.args.map Ty.cells), .slice [b.cells]] := by rw [Tm.cells_eq]; rfl
  have hle : (g.map Ty.cells).length = g.length := by simp
  have hal : ∀ y ∈ g.map Ty.cells, y.length = 2 := by
    intro y hy
    obtain ⟨s, _, rfl⟩ := List.mem_map.1 hy
    rw [Ty.cells_eq]; rfl
  unfold InE at *
  rw [ec]
  rw [Tm.cells_eq b] at *
  simp only [List.map_append, List.map_cons, List.map_nil] at *
  rw [Ty.cells_eq s] at hb
  clear ec
  generalize s.args.map Ty.cells = ss at *
  generalize b.ty.args.map Ty.cells = tb at *
  generalize b.args.map Tm.cells = sb at *
  generalize g.map Ty.cells = gs at *
  refine body [(8, .arr 973 2 27)] Tryz.func118 Tryz.ntmps118 ?_
  refine gg ?_
  refine go ?_ (hc := by simp only [buildC, and_true, true_and, implies_true, true_implies, and_self]; exact ⟨hal, by unfold maxLen; omega, by omega⟩)
  refine gg ?_
  refine call hb ?_
  refine gg ?_
  refine ⟨by rfl, ?_⟩
  refine gg ?_
  exact ⟨by simp [retIs, resV, resL, resOne, mkTup, getS, getO, rdV, mkAgg, unL, V.un, TI.isAgg, XX_T, tt27, Tryz.f118], by simp [subO, getO, tt27, Tryz.f118]⟩
theorem good_parts {t : Ty} (h : t.good = true) : t.ok = true ∧ t.size ≤ 64 := by
  unfold Ty.good at h
  simpa using h
theorem good_of {t : Ty} (h1 : t.ok = true) (h2 : t.size ≤ 64) : t.good = true := by
  unfold Ty.good
  simp [h1, h2]
theorem good_fn {s t : Ty} (h : (Ty.fn s t).good = true) : s.good = true ∧ t.good = true := by
  obtain ⟨h1, h2⟩ := good_parts h
  simp only [Ty.ok, Ty.size, Bool.and_eq_true] at h1 h2
  exact ⟨good_of h1.1 (by omega), good_of h1.2 (by omega)⟩
theorem good_pair {s t : Ty} (h : (Ty.pair s t).good = true) : s.good = true ∧ t.good = true := by
  obtain ⟨h1, h2⟩ := good_parts h
  simp only [Ty.ok, Ty.size, Bool.and_eq_true] at h1 h2
  exact ⟨good_of h1.1 (by omega), good_of h1.2 (by omega)⟩
/-- what comes of the inference of a typed term -/
theorem infer_all {g : List Ty} {t : Tm} {τ : Ty} (h : HasTy g t τ) : t.wf = true → (∀ s ∈ g, s.good = true) → g.length + t.size ≤ 5000 → (InC g t τ ∧ τ.good = true) ∨ InE g t := by
  induction h with
  | @var g i t hi =>
    intro hw hg hl
    exact .inl ⟨inf_var g i t hi (by omega), hg _ (by simpa using List.mem_of_getElem? hi)⟩
  | @lam g s b t hb ih =>
    intro hw hg hl
    simp only [Tm.wf, Bool.and_eq_true] at hw
    simp only [Tm.size] at hl
    rcases ih hw.2 (by intro x hx; rcases List.mem_append.1 hx with h | h; exact hg x h; simp at h; subst h; exact hw.1) (by simp; omega) with ⟨h1, h2⟩ | h1
    · obtain ⟨a1, a2⟩ := good_parts hw.1
      obtain ⟨b1, b2⟩ := good_parts h2
      have ho : (Ty.fn s t).ok = true := by simp [Ty.ok, a1, b1]
      by_cases hz : (Ty.fn s t).size ≤ 64
      · exact .inl ⟨inf_lam g s b t h1 ho hz (by omega), good_of ho hz⟩
      · exact .inr (ilam_big g s b t h1 ho (by omega) (by simp only [Ty.size]; omega) (by omega))
    · exact .inr (ilam_err g s b h1 (by omega))
  | @app g f a s t hf ha i1 i2 =>
    intro hw hg hl
    simp only [Tm.wf, Bool.and_eq_true] at hw
    simp only [Tm.size] at hl
    rcases i1 hw.1 hg (by omega) with ⟨h1, h2⟩ | h1
    · rcases i2 hw.2 hg (by omega) with ⟨h3, h4⟩ | h3
      · exact .inl ⟨inf_app g f a s t h1 h3, (good_fn h2).2⟩
      · exact .inr (ierr_1_2 g (.app f a) f a _ (by simp [Tm.kind]) (by simp [Tm.kind]) rfl h1 h3)
    · exact .inr (ierr_0_2 g (.app f a) f a (by simp [Tm.kind]) (by simp [Tm.kind]) rfl h1)
  | @zero g => intro _ _ _; exact .inl ⟨inf_zero g, rfl⟩
  | @succ g a ha ih =>
    intro hw hg hl
    simp only [Tm.wf] at hw
    simp only [Tm.size] at hl
    rcases ih hw hg (by omega) with ⟨h1, h2⟩ | h1
    · exact .inl ⟨inf_succ g a h1, rfl⟩
    · exact .inr (ierr_0_1 g (.succ a) a (by simp [Tm.kind]) (by simp [Tm.kind]) rfl h1)
  | @recn g t a b c ha hb hc i1 i2 i3 =>
    intro hw hg hl
    simp only [Tm.wf, Bool.and_eq_true] at hw
    simp only [Tm.size] at hl
    rcases i1 hw.2.1 hg (by omega) with ⟨h1, h2⟩ | h1
    · rcases i2 hw.2.2.1 hg (by omega) with ⟨h3, h4⟩ | h3
      · rcases i3 hw.2.2.2 hg (by omega) with ⟨h5, h6⟩ | h5
        · exact .inl ⟨inf_recn g t a b c h1 h3 h5, hw.1⟩
        · exact .inr (ierr_2_3 g (.recn t a b c) a b c _ _ (by simp [Tm.kind]) (by simp [Tm.kind]) rfl h1 h3 h5)
      · exact .inr (ierr_1_3 g (.recn t a b c) a b c _ (by simp [Tm.kind]) (by simp [Tm.kind]) rfl h1 h3)
    · exact .inr (ierr_0_3 g (.recn t a b c) a b c (by simp [Tm.kind]) (by simp [Tm.kind]) rfl h1)
  | @nil g => intro _ _ _; exact .inl ⟨inf_nil g, rfl⟩
  | @cons g a b ha hb i1 i2 =>
    intro hw hg hl
    simp only [Tm.wf, Bool.and_eq_true] at hw
    simp only [Tm.size] at hl
    rcases i1 hw.1 hg (by omega) with ⟨h1, h2⟩ | h1
    · rcases i2 hw.2 hg (by omega) with ⟨h3, h4⟩ | h3
      · exact .inl ⟨inf_cons g a b h1 h3, rfl⟩
      · exact .inr (ierr_1_2 g (.cons a b) a b _ (by simp [Tm.kind]) (by simp [Tm.kind]) rfl h1 h3)
    · exact .inr (ierr_0_2 g (.cons a b) a b (by simp [Tm.kind]) (by simp [Tm.kind]) rfl h1)
  | @fold g t a b c ha hb hc i1 i2 i3 =>
    intro hw hg hl
    simp only [Tm.wf, Bool.and_eq_true] at hw
    simp only [Tm.size] at hl
    rcases i1 hw.2.1 hg (by omega) with ⟨h1, h2⟩ | h1
    · rcases i2 hw.2.2.1 hg (by omega) with ⟨h3, h4⟩ | h3
      · rcases i3 hw.2.2.2 hg (by omega) with ⟨h5, h6⟩ | h5
        · exact .inl ⟨inf_fold g t a b c h1 h3 h5, hw.1⟩
        · exact .inr (ierr_2_3 g (.fold t a b c) a b c _ _ (by simp [Tm.kind]) (by simp [Tm.kind]) rfl h1 h3 h5)
      · exact .inr (ierr_1_3 g (.fold t a b c) a b c _ (by simp [Tm.kind]) (by simp [Tm.kind]) rfl h1 h3)
    · exact .inr (ierr_0_3 g (.fold t a b c) a b c (by simp [Tm.kind]) (by simp [Tm.kind]) rfl h1)
  | @pair g a b s t ha hb i1 i2 =>
    intro hw hg hl
    simp only [Tm.wf, Bool.and_eq_true] at hw
    simp only [Tm.size] at hl
    rcases i1 hw.1 hg (by omega) with ⟨h1, h2⟩ | h1
    · rcases i2 hw.2 hg (by omega) with ⟨h3, h4⟩ | h3
      · obtain ⟨a1, a2⟩ := good_parts h2
        obtain ⟨b1, b2⟩ := good_parts h4
        have ho : (Ty.pair s t).ok = true := by simp [Ty.ok, a1, b1]
        by_cases hz : (Ty.pair s t).size ≤ 64
        · exact .inl ⟨inf_pair g a b s t h1 h3 ho hz, good_of ho hz⟩
        · exact .inr (ipair_big g a b s t h1 h3 ho (by omega) (by simp only [Ty.size]; omega))
      · exact .inr (ierr_1_2 g (.pair a b) a b _ (by simp [Tm.kind]) (by simp [Tm.kind]) rfl h1 h3)
    · exact .inr (ierr_0_2 g (.pair a b) a b (by simp [Tm.kind]) (by simp [Tm.kind]) rfl h1)
  | @fst g a s t ha ih =>
    intro hw hg hl
    simp only [Tm.wf] at hw
    simp only [Tm.size] at hl
    rcases ih hw hg (by omega) with ⟨h1, h2⟩ | h1
    · exact .inl ⟨inf_fst g a s t h1, (good_pair h2).1⟩
    · exact .inr (ierr_0_1 g (.fst a) a (by simp [Tm.kind]) (by simp [Tm.kind]) rfl h1)
  | @snd g a s t ha ih =>
    intro hw hg hl
    simp only [Tm.wf] at hw
    simp only [Tm.size] at hl
    rcases ih hw hg (by omega) with ⟨h1, h2⟩ | h1
    · exact .inl ⟨inf_snd g a s t h1, (good_pair h2).2⟩
    · exact .inr (ierr_0_1 g (.snd a) a (by simp [Tm.kind]) (by simp [Tm.kind]) rfl h1)
  | @unit g => intro _ _ _; exact .inl ⟨inf_unit g, rfl⟩
end Go.Proofs.YtodjpfpmhjdhbaaGreatDoor
