/- Part of the proof: contracts of the evaluator, of values and of the inference of types; no conditions. -/
import Derived.Test.YtodjpfpmhjdhbaaGreatDoorCallsF2
set_option linter.unusedVariables false
set_option linter.unusedSimpArgs false
set_option linter.unusedSectionVars false
/- The evaluator of ref06: an argument that uses up the work. -/
namespace Go.Proofs.YtodjpfpmhjdhbaaGreatDoor
open Go.Lg
set_option maxRecDepth 10000
set_option maxHeartbeats 4000000
theorem out_0_1 (t a : Tm) (env : List Rs) (r0 : Rs) (u u1 most : Nat) (hu : u < most) (hm : most ≤ 65536) (hk1 : ¬ t.kind = 1) (hk2 : ¬ t.kind = 2) (hta : t.args = [a]) (h0 : EvC a env (u + 1) most (rsC r0) u1 true) : EvC t env u most (rsC (.num 0)) u1 true := by
  have hu' : ¬ (u : Int) = most := by omega
  have e1 : ((u + 1 : Nat) : Int) = (u : Int) + 1 := by omega
  have hc := t.cells_eq
  rw [hta] at hc
  unfold EvC mc at *
  rw [hc]
  simp only [rsC, e1, Int.cast_ofNat_Int, List.map_cons, List.map_nil] at *
  rw [Tm.cells_eq a]
  rw [Tm.cells_eq a] at h0
  obtain ⟨n0, l0, p0, k0, i0, tk0, ta0, bs0, f0, er0⟩ := rsC_shape r0
  simp only [er0] at h0
  clear hc hta er0
  generalize rsE env = ev at *
  generalize a.ty.args.map Ty.cells = ta at *
  generalize a.args.map Tm.cells = sa at *
  generalize t.ty.args.map Ty.cells = tta at *
  generalize t.kind = tk at *
  generalize t.idx = ti at *
  generalize t.ty.kind = tyk at *
  refine body [(7, .arr 971 9 109)] Tryz.func51 Tryz.ntmps51 ?_
  refine gg ?_
  refine ⟨by rfl, ?_⟩
  refine gg ?_
  refine ex_loop 1 (ex_round ?_)
  refine gg ?_
  refine call h0 ?_
  refine gg ?_
  exact ⟨by simp [retIs, resV, resL, resOne, mkTup, getS, getO, rdV, mkAgg, unL, V.un, TI.isAgg, XX_T, tt109, Tryz.f51], by simp [subO, getO, tt109, Tryz.f51]⟩
theorem out_0_2 (t a b : Tm) (env : List Rs) (r0 : Rs) (u u1 most : Nat) (hu : u < most) (hm : most ≤ 65536) (hk1 : ¬ t.kind = 1) (hk2 : ¬ t.kind = 2) (hta : t.args = [a, b]) (h0 : EvC a env (u + 1) most (rsC r0) u1 true) : EvC t env u most (rsC (.num 0)) u1 true := by
  have hu' : ¬ (u : Int) = most := by omega
  have e1 : ((u + 1 : Nat) : Int) = (u : Int) + 1 := by omega
  have hc := t.cells_eq
  rw [hta] at hc
  unfold EvC mc at *
  rw [hc]
  simp only [rsC, e1, Int.cast_ofNat_Int, List.map_cons, List.map_nil] at *
  rw [Tm.cells_eq a, Tm.cells_eq b]
  rw [Tm.cells_eq a] at h0
  obtain ⟨n0, l0, p0, k0, i0, tk0, ta0, bs0, f0, er0⟩ := rsC_shape r0
  simp only [er0] at h0
  clear hc hta er0
  generalize rsE env = ev at *
  generalize a.ty.args.map Ty.cells = ta at *
  generalize a.args.map Tm.cells = sa at *
  generalize b.ty.args.map Ty.cells = tb at *
  generalize b.args.map Tm.cells = sb at *
  generalize t.ty.args.map Ty.cells = tta at *
  generalize t.kind = tk at *
  generalize t.idx = ti at *
  generalize t.ty.kind = tyk at *
  refine body [(7, .arr 971 9 109)] Tryz.func51 Tryz.ntmps51 ?_
  refine gg ?_
  refine ⟨by rfl, ?_⟩
  refine gg ?_
  refine ex_loop 1 (ex_round ?_)
  refine gg ?_
  refine call h0 ?_
  refine gg ?_
  exact ⟨by simp [retIs, resV, resL, resOne, mkTup, getS, getO, rdV, mkAgg, unL, V.un, TI.isAgg, XX_T, tt109, Tryz.f51], by simp [subO, getO, tt109, Tryz.f51]⟩
theorem out_1_2 (t a b : Tm) (env : List Rs) (r0 r1 : Rs) (u u1 u2 most : Nat) (hu : u < most) (hm : most ≤ 65536) (hk1 : ¬ t.kind = 1) (hk2 : ¬ t.kind = 2) (hta : t.args = [a, b]) (h0 : EvC a env (u + 1) most (rsC r0) u1 false) (h1 : EvC b env u1 most (rsC r1) u2 true) : EvC t env u most (rsC (.num 0)) u2 true := by
  have hu' : ¬ (u : Int) = most := by omega
  have e1 : ((u + 1 : Nat) : Int) = (u : Int) + 1 := by omega
  have hc := t.cells_eq
  rw [hta] at hc
  unfold EvC mc at *
  rw [hc]
  simp only [rsC, e1, Int.cast_ofNat_Int, List.map_cons, List.map_nil] at *
  rw [Tm.cells_eq a, Tm.cells_eq b]
  rw [Tm.cells_eq a] at h0
  rw [Tm.cells_eq b] at h1
  obtain ⟨n0, l0, p0, k0, i0, tk0, ta0, bs0, f0, er0⟩ := rsC_shape r0
  simp only [er0] at h0
  obtain ⟨n1, l1, p1, k1, i1, tk1, ta1, bs1, f1, er1⟩ := rsC_shape r1
  simp only [er1] at h1
  clear hc hta er0 er1
  generalize rsE env = ev at *
  generalize a.ty.args.map Ty.cells = ta at *
  generalize a.args.map Tm.cells = sa at *
  generalize b.ty.args.map Ty.cells = tb at *
  generalize b.args.map Tm.cells = sb at *
  generalize t.ty.args.map Ty.cells = tta at *
  generalize t.kind = tk at *
  generalize t.idx = ti at *
  generalize t.ty.kind = tyk at *
  refine body [(7, .arr 971 9 109)] Tryz.func51 Tryz.ntmps51 ?_
  refine gg ?_
  refine ⟨by rfl, ?_⟩
  refine gg ?_
  refine ex_loop 2 (ex_round ?_)
  refine gg ?_
  refine call h0 ?_
  refine gg ?_
  refine ex_round ?_
  refine kp [0, 2, 4, 6, 7, 64, 65, 66] [6, 970, 971] ?_
  refine gg ?_
  refine call h1 ?_
  refine gg ?_
  exact ⟨by simp [retIs, resV, resL, resOne, mkTup, getS, getO, rdV, mkAgg, unL, V.un, TI.isAgg, XX_T, tt109, Tryz.f51], by simp [subO, getO, tt109, Tryz.f51]⟩
theorem out_0_3 (t a b d : Tm) (env : List Rs) (r0 : Rs) (u u1 most : Nat) (hu : u < most) (hm : most ≤ 65536) (hk1 : ¬ t.kind = 1) (hk2 : ¬ t.kind = 2) (hta : t.args = [a, b, d]) (h0 : EvC a env (u + 1) most (rsC r0) u1 true) : EvC t env u most (rsC (.num 0)) u1 true := by
  have hu' : ¬ (u : Int) = most := by omega
  have e1 : ((u + 1 : Nat) : Int) = (u : Int) + 1 := by omega
  have hc := t.cells_eq
  rw [hta] at hc
  unfold EvC mc at *
  rw [hc]
  simp only [rsC, e1, Int.cast_ofNat_Int, List.map_cons, List.map_nil] at *
  rw [Tm.cells_eq a, Tm.cells_eq b, Tm.cells_eq d]
  rw [Tm.cells_eq a] at h0
  obtain ⟨n0, l0, p0, k0, i0, tk0, ta0, bs0, f0, er0⟩ := rsC_shape r0
  simp only [er0] at h0
  clear hc hta er0
  generalize rsE env = ev at *
  generalize a.ty.args.map Ty.cells = ta at *
  generalize a.args.map Tm.cells = sa at *
  generalize b.ty.args.map Ty.cells = tb at *
  generalize b.args.map Tm.cells = sb at *
  generalize d.ty.args.map Ty.cells = td at *
  generalize d.args.map Tm.cells = sd at *
  generalize t.ty.args.map Ty.cells = tta at *
  generalize t.kind = tk at *
  generalize t.idx = ti at *
  generalize t.ty.kind = tyk at *
  refine body [(7, .arr 971 9 109)] Tryz.func51 Tryz.ntmps51 ?_
  refine gg ?_
  refine ⟨by rfl, ?_⟩
  refine gg ?_
  refine ex_loop 1 (ex_round ?_)
  refine gg ?_
  refine call h0 ?_
  refine gg ?_
  exact ⟨by simp [retIs, resV, resL, resOne, mkTup, getS, getO, rdV, mkAgg, unL, V.un, TI.isAgg, XX_T, tt109, Tryz.f51], by simp [subO, getO, tt109, Tryz.f51]⟩
theorem out_1_3 (t a b d : Tm) (env : List Rs) (r0 r1 : Rs) (u u1 u2 most : Nat) (hu : u < most) (hm : most ≤ 65536) (hk1 : ¬ t.kind = 1) (hk2 : ¬ t.kind = 2) (hta : t.args = [a, b, d]) (h0 : EvC a env (u + 1) most (rsC r0) u1 false) (h1 : EvC b env u1 most (rsC r1) u2 true) : EvC t env u most (rsC (.num 0)) u2 true := by
  have hu' : ¬ (u : Int) = most := by omega
  have e1 : ((u + 1 : Nat) : Int) = (u : Int) + 1 := by omega
  have hc := t.cells_eq
  rw [hta] at hc
  unfold EvC mc at *
  rw [hc]
  simp only [rsC, e1, Int.cast_ofNat_Int, List.map_cons, List.map_nil] at *
  rw [Tm.cells_eq a, Tm.cells_eq b, Tm.cells_eq d]
  rw [Tm.cells_eq a] at h0
  rw [Tm.cells_eq b] at h1
  obtain ⟨n0, l0, p0, k0, i0, tk0, ta0, bs0, f0, er0⟩ := rsC_shape r0
  simp only [er0] at h0
  obtain ⟨n1, l1, p1, k1, i1, tk1, ta1, bs1, f1, er1⟩ := rsC_shape r1
  simp only [er1] at h1
  clear hc hta er0 er1
  generalize rsE env = ev at *
  generalize a.ty.args.map Ty.cells = ta at *
  generalize a.args.map Tm.cells = sa at *
  generalize b.ty.args.map Ty.cells = tb at *
  generalize b.args.map Tm.cells = sb at *
  generalize d.ty.args.map Ty.cells = td at *
  generalize d.args.map Tm.cells = sd at *
  generalize t.ty.args.map Ty.cells = tta at *
  generalize t.kind = tk at *
  generalize t.idx = ti at *
  generalize t.ty.kind = tyk at *
  refine body [(7, .arr 971 9 109)] Tryz.func51 Tryz.ntmps51 ?_
  refine gg ?_
  refine ⟨by rfl, ?_⟩
  refine gg ?_
  refine ex_loop 2 (ex_round ?_)
  refine gg ?_
  refine call h0 ?_
  refine gg ?_
  refine ex_round ?_
  refine kp [0, 2, 4, 6, 7, 64, 65, 66] [6, 970, 971] ?_
  refine gg ?_
  refine call h1 ?_
  refine gg ?_
  exact ⟨by simp [retIs, resV, resL, resOne, mkTup, getS, getO, rdV, mkAgg, unL, V.un, TI.isAgg, XX_T, tt109, Tryz.f51], by simp [subO, getO, tt109, Tryz.f51]⟩
theorem out_2_3 (t a b d : Tm) (env : List Rs) (r0 r1 r2 : Rs) (u u1 u2 u3 most : Nat) (hu : u < most) (hm : most ≤ 65536) (hk1 : ¬ t.kind = 1) (hk2 : ¬ t.kind = 2) (hta : t.args = [a, b, d]) (h0 : EvC a env (u + 1) most (rsC r0) u1 false) (h1 : EvC b env u1 most (rsC r1) u2 false) (h2 : EvC d env u2 most (rsC r2) u3 true) : EvC t env u most (rsC (.num 0)) u3 true := by
  have hu' : ¬ (u : Int) = most := by omega
  have e1 : ((u + 1 : Nat) : Int) = (u : Int) + 1 := by omega
  have hc := t.cells_eq
  rw [hta] at hc
  unfold EvC mc at *
  rw [hc]
  simp only [rsC, e1, Int.cast_ofNat_Int, List.map_cons, List.map_nil] at *
  rw [Tm.cells_eq a, Tm.cells_eq b, Tm.cells_eq d]
  rw [Tm.cells_eq a] at h0
  rw [Tm.cells_eq b] at h1
  rw [Tm.cells_eq d] at h2
  obtain ⟨n0, l0, p0, k0, i0, tk0, ta0, bs0, f0, er0⟩ := rsC_shape r0
  simp only [er0] at h0
  obtain ⟨n1, l1, p1, k1, i1, tk1, ta1, bs1, f1, er1⟩ := rsC_shape r1
  simp only [er1] at h1
  obtain ⟨n2, l2, p2, k2, i2, tk2, ta2, bs2, f2, er2⟩ := rsC_shape r2
  simp only [er2] at h2
  clear hc hta er0 er1 er2
  generalize rsE env = ev at *
  generalize a.ty.args.map Ty.cells = ta at *
  generalize a.args.map Tm.cells = sa at *
  generalize b.ty.args.map Ty.cells = tb at *
  generalize b.args.map Tm.cells = sb at *
  generalize d.ty.args.map Ty.cells = td at *
  generalize d.args.map Tm.cells = sd at *
  generalize t.ty.args.map Ty.cells = tta at *
  generalize t.kind = tk at *
  generalize t.idx = ti at *
  generalize t.ty.kind = tyk at *
  refine body [(7, .arr 971 9 109)] Tryz.func51 Tryz.ntmps51 ?_
  refine gg ?_
  refine ⟨by rfl, ?_⟩
  refine gg ?_
  refine ex_loop 3 (ex_round ?_)
  refine gg ?_
  refine call h0 ?_
  refine gg ?_
  refine ex_round ?_
  refine kp [0, 2, 4, 6, 7, 64, 65, 66] [6, 970, 971] ?_
  refine gg ?_
  refine call h1 ?_
  refine gg ?_
  refine ex_round ?_
  refine kp [0, 2, 4, 6, 7, 64, 65, 66] [6, 970, 971] ?_
  refine gg ?_
  refine call h2 ?_
  refine gg ?_
  exact ⟨by simp [retIs, resV, resL, resOne, mkTup, getS, getO, rdV, mkAgg, unL, V.un, TI.isAgg, XX_T, tt109, Tryz.f51], by simp [subO, getO, tt109, Tryz.f51]⟩
end Go.Proofs.YtodjpfpmhjdhbaaGreatDoor
/- The evaluator of ref06: recursion. -/
namespace Go.Proofs.YtodjpfpmhjdhbaaGreatDoor
open Go.Lg
set_option maxRecDepth 10000
set_option maxHeartbeats 4000000
/-- the contract of a call -/
def ApC (f x : Rs) (u most : Nat) (r : Rs) (u' : Nat) (out : Bool) : Prop :=
  AC Tryz.prog gl 52 [.loc 970 0, .pv (.agg (rsC f)), .pv (.agg (rsC x))] [(970, mc u most false)] (.ret (.pv (.agg (rsC r)))) [(970, mc u' most out)]
/-- the rounds of a recursion -/
inductive RcC (f : Rs) (n most : Nat) : Nat → Rs → Nat → Rs → Nat → Bool → Prop
  | done {r u} : RcC f n most n r u r u false
  | out1 {k r u g u'} : k < n → ApC f (.num k) u most g u' true → RcC f n most k r u r u' true
  | out2 {k r u g u1 r' u'} : k < n → ApC f (.num k) u most g u1 false → ApC g r u1 most r' u' true → RcC f n most k r u r' u' true
  | step {k r u g u1 r' u2 q u' o} : k < n → ApC f (.num k) u most g u1 false → ApC g r u1 most r' u2 false → RcC f n most (k + 1) r' u2 q u' o → RcC f n most k r u q u' o
def zeroV : List V := [.pv (.int 0), .pv (.slice []), .pv (.slice []), .pv (.int 0), .pv (.int 0), .pv (.int 0), .pv (.slice []), .pv (.slice []), .pv (.slice [])]
noncomputable def recI (b f : Rs) (n most : Nat) (k : Nat) (r : Rs) (u : Nat) (out : Bool) : St := ⟨[(0, .loc 970 0), (6, .loc 6 0), (7, .arr 971 3 3), (10, .loc 10 0), (11, .pv (.int k))],
  [(970, mc u most out), (6, .box zeroV), (971, .arr 3 9 109 (pvE [rsC b, rsC f, rsC (.num n)])), (10, .box (pvL (rsC r)))], [10, 971, 6, 970]⟩
theorem eval_rec (s : Ty) (x y z : Tm) (env : List Rs) (b f q : Rs) (n u u1 u2 u3 u' most : Nat) (o : Bool) (hu : u < most) (hm : most ≤ 65536) (hn : n ≤ 100000) (ha : EvC x env (u + 1) most (rsC b) u1 false) (hb : EvC y env u1 most (rsC f) u2 false) (hz : EvC z env u2 most (rsC (.num n)) u3 false)
    (hr : RcC f n most 0 b u3 q u' o) : EvC (.recn s x y z) env u most (rsC q) u' o := by
  have hu' : ¬ (u : Int) = most := by omega
  have e1 : ((u + 1 : Nat) : Int) = (u : Int) + 1 := by omega
  have ec : (Tm.recn s x y z).cells = [.int 6, .int 0, .int s.kind, .slice (s.args.map Ty.cells), .slice [x.cells, y.cells, z.cells]] := by rw [Tm.cells_eq]; rfl
  have hwk : ∀ (k : Nat) (r : Rs) (u : Nat) (out : Bool) (σ : St), σ.slots.length = σ.slots.length → True := fun _ _ _ _ _ _ => trivial
  unfold EvC
  rw [ec]
  unfold EvC mc at ha hb hz
  rw [e1] at ha
  clear ec hwk
  obtain ⟨n1, l1, p1, k1, i1, tk1, ta1, bs1, f1, ea⟩ := rsC_shape b
  obtain ⟨n2, l2, p2, k2, i2, tk2, ta2, bs2, f2, eb⟩ := rsC_shape f
  rw [Tm.cells_eq x] at *
  rw [Tm.cells_eq y] at *
  rw [Tm.cells_eq z] at *
  simp only [ea] at ha
  simp only [eb] at hb
  simp only [rsC] at hz
  generalize rsE env = ev at *
  generalize x.ty.args.map Ty.cells = tx at *
  generalize x.args.map Tm.cells = sx at *
  generalize y.ty.args.map Ty.cells = ty at *
  generalize y.args.map Tm.cells = sy at *
  generalize z.ty.args.map Ty.cells = tz at *
  generalize z.args.map Tm.cells = sz at *
  generalize s.args.map Ty.cells = ss at *
  show AC Tryz.prog gl 51 _ [(970, mc u most false)] _ _
  have hmc : mc u most false = .box [.pv (.int u), .pv (.int most), .pv (.bool false)] := rfl
  rw [hmc]
  clear hmc
  have hlast := hr
  refine body [(7, .arr 971 9 109)] Tryz.func51 Tryz.ntmps51 ?_ (hno := by simp [subL, Out.names, V.names, namesL, namesOb, Ob.names, keysO, mc])
  clear hlast
  refine gg ?_
  refine ⟨by rfl, ?_⟩
  refine gg ?_
  refine ex_loop 4 (ex_round ?_)
  refine gg ?_
  refine call ha ?_
  refine gg ?_
  refine ex_round ?_
  refine kp [0, 2, 4, 6, 7, 64, 65, 66] [6, 970, 971] ?_
  refine gg ?_
  refine call hb ?_
  refine gg ?_
  refine ex_round ?_
  refine kp [0, 2, 4, 6, 7, 64, 65, 66] [6, 970, 971] ?_
  refine gg ?_
  refine call hz ?_
  refine gg ?_
  refine ex_round ?_
  refine kp [0, 2, 4, 6, 7, 64, 65, 66] [6, 970, 971] ?_
  refine gg ?_
  refine AWP.loop (ι := { i : Nat × Rs × Nat × Bool // (i.2.2.2 = false ∧ RcC f n most i.1 i.2.1 i.2.2.1 q u' o) ∨ (i.2.2.2 = true ∧ i.2.1 = q ∧ i.2.2.1 = u' ∧ o = true ∧ i.1 ≤ n) }) (fun i => recI b f n most i.1.1 i.1.2.1 i.1.2.2.1 i.1.2.2.2) (fun i => n - i.1.1) ⟨(0, b, u3, false), .inl ⟨rfl, hr⟩⟩ ?_ ?_
  · refine ⟨by simp [recI, slotsLe, getS], by simp [recI, subO, getO, mc, zeroV, rsC, ea, eb, pvL, pvE], ?_⟩
    simp [recI, subL, namesSl, V.names, namesOb, Ob.names, namesL, namesE, namesE_pvE, XX_given, mc, zeroV, rsC, ea, eb, pvL, pvE]
  rintro ⟨⟨k, r, uu, out⟩, hI⟩
  simp only at hI ⊢
  clear ha hb hz hr
  obtain ⟨n3, l3, p3, k3, i3, tk3, ta3, bs3, f3, er⟩ := rsC_shape r
  have hk0 : (0 : Int) ≤ k := by omega
  rcases hI with ⟨rfl, hR⟩ | ⟨rfl, hq, rfl, rfl, hkn⟩
  · cases hR with
    | done =>
      have h1 : ¬ (n : Int) < n := by omega
      simp only [recI, mc, zeroV, rsC, ea, eb, er, pvL, List.map_cons, List.map_nil]
      refine gg ?_
      exact ⟨by simp [retIs, resV, resL, resOne, mkTup, getS, getO, rdV, mkAgg, unL, V.un, TI.isAgg, XX_T, tt109, Tryz.f51, er, mc], by simp [subO, getO, tt109, Tryz.f51, er, mc]⟩
    | @out1 _ _ _ g _ hk hc1 =>
      have h1 : (k : Int) < n := by omega
      obtain ⟨n4, l4, p4, k4, i4, tk4, ta4, bs4, f4, eg⟩ := rsC_shape g
      unfold ApC mc at hc1
      simp only [rsC, eb, eg] at hc1
      simp only [recI, mc, zeroV, rsC, ea, eb, er, pvL, List.map_cons, List.map_nil]
      refine gg ?_
      refine call hc1 ?_
      refine gg ?_
      exact ⟨⟨(k + 1, q, u', true), .inr ⟨rfl, rfl, rfl, rfl, by simp only; omega⟩⟩, by simp only; omega, ⟨by simp [recI, slotsLe, getS], by simp [recI, subO, getO, mc, zeroV, rsC, ea, eb, er, pvL, pvE], by simp [recI, subL, namesSl, V.names, namesOb, Ob.names, namesL, namesE, namesE_pvE, XX_given, mc, zeroV, rsC, ea, eb, er, pvL, pvE]⟩⟩
    | @out2 _ _ _ g v1 _ _ hk hc1 hc2 =>
      have h1 : (k : Int) < n := by omega
      obtain ⟨n4, l4, p4, k4, i4, tk4, ta4, bs4, f4, eg⟩ := rsC_shape g
      obtain ⟨n5, l5, p5, k5, i5, tk5, ta5, bs5, f5, eq⟩ := rsC_shape q
      unfold ApC mc at hc1 hc2
      simp only [rsC, eb, eg] at hc1
      simp only [eg, er, eq] at hc2
      simp only [recI, mc, zeroV, rsC, ea, eb, er, pvL, List.map_cons, List.map_nil]
      refine gg ?_
      refine call hc1 ?_
      refine gg ?_
      refine call hc2 ?_
      refine gg ?_
      exact ⟨⟨(k + 1, q, u', true), .inr ⟨rfl, rfl, rfl, rfl, by simp only; omega⟩⟩, by simp only; omega, ⟨by simp [recI, slotsLe, getS], by simp [recI, subO, getO, mc, zeroV, rsC, ea, eb, er, eq, pvL, pvE], by simp [recI, subL, namesSl, V.names, namesOb, Ob.names, namesL, namesE, namesE_pvE, XX_given, mc, zeroV, rsC, ea, eb, er, eq, pvL, pvE]⟩⟩
    | @step _ _ _ g v1 r' v2 _ _ _ hk hc1 hc2 hR =>
      have h1 : (k : Int) < n := by omega
      obtain ⟨n4, l4, p4, k4, i4, tk4, ta4, bs4, f4, eg⟩ := rsC_shape g
      obtain ⟨n5, l5, p5, k5, i5, tk5, ta5, bs5, f5, eq⟩ := rsC_shape r'
      unfold ApC mc at hc1 hc2
      simp only [rsC, eb, eg] at hc1
      simp only [eg, er, eq] at hc2
      simp only [recI, mc, zeroV, rsC, ea, eb, er, pvL, List.map_cons, List.map_nil]
      refine gg ?_
      refine call hc1 ?_
      refine gg ?_
      refine call hc2 ?_
      refine gg ?_
      exact ⟨⟨(k + 1, r', v2, false), .inl ⟨rfl, hR⟩⟩, by simp only; omega, ⟨by simp [recI, slotsLe, getS], by simp [recI, subO, getO, mc, zeroV, rsC, ea, eb, er, eq, pvL, pvE], by simp [recI, subL, namesSl, V.names, namesOb, Ob.names, namesL, namesE, namesE_pvE, XX_given, mc, zeroV, rsC, ea, eb, er, eq, pvL, pvE]⟩⟩
  · subst hq
    by_cases hk : k < n
    · have h1 : (k : Int) < n := by omega
      simp only [recI, mc, zeroV, rsC, ea, eb, er, pvL, List.map_cons, List.map_nil]
      refine gg ?_
      exact ⟨by simp [retIs, resV, resL, resOne, mkTup, getS, getO, rdV, mkAgg, unL, V.un, TI.isAgg, XX_T, tt109, Tryz.f51, er, mc], by simp [subO, getO, tt109, Tryz.f51, er, mc]⟩
    · have h1 : ¬ (k : Int) < n := by omega
      simp only [recI, mc, zeroV, rsC, ea, eb, er, pvL, List.map_cons, List.map_nil]
      refine gg ?_
      exact ⟨by simp [retIs, resV, resL, resOne, mkTup, getS, getO, rdV, mkAgg, unL, V.un, TI.isAgg, XX_T, tt109, Tryz.f51, er, mc], by simp [subO, getO, tt109, Tryz.f51, er, mc]⟩
end Go.Proofs.YtodjpfpmhjdhbaaGreatDoor
