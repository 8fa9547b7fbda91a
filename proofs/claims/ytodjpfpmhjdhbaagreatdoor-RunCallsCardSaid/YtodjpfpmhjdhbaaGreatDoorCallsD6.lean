/- Part of the proof: contracts of the machine's step and of its run; no conditions. -/
import Derived.Test.YtodjpfpmhjdhbaaGreatDoorCallsD5
set_option linter.unusedVariables false
set_option linter.unusedSimpArgs false
set_option linter.unusedSectionVars false
namespace Go.Proofs.YtodjpfpmhjdhbaaGreatDoor
open Go.Lg
set_option maxRecDepth 10000
set_option maxHeartbeats 4000000
section
variable (c : List Ins) (l : Nat) (m : Ms) (p : Nat) (hat : m.at_ = ((p : Nat) : Int)) (hst : ¬ m.steps = l) (hsl : m.steps ≤ 1000000) (hp : p ≤ 1000000) (hN : ∀ n ∈ frN (m.frames ++ m.fg), 1000 ≤ n) (hl : m.stack.length ≤ 900000)
include hat hst hsl hp hN hl
theorem step_apply (s : List It) (f x : It) (hs : m.stack = s ++ [f, x]) (m' : Ms) (hS : mS m' = mS (pop1 (pop1 (nxt m) (s ++ [f]) x) s f)) (hm' : ∀ n ∈ frN (m'.frames ++ m'.fg), n ∈ frN (m.frames ++ m.fg)) (he : AC Tryz.prog gl 115 [.loc 901 0, .pv (itP f), .pv (itP x), .pv .nil] [(901, mB c l (pop1 (pop1 (nxt m) (s ++ [f]) x) s f)), (903, mF m)] (.ret (.pv (.tuple []))) [(901, mB c l m'), (903, mF m')]) (hc : c[p]? = some (3, 0)) : AC Tryz.prog gl 113 [.loc 901 0] (mO c l m) (.ret (.pv (.bool true))) (mO c l m') := by
  have p1 := pop_ok c l (nxt m) (s ++ [f]) x (by simp [nxt, hs]) (by simp [nxt]; omega)
  have p2 := pop_ok c l (pop1 (nxt m) (s ++ [f]) x) s f rfl (by simp [pop1, hs] at hl ⊢; omega)
  have eS : mS (nxt m) = mS m := rfl
  rw [eS] at p1
  refine bodyM (c := c67) (ks := [901, 902, 903] ++ frN (m.frames ++ m.fg)) [] (frN (m.frames ++ m.fg)) Tryz.func113 Tryz.ntmps113 ?_ (hks := rfl) (hms1 := mO_1 c l m rfl) (hms2 := mO_2 c l m (fun n hn => by have := hN n hn; omega)) (hms3 := mO_2 c l _ (fun n hn => by have := hN n hn; omega)) (hna := mO_3 c l m rfl) (hno := st_no c l m _ true hm')
  refine step_pre c l m p 3 0 hat hc hst hsl hp (mS m) (mF m) (mS m) _ (fun h => by have := hN 3 h; omega) _ (mS_names m) (hF_of m) (mS_names m) ?_ (fun _ h => h)
  simp only [sw67, right, c67, Tryz.f113, Option.getD_some]
  clear hN
  generalize frN (m.frames ++ m.fg) = ms at *
  simp only [mO, hS]
  clear eS hm' hS
  try unfold pop1 at *
  generalize mB c l m' = B4 at *
  generalize mF m' = F4 at *
  generalize mS m = S1 at *
  generalize mF m = F1 at *
  generalize mB c l (nxt m) = B1 at *
  generalize mB c l { nxt m with stack := s ++ [f], sg := x :: (nxt m).sg } = B2 at *
  generalize mS { nxt m with stack := s ++ [f], sg := x :: (nxt m).sg } = S2 at *
  generalize mB c l { nxt m with stack := s, sg := f :: x :: (nxt m).sg } = B3 at *
  generalize mS { nxt m with stack := s, sg := f :: x :: (nxt m).sg } = S3 at *
  try simp only [Int.cast_ofNat_Int] at *
  generalize itP f = vf at *
  generalize itP x = vx at *
  refine gg ?_
  refine call p1 ?_
  refine gg ?_
  refine call p2 ?_
  refine gg ?_
  refine call he ?_
  refine gg ?_
  exact ⟨by simp [retIs, resV, resL, resOne, mkTup, getS, getO, rdV, mkAgg, unL, V.un, TI.isAgg, XX_T, tt30, Tryz.f113], by simp [subO, getO, tt30, Tryz.f113]⟩
theorem step_apply_err (s : List It) (f x : It) (hs : m.stack = s ++ [f, x]) (q : PV) (he : AC Tryz.prog gl 115 [.loc 901 0, .pv (itP f), .pv (itP x), .pv .nil] [(901, mB c l (pop1 (pop1 (nxt m) (s ++ [f]) x) s f)), (903, mF m)] (.panic q) []) (hc : c[p]? = some (3, 0)) : AC Tryz.prog gl 113 [.loc 901 0] (mO c l m) (.panic q) [] := by
  have p1 := pop_ok c l (nxt m) (s ++ [f]) x (by simp [nxt, hs]) (by simp [nxt]; omega)
  have p2 := pop_ok c l (pop1 (nxt m) (s ++ [f]) x) s f rfl (by simp [pop1, hs] at hl ⊢; omega)
  have eS : mS (nxt m) = mS m := rfl
  rw [eS] at p1
  refine bodyM (c := c67) (ks := [901, 902, 903] ++ frN (m.frames ++ m.fg)) [] (frN (m.frames ++ m.fg)) Tryz.func113 Tryz.ntmps113 ?_ (hks := rfl) (hms1 := mO_1 c l m rfl) (hms2 := mO_2 c l m (fun n hn => by have := hN n hn; omega)) (hms3 := by simp [keysO]) (hna := mO_3 c l m rfl) (hno := by simp [subL, Out.names, namesOb])
  refine step_pre c l m p 3 0 hat hc hst hsl hp (mS m) (mF m) (mS m) _ (fun h => by have := hN 3 h; omega) _ (mS_names m) (hF_of m) (mS_names m) ?_ (fun _ h => h)
  simp only [sw67, right, c67, Tryz.f113, Option.getD_some]
  clear hN
  generalize frN (m.frames ++ m.fg) = ms at *
  try simp only [mO]
  clear eS
  try unfold pop1 at *
  generalize mS m = S1 at *
  generalize mF m = F1 at *
  generalize mB c l (nxt m) = B1 at *
  generalize mB c l { nxt m with stack := s ++ [f], sg := x :: (nxt m).sg } = B2 at *
  generalize mS { nxt m with stack := s ++ [f], sg := x :: (nxt m).sg } = S2 at *
  generalize mB c l { nxt m with stack := s, sg := f :: x :: (nxt m).sg } = B3 at *
  generalize mS { nxt m with stack := s, sg := f :: x :: (nxt m).sg } = S3 at *
  try simp only [Int.cast_ofNat_Int] at *
  generalize itP f = vf at *
  generalize itP x = vx at *
  refine gg ?_
  refine call p1 ?_
  refine gg ?_
  refine call p2 ?_
  refine gg ?_
  refine callP he ?_
  refine gg ?_
  exact ⟨rfl, trivial⟩
theorem step_succ_err (s : List It) (x : It) (hs : m.stack = s ++ [x]) (hk : ¬ x.kind = 1) (hc : c[p]? = some (5, 0)) : AC Tryz.prog gl 113 [.loc 901 0] (mO c l m) (.panic (fail 44)) [] := by
  have p1 := pop_ok c l (nxt m) s x (by simp [nxt, hs]) (by simp [nxt]; omega)
  have eS : mS (nxt m) = mS m := rfl
  rw [eS] at p1
  have hw := want_err x 1 hk
  unfold fail at *
  refine bodyM (c := c67) (ks := [901, 902, 903] ++ frN (m.frames ++ m.fg)) [] (frN (m.frames ++ m.fg)) Tryz.func113 Tryz.ntmps113 ?_ (hks := rfl) (hms1 := mO_1 c l m rfl) (hms2 := mO_2 c l m (fun n hn => by have := hN n hn; omega)) (hms3 := by simp [keysO]) (hna := mO_3 c l m rfl) (hno := by simp [subL, Out.names, namesOb])
  refine step_pre c l m p 5 0 hat hc hst hsl hp (mS m) (mF m) (mS m) _ (fun h => by have := hN 3 h; omega) _ (mS_names m) (hF_of m) (mS_names m) ?_ (fun _ h => h)
  simp only [sw67, right, c67, Tryz.f113, Option.getD_some]
  clear hN
  generalize frN (m.frames ++ m.fg) = ms at *
  try simp only [mO]
  clear hk
  generalize itP x = vx at *
  clear eS
  try unfold pop1 at *
  generalize mS m = S1 at *
  generalize mF m = F1 at *
  generalize mB c l (nxt m) = B1 at *
  generalize mB c l { nxt m with stack := s, sg := x :: (nxt m).sg } = B2 at *
  generalize mS { nxt m with stack := s, sg := x :: (nxt m).sg } = S2 at *
  try simp only [Int.cast_ofNat_Int] at *
  refine gg ?_
  refine call p1 ?_
  refine gg ?_
  refine callP hw ?_
  refine gg ?_
  exact ⟨rfl, trivial⟩
theorem step_fst_err (s : List It) (x : It) (hs : m.stack = s ++ [x]) (hk : ¬ x.kind = 3) (hc : c[p]? = some (11, 0)) : AC Tryz.prog gl 113 [.loc 901 0] (mO c l m) (.panic (fail 44)) [] := by
  have p1 := pop_ok c l (nxt m) s x (by simp [nxt, hs]) (by simp [nxt]; omega)
  have eS : mS (nxt m) = mS m := rfl
  rw [eS] at p1
  have hw := want_err x 3 hk
  unfold fail at *
  refine bodyM (c := c67) (ks := [901, 902, 903] ++ frN (m.frames ++ m.fg)) [] (frN (m.frames ++ m.fg)) Tryz.func113 Tryz.ntmps113 ?_ (hks := rfl) (hms1 := mO_1 c l m rfl) (hms2 := mO_2 c l m (fun n hn => by have := hN n hn; omega)) (hms3 := by simp [keysO]) (hna := mO_3 c l m rfl) (hno := by simp [subL, Out.names, namesOb])
  refine step_pre c l m p 11 0 hat hc hst hsl hp (mS m) (mF m) (mS m) _ (fun h => by have := hN 3 h; omega) _ (mS_names m) (hF_of m) (mS_names m) ?_ (fun _ h => h)
  simp only [sw67, right, c67, Tryz.f113, Option.getD_some]
  clear hN
  generalize frN (m.frames ++ m.fg) = ms at *
  try simp only [mO]
  clear hk
  generalize itP x = vx at *
  clear eS
  try unfold pop1 at *
  generalize mS m = S1 at *
  generalize mF m = F1 at *
  generalize mB c l (nxt m) = B1 at *
  generalize mB c l { nxt m with stack := s, sg := x :: (nxt m).sg } = B2 at *
  generalize mS { nxt m with stack := s, sg := x :: (nxt m).sg } = S2 at *
  try simp only [Int.cast_ofNat_Int] at *
  refine gg ?_
  refine call p1 ?_
  refine gg ?_
  refine callP hw ?_
  refine gg ?_
  exact ⟨rfl, trivial⟩
theorem step_snd_err (s : List It) (x : It) (hs : m.stack = s ++ [x]) (hk : ¬ x.kind = 3) (hc : c[p]? = some (12, 0)) : AC Tryz.prog gl 113 [.loc 901 0] (mO c l m) (.panic (fail 44)) [] := by
  have p1 := pop_ok c l (nxt m) s x (by simp [nxt, hs]) (by simp [nxt]; omega)
  have eS : mS (nxt m) = mS m := rfl
  rw [eS] at p1
  have hw := want_err x 3 hk
  unfold fail at *
  refine bodyM (c := c67) (ks := [901, 902, 903] ++ frN (m.frames ++ m.fg)) [] (frN (m.frames ++ m.fg)) Tryz.func113 Tryz.ntmps113 ?_ (hks := rfl) (hms1 := mO_1 c l m rfl) (hms2 := mO_2 c l m (fun n hn => by have := hN n hn; omega)) (hms3 := by simp [keysO]) (hna := mO_3 c l m rfl) (hno := by simp [subL, Out.names, namesOb])
  refine step_pre c l m p 12 0 hat hc hst hsl hp (mS m) (mF m) (mS m) _ (fun h => by have := hN 3 h; omega) _ (mS_names m) (hF_of m) (mS_names m) ?_ (fun _ h => h)
  simp only [sw67, right, c67, Tryz.f113, Option.getD_some]
  clear hN
  generalize frN (m.frames ++ m.fg) = ms at *
  try simp only [mO]
  clear hk
  generalize itP x = vx at *
  clear eS
  try unfold pop1 at *
  generalize mS m = S1 at *
  generalize mF m = F1 at *
  generalize mB c l (nxt m) = B1 at *
  generalize mB c l { nxt m with stack := s, sg := x :: (nxt m).sg } = B2 at *
  generalize mS { nxt m with stack := s, sg := x :: (nxt m).sg } = S2 at *
  try simp only [Int.cast_ofNat_Int] at *
  refine gg ?_
  refine call p1 ?_
  refine gg ?_
  refine callP hw ?_
  refine gg ?_
  exact ⟨rfl, trivial⟩
theorem step_succ (s : List It) (x : It) (hs : m.stack = s ++ [x]) (k : Nat) (hk : k ≤ 1000000000) (hx : x = .num k) (hc : c[p]? = some (5, 0)) : AC Tryz.prog gl 113 [.loc 901 0] (mO c l m) (.ret (.pv (.bool true))) (mO c l ((pop1 (nxt m) s x).push (.num (k + 1)))) := by
  have p1 := pop_ok c l (nxt m) s x (by simp [nxt, hs]) (by simp [nxt]; omega)
  have eS : mS (nxt m) = mS m := rfl
  rw [eS] at p1
  have hw := want_ok x
  have hn := number_item_ok ((k : Int) + 1)
  have p2 := push_ok c l (pop1 (nxt m) s x) (.num (k + 1)) (by simp [hs] at hl; simp [pop1]; omega)
  have eF : mF ((pop1 (nxt m) s x).push (.num (k + 1))) = mF m := rfl
  have ek : ((k + 1 : Nat) : Int) = (k : Int) + 1 := by omega
  refine bodyM (c := c67) (ks := [901, 902, 903] ++ frN (m.frames ++ m.fg)) [] (frN (m.frames ++ m.fg)) Tryz.func113 Tryz.ntmps113 ?_ (hks := rfl) (hms1 := mO_1 c l m rfl) (hms2 := mO_2 c l m (fun n hn => by have := hN n hn; omega)) (hms3 := mO_2 c l _ (fun n hn => by have := hN n hn; omega)) (hna := mO_3 c l m rfl) (hno := st_no c l m _ true (fun n h => h))
  refine step_pre c l m p 5 0 hat hc hst hsl hp (mS m) (mF m) (mS m) _ (fun h => by have := hN 3 h; omega) _ (mS_names m) (hF_of m) (mS_names m) ?_ (fun _ h => h)
  simp only [sw67, right, c67, Tryz.f113, Option.getD_some]
  clear hN
  generalize frN (m.frames ++ m.fg) = ms at *
  simp only [mO, eF]
  clear eF
  generalize mB c l ((pop1 (nxt m) s x).push (.num (k + 1))) = B3 at *
  generalize mS ((pop1 (nxt m) s x).push (.num (k + 1))) = S3 at *
  subst hx
  clear eS
  try unfold pop1 at *
  generalize mS m = S1 at *
  generalize mF m = F1 at *
  generalize mB c l (nxt m) = B1 at *
  generalize mB c l { nxt m with stack := s, sg := .num k :: (nxt m).sg } = B2 at *
  generalize mS { nxt m with stack := s, sg := .num k :: (nxt m).sg } = S2 at *
  simp only [It.kind, itP, ek, Int.cast_ofNat_Int] at *
  refine gg ?_
  refine call p1 ?_
  refine gg ?_
  refine call hw ?_
  refine gg ?_
  refine call hn ?_
  refine gg ?_
  refine call p2 ?_
  refine gg ?_
  exact ⟨by simp [retIs, resV, resL, resOne, mkTup, getS, getO, rdV, mkAgg, unL, V.un, TI.isAgg, XX_T, tt30, Tryz.f113], by simp [subO, getO, tt30, Tryz.f113]⟩
theorem step_fst (s : List It) (x : It) (hs : m.stack = s ++ [x]) (a b : It) (hx : x = .pair a b) (hc : c[p]? = some (11, 0)) : AC Tryz.prog gl 113 [.loc 901 0] (mO c l m) (.ret (.pv (.bool true))) (mO c l ((pop1 (nxt m) s x).push a)) := by
  have p1 := pop_ok c l (nxt m) s x (by simp [nxt, hs]) (by simp [nxt]; omega)
  have eS : mS (nxt m) = mS m := rfl
  rw [eS] at p1
  have hw := want_ok x
  have p2 := push_ok c l (pop1 (nxt m) s x) a (by simp [hs] at hl; simp [pop1]; omega)
  have eF : mF ((pop1 (nxt m) s x).push a) = mF m := rfl
  refine bodyM (c := c67) (ks := [901, 902, 903] ++ frN (m.frames ++ m.fg)) [] (frN (m.frames ++ m.fg)) Tryz.func113 Tryz.ntmps113 ?_ (hks := rfl) (hms1 := mO_1 c l m rfl) (hms2 := mO_2 c l m (fun n hn => by have := hN n hn; omega)) (hms3 := mO_2 c l _ (fun n hn => by have := hN n hn; omega)) (hna := mO_3 c l m rfl) (hno := st_no c l m _ true (fun n h => h))
  refine step_pre c l m p 11 0 hat hc hst hsl hp (mS m) (mF m) (mS m) _ (fun h => by have := hN 3 h; omega) _ (mS_names m) (hF_of m) (mS_names m) ?_ (fun _ h => h)
  simp only [sw67, right, c67, Tryz.f113, Option.getD_some]
  clear hN
  generalize frN (m.frames ++ m.fg) = ms at *
  simp only [mO, eF]
  clear eF
  generalize mB c l ((pop1 (nxt m) s x).push a) = B3 at *
  generalize mS ((pop1 (nxt m) s x).push a) = S3 at *
  subst hx
  clear eS
  try unfold pop1 at *
  generalize mS m = S1 at *
  generalize mF m = F1 at *
  generalize mB c l (nxt m) = B1 at *
  generalize mB c l { nxt m with stack := s, sg := .pair a b :: (nxt m).sg } = B2 at *
  generalize mS { nxt m with stack := s, sg := .pair a b :: (nxt m).sg } = S2 at *
  simp only [It.kind, itP, Int.cast_ofNat_Int] at *
  generalize itP a = va at *
  generalize itP b = vb at *
  generalize ((2 + a.more + b.more : Nat) : Int) = mo at *
  generalize (a.func || b.func) = fu at *
  refine gg ?_
  refine call p1 ?_
  refine gg ?_
  refine call hw ?_
  refine gg ?_
  refine call p2 ?_
  refine gg ?_
  refine ⟨by rfl, ?_⟩
  refine gg ?_
  exact ⟨by simp [retIs, resV, resL, resOne, mkTup, getS, getO, rdV, mkAgg, unL, V.un, TI.isAgg, XX_T, tt30, Tryz.f113], by simp [subO, getO, tt30, Tryz.f113]⟩
theorem step_snd (s : List It) (x : It) (hs : m.stack = s ++ [x]) (a b : It) (hx : x = .pair a b) (hc : c[p]? = some (12, 0)) : AC Tryz.prog gl 113 [.loc 901 0] (mO c l m) (.ret (.pv (.bool true))) (mO c l ((pop1 (nxt m) s x).push b)) := by
  have p1 := pop_ok c l (nxt m) s x (by simp [nxt, hs]) (by simp [nxt]; omega)
  have eS : mS (nxt m) = mS m := rfl
  rw [eS] at p1
  have hw := want_ok x
  have p2 := push_ok c l (pop1 (nxt m) s x) b (by simp [hs] at hl; simp [pop1]; omega)
  have eF : mF ((pop1 (nxt m) s x).push b) = mF m := rfl
  refine bodyM (c := c67) (ks := [901, 902, 903] ++ frN (m.frames ++ m.fg)) [] (frN (m.frames ++ m.fg)) Tryz.func113 Tryz.ntmps113 ?_ (hks := rfl) (hms1 := mO_1 c l m rfl) (hms2 := mO_2 c l m (fun n hn => by have := hN n hn; omega)) (hms3 := mO_2 c l _ (fun n hn => by have := hN n hn; omega)) (hna := mO_3 c l m rfl) (hno := st_no c l m _ true (fun n h => h))
  refine step_pre c l m p 12 0 hat hc hst hsl hp (mS m) (mF m) (mS m) _ (fun h => by have := hN 3 h; omega) _ (mS_names m) (hF_of m) (mS_names m) ?_ (fun _ h => h)
  simp only [sw67, right, c67, Tryz.f113, Option.getD_some]
  clear hN
  generalize frN (m.frames ++ m.fg) = ms at *
  simp only [mO, eF]
  clear eF
  generalize mB c l ((pop1 (nxt m) s x).push b) = B3 at *
  generalize mS ((pop1 (nxt m) s x).push b) = S3 at *
  subst hx
  clear eS
  try unfold pop1 at *
  generalize mS m = S1 at *
  generalize mF m = F1 at *
  generalize mB c l (nxt m) = B1 at *
  generalize mB c l { nxt m with stack := s, sg := .pair a b :: (nxt m).sg } = B2 at *
  generalize mS { nxt m with stack := s, sg := .pair a b :: (nxt m).sg } = S2 at *
  simp only [It.kind, itP, Int.cast_ofNat_Int] at *
  generalize itP a = va at *
  generalize itP b = vb at *
  generalize ((2 + a.more + b.more : Nat) : Int) = mo at *
  generalize (a.func || b.func) = fu at *
  refine gg ?_
  refine call p1 ?_
  refine gg ?_
  refine call hw ?_
  refine gg ?_
  refine call p2 ?_
  refine gg ?_
  refine ⟨by rfl, ?_⟩
  refine gg ?_
  exact ⟨by simp [retIs, resV, resL, resOne, mkTup, getS, getO, rdV, mkAgg, unL, V.un, TI.isAgg, XX_T, tt30, Tryz.f113], by simp [subO, getO, tt30, Tryz.f113]⟩
theorem step_rec_err (q : PV) (he : AC Tryz.prog gl 131 [.loc 901 0, .pv (.bool false)] (mO c l (nxt m)) (.panic q) []) (hc : c[p]? = some (6, 0)) : AC Tryz.prog gl 113 [.loc 901 0] (mO c l m) (.panic q) [] := by
  have eS : mS (nxt m) = mS m := rfl
  have eF : mF (nxt m) = mF m := rfl
  refine bodyM (c := c67) (ks := [901, 902, 903] ++ frN (m.frames ++ m.fg)) [] (frN (m.frames ++ m.fg)) Tryz.func113 Tryz.ntmps113 ?_ (hks := rfl) (hms1 := mO_1 c l m rfl) (hms2 := mO_2 c l m (fun n hn => by have := hN n hn; omega)) (hms3 := by simp [keysO]) (hna := mO_3 c l m rfl) (hno := by simp [subL, Out.names, namesOb])
  refine step_pre c l m p 6 0 hat hc hst hsl hp (mS m) (mF m) (mS m) _ (fun h => by have := hN 3 h; omega) _ (mS_names m) (hF_of m) (mS_names m) ?_ (fun _ h => h)
  simp only [sw67, right, c67, Tryz.f113, Option.getD_some]
  clear hN
  generalize frN (m.frames ++ m.fg) = ms at *
  simp only [mO, eS, eF] at *
  clear eS eF
  generalize mS m = S1 at *
  generalize mF m = F1 at *
  generalize mB c l (nxt m) = B1 at *
  try simp only [Int.cast_ofNat_Int] at *
  refine gg ?_
  refine callP he ?_
  refine gg ?_
  exact ⟨rfl, trivial⟩
theorem step_rec_zero (m' : Ms) (hm' : ∀ n ∈ frN (m'.frames ++ m'.fg), n ∈ frN (m.frames ++ m.fg)) (he : AC Tryz.prog gl 131 [.loc 901 0, .pv (.bool false)] (mO c l (nxt m)) (.ret (.pv (.tuple []))) (mO c l m')) (hc : c[p]? = some (6, 0)) : AC Tryz.prog gl 113 [.loc 901 0] (mO c l m) (.ret (.pv (.bool true))) (mO c l m') := by
  have eS : mS (nxt m) = mS m := rfl
  have eF : mF (nxt m) = mF m := rfl
  refine bodyM (c := c67) (ks := [901, 902, 903] ++ frN (m.frames ++ m.fg)) [] (frN (m.frames ++ m.fg)) Tryz.func113 Tryz.ntmps113 ?_ (hks := rfl) (hms1 := mO_1 c l m rfl) (hms2 := mO_2 c l m (fun n hn => by have := hN n hn; omega)) (hms3 := mO_2 c l _ (fun n hn => by have := hN n hn; omega)) (hna := mO_3 c l m rfl) (hno := st_no c l m _ true hm')
  refine step_pre c l m p 6 0 hat hc hst hsl hp (mS m) (mF m) (mS m) _ (fun h => by have := hN 3 h; omega) _ (mS_names m) (hF_of m) (mS_names m) ?_ (fun _ h => h)
  simp only [sw67, right, c67, Tryz.f113, Option.getD_some]
  clear hN
  generalize frN (m.frames ++ m.fg) = ms at *
  simp only [mO, eS, eF] at *
  clear hm'
  generalize mB c l m' = B2 at *
  generalize mS m' = S2 at *
  generalize mF m' = F2 at *
  clear eS eF
  generalize mS m = S1 at *
  generalize mF m = F1 at *
  generalize mB c l (nxt m) = B1 at *
  try simp only [Int.cast_ofNat_Int] at *
  refine gg ?_
  refine call he ?_
  refine gg ?_
  exact ⟨by simp [retIs, resV, resL, resOne, mkTup, getS, getO, rdV, mkAgg, unL, V.un, TI.isAgg, XX_T, tt30, Tryz.f113], by simp [subO, getO, tt30, Tryz.f113]⟩
theorem step_rec (m' : Ms) (RB : Ob) (hRB : RB.names = []) (hm' : ∀ n ∈ frN (m'.frames ++ m'.fg), n ∈ frN (m.frames ++ m.fg) ∨ n = 921) (he : AC Tryz.prog gl 131 [.loc 901 0, .pv (.bool false)] (mO c l (nxt m)) (.ret (.pv (.tuple []))) (mO c l m' ++ [(921, RB)])) (hc : c[p]? = some (6, 0)) : AC Tryz.prog gl 113 [.loc 901 0] (mO c l m) (.ret (.pv (.bool true))) (mO c l m' ++ [(921, RB)]) := by
  have eS : mS (nxt m) = mS m := rfl
  have eF : mF (nxt m) = mF m := rfl
  refine bodyM (c := c67) (ks := [901, 902, 903] ++ frN (m.frames ++ m.fg)) [] (frN (m.frames ++ m.fg)) Tryz.func113 Tryz.ntmps113 ?_ (hks := rfl) (hms1 := mO_1 c l m rfl) (hms2 := mO_2 c l m (fun n hn => by have := hN n hn; omega)) (hms3 := ?_) (hna := mO_3 c l m rfl) (hno := ?_)
  rotate_left
  · intro n hn
    have := hN n hn
    simp [keysO, mO]
    omega
  · rw [subL_iff]
    intro n hn
    have h1 := namesOb_mO c l m' n
    have h2 := hm' n
    simp only [Out.names, V.names, List.nil_append, namesOb_app, namesOb, hRB, List.mem_append, List.mem_cons, List.not_mem_nil, or_false, keysO, mO, List.map_append, List.map_cons, List.map_nil] at hn h1 ⊢
    grind
  have h921 : 921 ∉ frN (m.frames ++ m.fg) := fun h => by have := hN 921 h; omega
  refine step_pre c l m p 6 0 hat hc hst hsl hp (mS m) (mF m) (mS m) _ (fun h => by have := hN 3 h; omega) _ (mS_names m) (hF_of m) (mS_names m) ?_ (fun _ h => h)
  simp only [sw67, right, c67, Tryz.f113, Option.getD_some]
  clear hN
  generalize frN (m.frames ++ m.fg) = ms at *
  simp only [mO, eS, eF] at *
  clear hm' hRB
  generalize mB c l m' = B2 at *
  generalize mS m' = S2 at *
  generalize mF m' = F2 at *
  simp only [List.cons_append, List.nil_append] at *
  clear eS eF
  generalize mS m = S1 at *
  generalize mF m = F1 at *
  generalize mB c l (nxt m) = B1 at *
  try simp only [Int.cast_ofNat_Int] at *
  refine gg ?_
  refine callS he ?_
  refine gg ?_
  exact ⟨by simp [retIs, resV, resL, resOne, mkTup, getS, getO, rdV, mkAgg, unL, V.un, TI.isAgg, XX_T, tt30, Tryz.f113], by simp [subO, getO, tt30, Tryz.f113]⟩
theorem step_fold_err (q : PV) (he : AC Tryz.prog gl 131 [.loc 901 0, .pv (.bool true)] (mO c l (nxt m)) (.panic q) []) (hc : c[p]? = some (9, 0)) : AC Tryz.prog gl 113 [.loc 901 0] (mO c l m) (.panic q) [] := by
  have eS : mS (nxt m) = mS m := rfl
  have eF : mF (nxt m) = mF m := rfl
  refine bodyM (c := c67) (ks := [901, 902, 903] ++ frN (m.frames ++ m.fg)) [] (frN (m.frames ++ m.fg)) Tryz.func113 Tryz.ntmps113 ?_ (hks := rfl) (hms1 := mO_1 c l m rfl) (hms2 := mO_2 c l m (fun n hn => by have := hN n hn; omega)) (hms3 := by simp [keysO]) (hna := mO_3 c l m rfl) (hno := by simp [subL, Out.names, namesOb])
  refine step_pre c l m p 9 0 hat hc hst hsl hp (mS m) (mF m) (mS m) _ (fun h => by have := hN 3 h; omega) _ (mS_names m) (hF_of m) (mS_names m) ?_ (fun _ h => h)
  simp only [sw67, right, c67, Tryz.f113, Option.getD_some]
  clear hN
  generalize frN (m.frames ++ m.fg) = ms at *
  simp only [mO, eS, eF] at *
  clear eS eF
  generalize mS m = S1 at *
  generalize mF m = F1 at *
  generalize mB c l (nxt m) = B1 at *
  try simp only [Int.cast_ofNat_Int] at *
  refine gg ?_
  refine callP he ?_
  refine gg ?_
  exact ⟨rfl, trivial⟩
theorem step_fold_zero (m' : Ms) (hm' : ∀ n ∈ frN (m'.frames ++ m'.fg), n ∈ frN (m.frames ++ m.fg)) (he : AC Tryz.prog gl 131 [.loc 901 0, .pv (.bool true)] (mO c l (nxt m)) (.ret (.pv (.tuple []))) (mO c l m')) (hc : c[p]? = some (9, 0)) : AC Tryz.prog gl 113 [.loc 901 0] (mO c l m) (.ret (.pv (.bool true))) (mO c l m') := by
  have eS : mS (nxt m) = mS m := rfl
  have eF : mF (nxt m) = mF m := rfl
  refine bodyM (c := c67) (ks := [901, 902, 903] ++ frN (m.frames ++ m.fg)) [] (frN (m.frames ++ m.fg)) Tryz.func113 Tryz.ntmps113 ?_ (hks := rfl) (hms1 := mO_1 c l m rfl) (hms2 := mO_2 c l m (fun n hn => by have := hN n hn; omega)) (hms3 := mO_2 c l _ (fun n hn => by have := hN n hn; omega)) (hna := mO_3 c l m rfl) (hno := st_no c l m _ true hm')
  refine step_pre c l m p 9 0 hat hc hst hsl hp (mS m) (mF m) (mS m) _ (fun h => by have := hN 3 h; omega) _ (mS_names m) (hF_of m) (mS_names m) ?_ (fun _ h => h)
  simp only [sw67, right, c67, Tryz.f113, Option.getD_some]
  clear hN
  generalize frN (m.frames ++ m.fg) = ms at *
  simp only [mO, eS, eF] at *
  clear hm'
  generalize mB c l m' = B2 at *
  generalize mS m' = S2 at *
  generalize mF m' = F2 at *
  clear eS eF
  generalize mS m = S1 at *
  generalize mF m = F1 at *
  generalize mB c l (nxt m) = B1 at *
  try simp only [Int.cast_ofNat_Int] at *
  refine gg ?_
  refine call he ?_
  refine gg ?_
  exact ⟨by simp [retIs, resV, resL, resOne, mkTup, getS, getO, rdV, mkAgg, unL, V.un, TI.isAgg, XX_T, tt30, Tryz.f113], by simp [subO, getO, tt30, Tryz.f113]⟩
theorem step_fold (m' : Ms) (RB : Ob) (hRB : RB.names = []) (hm' : ∀ n ∈ frN (m'.frames ++ m'.fg), n ∈ frN (m.frames ++ m.fg) ∨ n = 921) (he : AC Tryz.prog gl 131 [.loc 901 0, .pv (.bool true)] (mO c l (nxt m)) (.ret (.pv (.tuple []))) (mO c l m' ++ [(921, RB)])) (hc : c[p]? = some (9, 0)) : AC Tryz.prog gl 113 [.loc 901 0] (mO c l m) (.ret (.pv (.bool true))) (mO c l m' ++ [(921, RB)]) := by
  have eS : mS (nxt m) = mS m := rfl
  have eF : mF (nxt m) = mF m := rfl
  refine bodyM (c := c67) (ks := [901, 902, 903] ++ frN (m.frames ++ m.fg)) [] (frN (m.frames ++ m.fg)) Tryz.func113 Tryz.ntmps113 ?_ (hks := rfl) (hms1 := mO_1 c l m rfl) (hms2 := mO_2 c l m (fun n hn => by have := hN n hn; omega)) (hms3 := ?_) (hna := mO_3 c l m rfl) (hno := ?_)
  rotate_left
  · intro n hn
    have := hN n hn
    simp [keysO, mO]
    omega
  · rw [subL_iff]
    intro n hn
    have h1 := namesOb_mO c l m' n
    have h2 := hm' n
    simp only [Out.names, V.names, List.nil_append, namesOb_app, namesOb, hRB, List.mem_append, List.mem_cons, List.not_mem_nil, or_false, keysO, mO, List.map_append, List.map_cons, List.map_nil] at hn h1 ⊢
    grind
  have h921 : 921 ∉ frN (m.frames ++ m.fg) := fun h => by have := hN 921 h; omega
  refine step_pre c l m p 9 0 hat hc hst hsl hp (mS m) (mF m) (mS m) _ (fun h => by have := hN 3 h; omega) _ (mS_names m) (hF_of m) (mS_names m) ?_ (fun _ h => h)
  simp only [sw67, right, c67, Tryz.f113, Option.getD_some]
  clear hN
  generalize frN (m.frames ++ m.fg) = ms at *
  simp only [mO, eS, eF] at *
  clear hm' hRB
  generalize mB c l m' = B2 at *
  generalize mS m' = S2 at *
  generalize mF m' = F2 at *
  simp only [List.cons_append, List.nil_append] at *
  clear eS eF
  generalize mS m = S1 at *
  generalize mF m = F1 at *
  generalize mB c l (nxt m) = B1 at *
  try simp only [Int.cast_ofNat_Int] at *
  refine gg ?_
  refine callS he ?_
  refine gg ?_
  exact ⟨by simp [retIs, resV, resL, resOne, mkTup, getS, getO, rdV, mkAgg, unL, V.un, TI.isAgg, XX_T, tt30, Tryz.f113], by simp [subO, getO, tt30, Tryz.f113]⟩
theorem step_ret (b : Bool) (m' : Ms) (hm' : ∀ n ∈ frN (m'.frames ++ m'.fg), n ∈ frN (m.frames ++ m.fg)) (he : AC Tryz.prog gl 132 [.loc 901 0] (mO c l (nxt m)) (.ret (.pv (.bool b))) (mO c l m')) (hc : c[p]? = some (14, 0)) : AC Tryz.prog gl 113 [.loc 901 0] (mO c l m) (.ret (.pv (.bool b))) (mO c l m') := by
  have eS : mS (nxt m) = mS m := rfl
  have eF : mF (nxt m) = mF m := rfl
  refine bodyM (c := c67) (ks := [901, 902, 903] ++ frN (m.frames ++ m.fg)) [] (frN (m.frames ++ m.fg)) Tryz.func113 Tryz.ntmps113 ?_ (hks := rfl) (hms1 := mO_1 c l m rfl) (hms2 := mO_2 c l m (fun n hn => by have := hN n hn; omega)) (hms3 := mO_2 c l _ (fun n hn => by have := hN n hn; omega)) (hna := mO_3 c l m rfl) (hno := st_no c l m _ b hm')
  refine step_pre c l m p 14 0 hat hc hst hsl hp (mS m) (mF m) (mS m) _ (fun h => by have := hN 3 h; omega) _ (mS_names m) (hF_of m) (mS_names m) ?_ (fun _ h => h)
  simp only [sw67, right, c67, Tryz.f113, Option.getD_some]
  clear hN
  generalize frN (m.frames ++ m.fg) = ms at *
  simp only [mO, eS, eF] at *
  clear hm'
  generalize mB c l m' = B2 at *
  generalize mS m' = S2 at *
  generalize mF m' = F2 at *
  clear eS eF
  generalize mS m = S1 at *
  generalize mF m = F1 at *
  generalize mB c l (nxt m) = B1 at *
  try simp only [Int.cast_ofNat_Int] at *
  refine gg ?_
  refine call he ?_
  refine gg ?_
  exact ⟨by simp [retIs, resV, resL, resOne, mkTup, getS, getO, rdV, mkAgg, unL, V.un, TI.isAgg, XX_T, tt30, Tryz.f113], by simp [subO, getO, tt30, Tryz.f113]⟩
end
end Go.Proofs.YtodjpfpmhjdhbaaGreatDoor
