/- Contracts of functions; no conditions. -/
import Derived.Test.YtodjpfpmhjdhbaaGreatDoorTwiceC6
set_option linter.all false
namespace Go.Proofs.YtodjpfpmhjdhbaaGreatDoor
open Go.Lg
theorem enC7 {P Q : Prop} (h : P := by simp [retIs,resV,resL,resOne,mkTup,getS,getO,rdV,mkAgg,unL,V.un,TI.isAgg,XX_T,tt27,Tryz.f153,Tryz.f146,tt188,Tryz.f125,Tryz.f95,Tryz.f96,Tryz.f133]) (k : Q := by simp [subO,getO,tt27,Tryz.f153,Tryz.f146,tt188,Tryz.f125,Tryz.f95,Tryz.f96,Tryz.f133]) : P ∧ Q := ⟨h,k⟩
end Go.Proofs.YtodjpfpmhjdhbaaGreatDoor
namespace Go.Proofs.YtodjpfpmhjdhbaaGreatDoor
open Go.Lg
set_option maxRecDepth 10000
set_option maxHeartbeats 4000000
theorem DI_of {l:Nums} {x:It} (h:(numI l x).2=l):DI l (itP x):=⟨x,rfl,h⟩
theorem DV_of {l:Nums} {x:It} {r:List It} (h:(numV l (x::r)).2=l):DV l (varsP (x::r)):=⟨x,r,rfl,h⟩
theorem vars_nil (hits:Nat) (l:Nums):AC Tryz.prog gl 153 [.loc 980 0,.pv (varsP [])] (tabN l hits) (.ret (.pv (.int ((numV l []).1:Nat)))) (tabN (numV l []).2 hits):=by
 simp only [varsP,numV,tabN,tB]
 refine bodyM [] [985] Tryz.func153 Tryz.ntmps153 ?_
 refine gg ?_
 exact enC7
theorem item_num (hits:Nat) (k:Nat) (l:Nums) (hl:l.length≤1152921504606846976) (hs:Sh l) :
  AC Tryz.prog gl 146 [.loc 980 0,.pv (itP (.num k))] (tabN l hits) (.ret (.pv (.int ((numI l (.num k)).1:Nat)))) (tabN (numI l (.num k)).2 hits):=by
 have hn:=mnum_ok l hits (1) ((k:Int)) (0) hl hs
 have hp:=num_pre l [1,(k:Int),0]
 have hk:=numI_known l (.num k)
 have hd2:DI (numI l (.num k)).2 (itP (.num k)):=DI_of (by rw [hk])
 have hf2:=FI_it (numI l (.num k)).2 (.num k)
 rw [hk] at hf2
 have e3:numI l (.num k)=num l [1,(k:Int),0]:=rfl
 have c2:=cohI (numI l (.num k)).2
 have c3:=cohL (numI l (.num k)).2
 have c4:=cohV (numI l (.num k)).2
 have m2:=monI hp
 have m3:=monL hp
 have m4:=monV hp
 by_cases hkn:(numI l (.num k)).2=l
 ·have hd1:DI l (itP (.num k)):=DI_of hkn
  have hf1:=FI_it l (.num k)
  have hkn':=hkn
  rw [e3] at hkn' hf1 hf2 hd2 c2 c3 c4 ⊢
  generalize num l [1,(k:Int),0]=r2 at *
  clear e3 hkn hk hl hs
  simp only [itP] at *
  subst hkn'
  unfold tabN tB at *
  refine bodyM [] [985] Tryz.func146 Tryz.ntmps146 ?_
  refine gg ?_
  refine look (n:=982) (F:=FI r2.2) hd1 ?_
  intro b
  cases b with
  | true =>
   simp only [cond_true,hf1]
   refine gg ?_
   exact enC7
  | false =>
   simp only [cond_false]
   refine gg ?_
   refine call hn ?_
   refine ggox ?_
   refine mor 982 _ _ ?_ m2 c2
   refine mor 983 _ _ ?_ m3 c3
   refine mor 984 _ _ ?_ m4 c4
   refine gg ?_
   exact enC7
 ·have hN:=notI hkn
  rw [e3] at hf2 hd2 c2 c3 c4 ⊢
  generalize num l [1,(k:Int),0]=r2 at *
  clear e3 hkn hk hl hs
  simp only [itP] at *
  unfold tabN tB at *
  refine bodyM [] [985] Tryz.func146 Tryz.ntmps146 ?_
  refine gg ?_
  refine lookN (n:=982) (F:=FI l) hN ?_
  refine gg ?_
  refine call hn ?_
  refine ggox ?_
  refine mor 982 _ _ ?_ m2 c2
  refine mor 983 _ _ ?_ m3 c3
  refine mor 984 _ _ ?_ m4 c4
  refine gg ?_
  exact enC7
theorem item_unit (hits:Nat) (k:Nat) (l:Nums) (hl:l.length≤1152921504606846976) (hs:Sh l) :
  AC Tryz.prog gl 146 [.loc 980 0,.pv (itP .unit)] (tabN l hits) (.ret (.pv (.int ((numI l .unit).1:Nat)))) (tabN (numI l .unit).2 hits):=by
 have hn:=mnum_ok l hits (4) (0) (0) hl hs
 have hp:=num_pre l [4,0,0]
 have hk:=numI_known l .unit
 have hd2:DI (numI l .unit).2 (itP .unit):=DI_of (by rw [hk])
 have hf2:=FI_it (numI l .unit).2 .unit
 rw [hk] at hf2
 have e3:numI l .unit=num l [4,0,0]:=rfl
 have c2:=cohI (numI l .unit).2
 have c3:=cohL (numI l .unit).2
 have c4:=cohV (numI l .unit).2
 have m2:=monI hp
 have m3:=monL hp
 have m4:=monV hp
 by_cases hkn:(numI l .unit).2=l
 ·have hd1:DI l (itP .unit):=DI_of hkn
  have hf1:=FI_it l .unit
  have hkn':=hkn
  rw [e3] at hkn' hf1 hf2 hd2 c2 c3 c4 ⊢
  generalize num l [4,0,0]=r2 at *
  clear e3 hkn hk hl hs
  simp only [itP] at *
  subst hkn'
  unfold tabN tB at *
  refine bodyM [] [985] Tryz.func146 Tryz.ntmps146 ?_
  refine gg ?_
  refine look (n:=982) (F:=FI r2.2) hd1 ?_
  intro b
  cases b with
  | true =>
   simp only [cond_true,hf1]
   refine gg ?_
   exact enC7
  | false =>
   simp only [cond_false]
   refine gg ?_
   refine call hn ?_
   refine ggox ?_
   refine mor 982 _ _ ?_ m2 c2
   refine mor 983 _ _ ?_ m3 c3
   refine mor 984 _ _ ?_ m4 c4
   refine gg ?_
   exact enC7
 ·have hN:=notI hkn
  rw [e3] at hf2 hd2 c2 c3 c4 ⊢
  generalize num l [4,0,0]=r2 at *
  clear e3 hkn hk hl hs
  simp only [itP] at *
  unfold tabN tB at *
  refine bodyM [] [985] Tryz.func146 Tryz.ntmps146 ?_
  refine gg ?_
  refine lookN (n:=982) (F:=FI l) hN ?_
  refine gg ?_
  refine call hn ?_
  refine ggox ?_
  refine mor 982 _ _ ?_ m2 c2
  refine mor 983 _ _ ?_ m3 c3
  refine mor 984 _ _ ?_ m4 c4
  refine gg ?_
  exact enC7
theorem item_list (hits:Nat) (x:List Nat) (l:Nums) (hl:(numL l x).2.length≤1152921504606846976) (hs:Sh (numL l x).2) (h1:AC Tryz.prog gl 152 [.loc 980 0,.pv (linkP x)] (tabN l hits) (.ret (.pv (.int ((numL l x).1:Nat)))) (tabN (numL l x).2 hits)) :
  AC Tryz.prog gl 146 [.loc 980 0,.pv (itP (.list x))] (tabN l hits) (.ret (.pv (.int ((numI l (.list x)).1:Nat)))) (tabN (numI l (.list x)).2 hits):=by
 have hn:=mnum_ok (numL l x).2 hits (2) (((numL l x).1:Int)) (0) hl hs
 have hp:=num_pre (numL l x).2 [2,((numL l x).1:Int),0]
 have hk:=numI_known l (.list x)
 have hd2:DI (numI l (.list x)).2 (itP (.list x)):=DI_of (by rw [hk])
 have hf2:=FI_it (numI l (.list x)).2 (.list x)
 rw [hk] at hf2
 have e3:numI l (.list x)=num (numL l x).2 [2,((numL l x).1:Int),0]:=rfl
 have c2:=cohI (numI l (.list x)).2
 have c3:=cohL (numI l (.list x)).2
 have c4:=cohV (numI l (.list x)).2
 have m2:=monI hp
 have m3:=monL hp
 have m4:=monV hp
 have w1:=vcells_one (linkP_one x)
 have o1:(V.pv (linkP x)).one=true:=by rw [one_pv];exact linkP_one x
 by_cases hkn:(numI l (.list x)).2=l
 ·have hd1:DI l (itP (.list x)):=DI_of hkn
  have hf1:=FI_it l (.list x)
  have hkn':=hkn
  rw [e3] at hkn' hf1 hf2 hd2 c2 c3 c4 ⊢
  generalize num (numL l x).2 [2,((numL l x).1:Int),0]=r2 at *
  clear e3 hkn hk hl hs
  simp only [itP] at *
  generalize linkP x=lk at *
  generalize numL l x=r1 at *
  subst hkn'
  unfold tabN tB at *
  refine bodyM [] [985] Tryz.func146 Tryz.ntmps146 ?_
  refine gg ?_
  refine look (n:=982) (F:=FI r2.2) hd1 ?_
  intro b
  cases b with
  | true =>
   simp only [cond_true,hf1]
   refine gg ?_
   exact enC7
  | false =>
   simp only [cond_false]
   refine gg ?_
   refine call h1 ?_
   refine gg ?_
   refine call hn ?_
   refine ggox ?_
   refine mor 982 _ _ ?_ m2 c2
   refine mor 983 _ _ ?_ m3 c3
   refine mor 984 _ _ ?_ m4 c4
   refine gg ?_
   exact enC7
 ·have hN:=notI hkn
  rw [e3] at hf2 hd2 c2 c3 c4 ⊢
  generalize num (numL l x).2 [2,((numL l x).1:Int),0]=r2 at *
  clear e3 hkn hk hl hs
  simp only [itP] at *
  generalize linkP x=lk at *
  generalize numL l x=r1 at *
  unfold tabN tB at *
  refine bodyM [] [985] Tryz.func146 Tryz.ntmps146 ?_
  refine gg ?_
  refine lookN (n:=982) (F:=FI l) hN ?_
  refine gg ?_
  refine call h1 ?_
  refine gg ?_
  refine call hn ?_
  refine ggox ?_
  refine mor 982 _ _ ?_ m2 c2
  refine mor 983 _ _ ?_ m3 c3
  refine mor 984 _ _ ?_ m4 c4
  refine gg ?_
  exact enC7
theorem item_pair (hits:Nat) (a b:It) (l:Nums) (hl:(numI (numI l a).2 b).2.length≤1152921504606846976) (hs:Sh (numI (numI l a).2 b).2) (h1:AC Tryz.prog gl 146 [.loc 980 0,.pv (itP a)] (tabN l hits) (.ret (.pv (.int ((numI l a).1:Nat)))) (tabN (numI l a).2 hits)) (h2:AC Tryz.prog gl 146 [.loc 980 0,.pv (itP b)] (tabN (numI l a).2 hits) (.ret (.pv (.int ((numI (numI l a).2 b).1:Nat)))) (tabN (numI (numI l a).2 b).2 hits)) :
  AC Tryz.prog gl 146 [.loc 980 0,.pv (itP (.pair a b))] (tabN l hits) (.ret (.pv (.int ((numI l (.pair a b)).1:Nat)))) (tabN (numI l (.pair a b)).2 hits):=by
 have hn:=mnum_ok (numI (numI l a).2 b).2 hits (3) (((numI l a).1:Int)) (((numI (numI l a).2 b).1:Int)) hl hs
 have hp:=num_pre (numI (numI l a).2 b).2 [3,((numI l a).1:Int),((numI (numI l a).2 b).1:Int)]
 have hk:=numI_known l (.pair a b)
 have hd2:DI (numI l (.pair a b)).2 (itP (.pair a b)):=DI_of (by rw [hk])
 have hf2:=FI_it (numI l (.pair a b)).2 (.pair a b)
 rw [hk] at hf2
 have e3:numI l (.pair a b)=num (numI (numI l a).2 b).2 [3,((numI l a).1:Int),((numI (numI l a).2 b).1:Int)]:=rfl
 have c2:=cohI (numI l (.pair a b)).2
 have c3:=cohL (numI l (.pair a b)).2
 have c4:=cohV (numI l (.pair a b)).2
 have m2:=monI hp
 have m3:=monL hp
 have m4:=monV hp
 have w1:=vcells_one (itP_one a)
 have o1:(V.pv (itP a)).one=true:=by rw [one_pv];exact itP_one a
 have w2:=vcells_one (itP_one b)
 have o2:(V.pv (itP b)).one=true:=by rw [one_pv];exact itP_one b
 by_cases hkn:(numI l (.pair a b)).2=l
 ·have hd1:DI l (itP (.pair a b)):=DI_of hkn
  have hf1:=FI_it l (.pair a b)
  have hkn':=hkn
  rw [e3] at hkn' hf1 hf2 hd2 c2 c3 c4 ⊢
  generalize num (numI (numI l a).2 b).2 [3,((numI l a).1:Int),((numI (numI l a).2 b).1:Int)]=r2 at *
  clear e3 hkn hk hl hs
  simp only [itP] at *
  generalize itP a=pa at *
  generalize itP b=pb at *
  generalize (2+a.more+b.more:Nat)=mo at *
  generalize (a.func || b.func)=fu at *
  generalize numI (numI l a).2 b=r1 at *
  generalize numI l a=r0 at *
  subst hkn'
  unfold tabN tB at *
  refine bodyM [] [985] Tryz.func146 Tryz.ntmps146 ?_
  refine gg ?_
  refine look (n:=982) (F:=FI r2.2) hd1 ?_
  intro b
  cases b with
  | true =>
   simp only [cond_true,hf1]
   refine gg ?_
   exact enC7
  | false =>
   simp only [cond_false]
   refine gg ?_
   refine call h1 ?_
   refine gg ?_
   refine call h2 ?_
   refine gg ?_
   refine⟨by rfl,?_⟩
   refine gg ?_
   refine call hn ?_
   refine ggox ?_
   refine mor 982 _ _ ?_ m2 c2
   refine mor 983 _ _ ?_ m3 c3
   refine mor 984 _ _ ?_ m4 c4
   refine gg ?_
   exact enC7
 ·have hN:=notI hkn
  rw [e3] at hf2 hd2 c2 c3 c4 ⊢
  generalize num (numI (numI l a).2 b).2 [3,((numI l a).1:Int),((numI (numI l a).2 b).1:Int)]=r2 at *
  clear e3 hkn hk hl hs
  simp only [itP] at *
  generalize itP a=pa at *
  generalize itP b=pb at *
  generalize (2+a.more+b.more:Nat)=mo at *
  generalize (a.func || b.func)=fu at *
  generalize numI (numI l a).2 b=r1 at *
  generalize numI l a=r0 at *
  unfold tabN tB at *
  refine bodyM [] [985] Tryz.func146 Tryz.ntmps146 ?_
  refine gg ?_
  refine lookN (n:=982) (F:=FI l) hN ?_
  refine gg ?_
  refine call h1 ?_
  refine gg ?_
  refine call h2 ?_
  refine gg ?_
  refine⟨by rfl,?_⟩
  refine gg ?_
  refine call hn ?_
  refine ggox ?_
  refine mor 982 _ _ ?_ m2 c2
  refine mor 983 _ _ ?_ m3 c3
  refine mor 984 _ _ ?_ m4 c4
  refine gg ?_
  exact enC7
theorem item_fn (hits:Nat) (p:Nat) (vs:List It) (l:Nums) (hl:(numV l vs).2.length≤1152921504606846976) (hs:Sh (numV l vs).2) (h1:AC Tryz.prog gl 153 [.loc 980 0,.pv (varsP vs)] (tabN l hits) (.ret (.pv (.int ((numV l vs).1:Nat)))) (tabN (numV l vs).2 hits)) :
  AC Tryz.prog gl 146 [.loc 980 0,.pv (itP (.fn p vs))] (tabN l hits) (.ret (.pv (.int ((numI l (.fn p vs)).1:Nat)))) (tabN (numI l (.fn p vs)).2 hits):=by
 have hn:=mnum_ok (numV l vs).2 hits (5) ((p:Int)) (((numV l vs).1:Int)) hl hs
 have hp:=num_pre (numV l vs).2 [5,(p:Int),((numV l vs).1:Int)]
 have hk:=numI_known l (.fn p vs)
 have hd2:DI (numI l (.fn p vs)).2 (itP (.fn p vs)):=DI_of (by rw [hk])
 have hf2:=FI_it (numI l (.fn p vs)).2 (.fn p vs)
 rw [hk] at hf2
 have e3:numI l (.fn p vs)=num (numV l vs).2 [5,(p:Int),((numV l vs).1:Int)]:=rfl
 have c2:=cohI (numI l (.fn p vs)).2
 have c3:=cohL (numI l (.fn p vs)).2
 have c4:=cohV (numI l (.fn p vs)).2
 have m2:=monI hp
 have m3:=monL hp
 have m4:=monV hp
 have w1:=vcells_one (varsP_one vs)
 have o1:(V.pv (varsP vs)).one=true:=by rw [one_pv];exact varsP_one vs
 by_cases hkn:(numI l (.fn p vs)).2=l
 ·have hd1:DI l (itP (.fn p vs)):=DI_of hkn
  have hf1:=FI_it l (.fn p vs)
  have hkn':=hkn
  rw [e3] at hkn' hf1 hf2 hd2 c2 c3 c4 ⊢
  generalize num (numV l vs).2 [5,(p:Int),((numV l vs).1:Int)]=r2 at *
  clear e3 hkn hk hl hs
  simp only [itP] at *
  generalize varsP vs=pv at *
  generalize insideL vs=mo at *
  generalize numV l vs=r1 at *
  subst hkn'
  unfold tabN tB at *
  refine bodyM [] [985] Tryz.func146 Tryz.ntmps146 ?_
  refine gg ?_
  refine look (n:=982) (F:=FI r2.2) hd1 ?_
  intro b
  cases b with
  | true =>
   simp only [cond_true,hf1]
   refine gg ?_
   exact enC7
  | false =>
   simp only [cond_false]
   refine gg ?_
   refine call h1 ?_
   refine gg ?_
   refine⟨by rfl,?_⟩
   refine gg ?_
   refine call hn ?_
   refine ggox ?_
   refine mor 982 _ _ ?_ m2 c2
   refine mor 983 _ _ ?_ m3 c3
   refine mor 984 _ _ ?_ m4 c4
   refine gg ?_
   exact enC7
 ·have hN:=notI hkn
  rw [e3] at hf2 hd2 c2 c3 c4 ⊢
  generalize num (numV l vs).2 [5,(p:Int),((numV l vs).1:Int)]=r2 at *
  clear e3 hkn hk hl hs
  simp only [itP] at *
  generalize varsP vs=pv at *
  generalize insideL vs=mo at *
  generalize numV l vs=r1 at *
  unfold tabN tB at *
  refine bodyM [] [985] Tryz.func146 Tryz.ntmps146 ?_
  refine gg ?_
  refine lookN (n:=982) (F:=FI l) hN ?_
  refine gg ?_
  refine call h1 ?_
  refine gg ?_
  refine⟨by rfl,?_⟩
  refine gg ?_
  refine call hn ?_
  refine ggox ?_
  refine mor 982 _ _ ?_ m2 c2
  refine mor 983 _ _ ?_ m3 c3
  refine mor 984 _ _ ?_ m4 c4
  refine gg ?_
  exact enC7
theorem vars_cons (hits:Nat) (x:It) (r:List It) (l:Nums) (hl:(numV (numI l x).2 r).2.length≤1152921504606846976) (hs:Sh (numV (numI l x).2 r).2) (h1:AC Tryz.prog gl 146 [.loc 980 0,.pv (itP x)] (tabN l hits) (.ret (.pv (.int ((numI l x).1:Nat)))) (tabN (numI l x).2 hits)) (h2:AC Tryz.prog gl 153 [.loc 980 0,.pv (varsP r)] (tabN (numI l x).2 hits) (.ret (.pv (.int ((numV (numI l x).2 r).1:Nat)))) (tabN (numV (numI l x).2 r).2 hits)) :
  AC Tryz.prog gl 153 [.loc 980 0,.pv (varsP (x::r))] (tabN l hits) (.ret (.pv (.int ((numV l (x::r)).1:Nat)))) (tabN (numV l (x::r)).2 hits):=by
 have hn:=mnum_ok (numV (numI l x).2 r).2 hits (-2) (((numI l x).1:Int)) (((numV (numI l x).2 r).1:Int)) hl hs
 have hp:=num_pre (numV (numI l x).2 r).2 [-2,((numI l x).1:Int),((numV (numI l x).2 r).1:Int)]
 have hk:=numV_known l (x::r)
 have hd2:DV (numV l (x::r)).2 (varsP (x::r)):=DV_of (by rw [hk])
 have hf2:=FV_it (numV l (x::r)).2 (x::r)
 rw [hk] at hf2
 have e3:numV l (x::r)=num (numV (numI l x).2 r).2 [-2,((numI l x).1:Int),((numV (numI l x).2 r).1:Int)]:=rfl
 have c2:=cohI (numV l (x::r)).2
 have c3:=cohL (numV l (x::r)).2
 have c4:=cohV (numV l (x::r)).2
 have m2:=monI hp
 have m3:=monL hp
 have m4:=monV hp
 have w1:=vcells_one (itP_one x)
 have o1:(V.pv (itP x)).one=true:=by rw [one_pv];exact itP_one x
 have w2:=vcells_one (varsP_one r)
 have o2:(V.pv (varsP r)).one=true:=by rw [one_pv];exact varsP_one r
 by_cases hkn:(numV l (x::r)).2=l
 ·have hd1:DV l (varsP (x::r)):=DV_of hkn
  have hf1:=FV_it l (x::r)
  have hkn':=hkn
  rw [e3] at hkn' hf1 hf2 hd2 c2 c3 c4 ⊢
  generalize num (numV (numI l x).2 r).2 [-2,((numI l x).1:Int),((numV (numI l x).2 r).1:Int)]=r2 at *
  clear e3 hkn hk hl hs
  simp only [varsP] at *
  generalize itP x=pa at *
  generalize varsP r=pb at *
  generalize (r.length+1:Nat)=ln at *
  generalize (insideL r+1+x.more:Nat)=mo at *
  generalize (funcL r || x.func)=fu at *
  generalize numV (numI l x).2 r=r1 at *
  generalize numI l x=r0 at *
  subst hkn'
  unfold tabN tB at *
  refine bodyM [] [985] Tryz.func153 Tryz.ntmps153 ?_
  refine gg ?_
  refine look (n:=984) (F:=FV r2.2) hd1 ?_
  intro b
  cases b with
  | true =>
   simp only [cond_true,hf1]
   refine gg ?_
   exact enC7
  | false =>
   simp only [cond_false]
   refine gg ?_
   refine call h1 ?_
   refine gg ?_
   refine call h2 ?_
   refine gg ?_
   refine call hn ?_
   refine ggox ?_
   refine⟨by rfl,?_⟩
   refine ggox ?_
   refine mor 982 _ _ ?_ m2 c2
   refine mor 983 _ _ ?_ m3 c3
   refine mor 984 _ _ ?_ m4 c4
   refine gg ?_
   exact enC7
 ·have hN:=notV hkn
  rw [e3] at hf2 hd2 c2 c3 c4 ⊢
  generalize num (numV (numI l x).2 r).2 [-2,((numI l x).1:Int),((numV (numI l x).2 r).1:Int)]=r2 at *
  clear e3 hkn hk hl hs
  simp only [varsP] at *
  generalize itP x=pa at *
  generalize varsP r=pb at *
  generalize (r.length+1:Nat)=ln at *
  generalize (insideL r+1+x.more:Nat)=mo at *
  generalize (funcL r || x.func)=fu at *
  generalize numV (numI l x).2 r=r1 at *
  generalize numI l x=r0 at *
  unfold tabN tB at *
  refine bodyM [] [985] Tryz.func153 Tryz.ntmps153 ?_
  refine gg ?_
  refine lookN (n:=984) (F:=FV l) hN ?_
  refine gg ?_
  refine call h1 ?_
  refine gg ?_
  refine call h2 ?_
  refine gg ?_
  refine call hn ?_
  refine ggox ?_
  refine⟨by rfl,?_⟩
  refine ggox ?_
  refine mor 982 _ _ ?_ m2 c2
  refine mor 983 _ _ ?_ m3 c3
  refine mor 984 _ _ ?_ m4 c4
  refine gg ?_
  exact enC7
mutual
def szI:It→Nat
 | .num _=>1
 | .list l=>l.length+1
 | .pair a b=>szI a+szI b+1
 | .unit=>1
 | .fn _ vs=>szV vs+1
def szV:List It→Nat
 | []=>0
 | x::r=>szI x+szV r+1
end
mutual
theorem numI_len:∀ (x:It) (l:Nums),(numI l x).2.length≤l.length+szI x
 | .num k,l=>by simpa only [numI,szI] using num_len l [1,(k:Int),0]
 | .list x,l=>by
  have h1:=numL_len x l
  have h2:=num_len (numL l x).2 [2,((numL l x).1:Int),0]
  simp only [numI,szI]
  omega
 | .pair a b,l=>by
  have h1:=numI_len a l
  have h2:=numI_len b (numI l a).2
  have h3:=num_len (numI (numI l a).2 b).2 [3,((numI l a).1:Int),((numI (numI l a).2 b).1:Int)]
  simp only [numI,szI]
  omega
 | .unit,l=>by simpa only [numI,szI] using num_len l [4,0,0]
 | .fn p vs,l=>by
  have h1:=numV_len vs l
  have h2:=num_len (numV l vs).2 [5,(p:Int),((numV l vs).1:Int)]
  simp only [numI,szI]
  omega
theorem numV_len:∀ (xs:List It) (l:Nums),(numV l xs).2.length≤l.length+szV xs
 | [],l=>by simp [numV,szV]
 | x::r,l=>by
  have h1:=numI_len x l
  have h2:=numV_len r (numI l x).2
  have h3:=num_len (numV (numI l x).2 r).2 [-2,((numI l x).1:Int),((numV (numI l x).2 r).1:Int)]
  simp only [numV,szV]
  omega
end
mutual
theorem Sh.numI:∀ (x:It) {l:Nums},Sh l→Sh (Go.Lg.numI l x).2
 | .num k,l,h=>h.num rfl
 | .list x,l,h=>h.numL.num rfl
 | .pair a b,l,h=>(Sh.numI b (Sh.numI a h)).num rfl
 | .unit,l,h=>h.num rfl
 | .fn p vs,l,h=>(Sh.numV vs h).num rfl
theorem Sh.numV:∀ (xs:List It) {l:Nums},Sh l→Sh (Go.Lg.numV l xs).2
 | [],l,h=>h
 | x::r,l,h=>(Sh.numV r (Sh.numI x h)).num rfl
end
abbrev ItemC (hits:Nat) (l:Nums) (x:It):Prop:=AC Tryz.prog gl 146 [.loc 980 0,.pv (itP x)] (tabN l hits) (.ret (.pv (.int ((numI l x).1:Nat)))) (tabN (numI l x).2 hits)
abbrev VarsC (hits:Nat) (l:Nums) (x:List It):Prop:=AC Tryz.prog gl 153 [.loc 980 0,.pv (varsP x)] (tabN l hits) (.ret (.pv (.int ((numV l x).1:Nat)))) (tabN (numV l x).2 hits)
mutual
theorem item_ok (hits:Nat):∀ (x:It) (l:Nums),l.length+szI x≤1152921504606846976→Sh l→ItemC hits l x
 | .num k,l,hl,hs=>item_num hits k l (by simp only [szI] at hl;omega) hs
 | .list x,l,hl,hs=>by
  simp only [szI] at hl
  have:=numL_len x l
  exact item_list hits x l (by omega) hs.numL (links_ok hits x l (by omega) hs)
 | .pair a b,l,hl,hs=>by
  simp only [szI] at hl
  have h1:=numI_len a l
  have h2:=numI_len b (numI l a).2
  exact item_pair hits a b l (by omega) (Sh.numI b (Sh.numI a hs)) (item_ok hits a l (by omega) hs) (item_ok hits b (numI l a).2 (by omega) (Sh.numI a hs))
 | .unit,l,hl,hs=>item_unit hits 0 l (by simp only [szI] at hl;omega) hs
 | .fn p vs,l,hl,hs=>by
  simp only [szI] at hl
  have h1:=numV_len vs l
  exact item_fn hits p vs l (by omega) (Sh.numV vs hs) (vars_ok2 hits vs l (by omega) hs)
theorem vars_ok2 (hits:Nat):∀ (xs:List It) (l:Nums),l.length+szV xs≤1152921504606846976→Sh l→VarsC hits l xs
 | [],l,_,_=>vars_nil hits l
 | x::r,l,hl,hs=>by
  simp only [szV] at hl
  have h1:=numI_len x l
  have h2:=numV_len r (numI l x).2
  exact vars_cons hits x r l (by omega) (Sh.numV r (Sh.numI x hs)) (item_ok hits x l (by omega) hs) (vars_ok2 hits r (numI l x).2 (by omega) (Sh.numI x hs))
end
end Go.Proofs.YtodjpfpmhjdhbaaGreatDoor
namespace Go.Lg
def keyN (l:Nums) (f a:It):List Int × Nums:=([(numI l f).1,(numI (numI l f).2 a).1],(numI (numI l f).2 a).2)
structure Tab where
 nums:Nums
 res:List (List Int × It)
 hits:Nat
def rGet (l:List (List Int × It)) (k:List Int):Option It:=match l with
 | []=>none
 | (k',x)::r=>if k=k' then some x else rGet r k
def rSet (l:List (List Int × It)) (k:List Int) (x:It):List (List Int × It):=match l with
 | []=>[(k,x)]
 | (k',y)::r=>if k=k' then (k,x)::r else (k',y)::rSet r k x
def plainC (f a:It):Bool:=!a.func && (match f with
 | .fn _ vs => !funcL vs
 | _=>true)
def Tab.hit (T:Tab) (f a:It):Tab:=⟨(keyN T.nums f a).2,T.res,T.hits+1⟩
def Tab.miss (T:Tab) (f a:It):Tab:=⟨(keyN T.nums f a).2,T.res,T.hits⟩
def Tab.get (T:Tab) (f a:It):Option It:=rGet T.res (keyN T.nums f a).1
def Tab.store (T:Tab) (f a x:It):Tab :=
 if T.res.length<256 then ⟨(keyN T.nums f a).2,rSet T.res (keyN T.nums f a).1 x,T.hits⟩ else T
structure Mm where
 steps:Nat
 stack:List It
 sg:List It
 sv:Nat
 frames:List Fr
 fg:List Fr
 fv:Nat
 at_:Int
 vars:List It
 tab:Tab
def Mm.push (m:Mm) (x:It):Mm:={ m with stack:=m.stack++[x],sg:=[],sv:=m.sv+1 }
def Mm.pop (m:Mm):Option (It × Mm):=match m.stack.getLast? with
 | some x=>some (x,{ m with stack:=m.stack.dropLast,sg:=x::m.sg })
 | none=>none
inductive Rm where
 | go (m:Mm)
 | stop (m:Mm)
 | err (e:Nat)
def Mm.into (m:Mm) (f a:It) (p:Nat) (vs:List It) (rd:Option (Nat × Rd)):Rm :=
 if 1024≤m.frames.length then .err 4
 else .go { m with frames:=m.frames++[⟨m.at_,m.vars,f,a,rd⟩],fg:=[],fv:=m.fv+1,at_:=p,vars:=a::vs }
def Mm.enterN:Nat→Mm→It→It→Option (Nat × Rd)→Option Rm
 | 0,_,_,_,_=>none
 | k+1,m,f,a,rd=>match f with
  | .fn p vs =>
   if plainC (.fn p vs) a=true then
    match m.tab.get (.fn p vs) a with
    | some x=>match rd with
     | none=>some (.go (Mm.push { m with tab:=m.tab.hit (.fn p vs) a } x))
     | some (n,r)=>match r.returned x with
      | none=>none
      | some (none,_)=>some (.go (Mm.push { m with tab:=m.tab.hit (.fn p vs) a } x))
      | some (some (f',a'),r')=>Mm.enterN k { m with tab:=m.tab.hit (.fn p vs) a } f' a' (some (n,r'))
    | none=>some (Mm.into { m with tab:=m.tab.miss (.fn p vs) a } (.fn p vs) a p vs rd)
   else some (m.into (.fn p vs) a p vs rd)
  | _=>some (.err 44)
def rdFuel:Option (Nat × Rd)→Nat
 | none=>1
 | some (_,r)=>(r.count-r.next) * 3+r.left.length+1
def Mm.enter (m:Mm) (f a:It) (rd:Option (Nat × Rd)):Option Rm:=m.enterN (rdFuel rd) f a rd
def Mm.recursion (m:Mm) (n:Nat) (list:Bool):Option Rm:=match m.pop with
 | none=>none
 | some (x,m)=>match m.pop with
  | none=>none
  | some (f,m)=>match m.pop with
   | none=>none
   | some (b,m)=>match f with
    | .fn _ _=>match rdOf f b list x with
     | none=>some (.err 44)
     | some r=>if r.count=0 then some (.go (m.push b))
      else match r.begin with
       | some (g,a,r')=>m.enter g a (some (n,r'))
       | none=>none
    | _=>some (.err 44)
def Mm.popF (m:Mm):Option (Fr × Mm):=match m.frames.getLast? with
 | some x=>some (x,{ m with frames:=m.frames.dropLast,fg:=x::m.fg,at_:=x.at_,vars:=x.vars })
 | none=>none
def stopIfM (m:Mm):Rm:=if 0≤m.at_ then .go m else .stop m
def Mm.keep (m:Mm) (f a x:It):Mm:=if plainC f a=true then { m with tab:=m.tab.store f a x } else m
def Mm.leave (m:Mm):Option Rm:=match m.pop with
 | none=>none
 | some (x,m)=>match m.popF with
  | none=>some (.stop (m.push x))
  | some (fr,m)=>match fr.rd with
   | none=>some (stopIfM ((m.keep fr.f fr.a x).push x))
   | some (n,r)=>match r.returned x with
    | none=>none
    | some (none,_)=>some (stopIfM ((m.keep fr.f fr.a x).push x))
    | some (some (f,a),r')=>(m.keep fr.f fr.a x).enter f a (some (n,r'))
def madeM (m:Mm) (x:It):Rm:=if 1024≤x.more then .err 4 else .go (m.push x)
def Mm.exec (m:Mm) (n:Nat) (op a:Nat):Option Rm:=match op with
 | 1=>match m.vars[a]? with
  | some x=>some (.go (m.push x))
  | none=>some (.err 44)
 | 2=>some (madeM m (.fn a m.vars))
 | 3=>match m.pop with
  | none=>none
  | some (x,m)=>match m.pop with
   | none=>none
   | some (f,m)=>m.enter f x none
 | 4=>some (.go (m.push (.num 0)))
 | 5=>match m.pop with
  | none=>none
  | some (.num k,m)=>some (.go (m.push (.num (k+1))))
  | some _=>some (.err 44)
 | 6=>m.recursion n false
 | 9=>m.recursion n true
 | 7=>some (.go (m.push (.list [])))
 | 8=>match m.pop with
  | none=>none
  | some (l,m)=>match m.pop with
   | none=>none
   | some (h,m)=>match h,l with
    | .num h,.list l=>if 1024≤l.length then some (.err 4) else some (.go (m.push (.list (h::l))))
    | _,_=>some (.err 44)
 | 10=>match m.pop with
  | none=>none
  | some (b,m)=>match m.pop with
   | none=>none
   | some (a,m)=>some (madeM m (.pair a b))
 | 11=>match m.pop with
  | none=>none
  | some (.pair a _,m)=>some (.go (m.push a))
  | some _=>some (.err 44)
 | 12=>match m.pop with
  | none=>none
  | some (.pair _ b,m)=>some (.go (m.push b))
  | some _=>some (.err 44)
 | 13=>some (.go (m.push .unit))
 | _=>m.leave
def Mm.step (c:List (Nat × Nat)) (limit:Nat) (n:Nat) (m:Mm):Option Rm :=
 if m.steps=limit then some (.err 5)
 else if m.at_<0 then none
 else match c[m.at_.toNat]? with
  | none=>none
  | some (op,a)=>Mm.exec { m with steps:=m.steps+1,at_:=m.at_+1 } n op a
end Go.Lg
namespace Go.Proofs.YtodjpfpmhjdhbaaGreatDoor
open Go.Lg
set_option maxRecDepth 10000
set_option maxHeartbeats 4000000
theorem key_ok (hits:Nat) (l:Nums) (f a:It) (hl:l.length+szI f+szI a≤1152921504606846976) (hs:Sh l) :
  AC Tryz.prog gl 125 [.loc 980 0,.pv (itP f),.pv (itP a)] (tabN l hits) (.ret (.pv (.agg ((keyN l f a).1.map PV.int)))) (tabN (keyN l f a).2 hits):=by
 have h0:=numI_len f l
 have h1:=item_ok hits f l (by omega) hs
 have h2:=item_ok hits a (numI l f).2 (by omega) (Sh.numI f hs)
 have w1:=vcells_one (itP_one f)
 have o1:(V.pv (itP f)).one=true:=by rw [one_pv];exact itP_one f
 have w2:=vcells_one (itP_one a)
 have o2:(V.pv (itP a)).one=true:=by rw [one_pv];exact itP_one a
 simp only [keyN,List.map_cons,List.map_nil]
 unfold ItemC at *
 generalize numI (numI l f).2 a=r1 at *
 generalize numI l f=r0 at *
 generalize itP f=pf at *
 generalize itP a=pa at *
 unfold tabN tB at *
 clear hl hs h0
 refine bodyM [] [985] Tryz.func125 Tryz.ntmps125 ?_
 refine gg ?_
 refine call h1 ?_
 refine gg ?_
 refine call h2 ?_
 refine gg ?_
 exact enC7
def resE (l:List (List Int × It)):List (List Int × PV):=l.map fun p=>(p.1,itP p.2)
noncomputable def tabO (T:Tab):List (Nat × Ob):=tabN T.nums T.hits++[(985,.imap (resE T.res))]
theorem resE_get:∀ (l:List (List Int × It)) (k:List Int),imGet (resE l) k=(rGet l k).map itP
 | [],_=>rfl
 | (k',y)::r,k=>by
  have ih:=resE_get r k
  simp only [resE,List.map_cons,imGet,rGet] at ih ⊢
  split
  ·rfl
  ·exact ih
theorem resE_set:∀ (l:List (List Int × It)) (k:List Int) (x:It),imSet (resE l) k (itP x)=resE (rSet l k x)
 | [],_,_=>rfl
 | (k',y)::r,k,x=>by
  have ih:=resE_set r k x
  simp only [resE,List.map_cons,imSet,rSet] at ih ⊢
  split
  ·rfl
  ·simp only [List.map_cons,ih]
def Rk (l:List (List Int × It)):Prop:=∀ e∈l,e.1.length=2
theorem Rk.ents {l:List (List Int × It)} (h:Rk l):∀ e∈resE l,e.1.length=2:=by
 intro e he
 obtain⟨p,hp,rfl⟩:=List.mem_map.1 he
 exact h p hp
theorem lookup_some (T:Tab) (f a x:It) (hl:T.nums.length+szI f+szI a≤1152921504606846976) (hs:Sh T.nums) (hk:Rk T.res) (hh:T.hits≤1152921504606846976) (hx:rGet T.res (keyN T.nums f a).1=some x) :
  AC Tryz.prog gl 95 [.loc 980 0,.pv (itP f),.pv (itP a)] (tabO T) (.ret (.pv (.tuple [itP x,.bool true]))) (tabO ⟨(keyN T.nums f a).2,T.res,T.hits+1⟩):=by
 have h1:=key_ok T.hits T.nums f a hl hs
 have hall:=hk.ents
 have hg:=resE_get T.res (keyN T.nums f a).1
 rw [hx] at hg
 simp only [Option.map_some] at hg
 have w1:=vcells_one (itP_one f)
 have o1:(V.pv (itP f)).one=true:=by rw [one_pv];exact itP_one f
 have w2:=vcells_one (itP_one a)
 have o2:(V.pv (itP a)).one=true:=by rw [one_pv];exact itP_one a
 have w3:=vcells_one (itP_one x)
 have o3:(V.pv (itP x)).one=true:=by rw [one_pv];exact itP_one x
 have e1:((T.hits+1:Nat):Int)=(T.hits:Int)+1:=by omega
 have hkk:(keyN T.nums f a).1=[((numI T.nums f).1:Int),((numI (numI T.nums f).2 a).1:Int)]:=rfl
 rw [hkk] at h1 hg
 simp only [tabO,e1,List.map_cons,List.map_nil] at *
 clear hl hs hk hx hkk
 generalize (keyN T.nums f a).2=l2 at *
 generalize resE T.res=es at *
 generalize itP f=pf at *
 generalize itP x=px at *
 generalize (numI (numI T.nums f).2 a).1=n2 at *
 generalize (numI T.nums f).1=n1 at *
 generalize itP a=pa at *
 generalize T.nums=l at *
 generalize T.hits=hits at *
 unfold tabN tB at *
 simp only [List.cons_append,List.nil_append,e1] at *
 refine bodyM [] [] Tryz.func95 Tryz.ntmps95 ?_
 refine gg ?_
 refine callR (ro:=[(980,.box [.map 981,.map 982,.map 983,.map 984,.map 985,.pv (.int hits)])]) h1 ?_
 refine gg ?_
 refine lookI ?_ (hc:=by dsimp only;assumption)
 refine gg ?_
 refine⟨by rfl,?_⟩
 refine gg ?_
 exact enC7
theorem lookup_none (T:Tab) (f a:It) (hl:T.nums.length+szI f+szI a≤1152921504606846976) (hs:Sh T.nums) (hk:Rk T.res) (hx:rGet T.res (keyN T.nums f a).1=none) :
  AC Tryz.prog gl 95 [.loc 980 0,.pv (itP f),.pv (itP a)] (tabO T) (.ret (.pv (.tuple [.nil,.bool false]))) (tabO ⟨(keyN T.nums f a).2,T.res,T.hits⟩):=by
 have h1:=key_ok T.hits T.nums f a hl hs
 have hall:=hk.ents
 have hg:=resE_get T.res (keyN T.nums f a).1
 rw [hx] at hg
 simp only [Option.map_none] at hg
 have w1:=vcells_one (itP_one f)
 have o1:(V.pv (itP f)).one=true:=by rw [one_pv];exact itP_one f
 have w2:=vcells_one (itP_one a)
 have o2:(V.pv (itP a)).one=true:=by rw [one_pv];exact itP_one a
 have hkk:(keyN T.nums f a).1=[((numI T.nums f).1:Int),((numI (numI T.nums f).2 a).1:Int)]:=rfl
 rw [hkk] at h1 hg
 simp only [tabO,List.map_cons,List.map_nil] at *
 clear hl hs hk hx hkk
 generalize (keyN T.nums f a).2=l2 at *
 generalize resE T.res=es at *
 generalize itP f=pf at *
 generalize (numI (numI T.nums f).2 a).1=n2 at *
 generalize (numI T.nums f).1=n1 at *
 generalize itP a=pa at *
 generalize T.nums=l at *
 generalize T.hits=hits at *
 unfold tabN tB at *
 simp only [List.cons_append,List.nil_append] at *
 refine bodyM [] [] Tryz.func95 Tryz.ntmps95 ?_
 refine gg ?_
 refine callR (ro:=[(980,.box [.map 981,.map 982,.map 983,.map 984,.map 985,.pv (.int hits)])]) h1 ?_
 refine gg ?_
 refine lookI ?_ (hc:=by dsimp only;assumption)
 refine gg ?_
 refine⟨by rfl,?_⟩
 refine gg ?_
 exact enC7
theorem resE_len (l:List (List Int × It)):(resE l).length=l.length:=by simp [resE]
theorem store_ok (T:Tab) (f a x:It) (hl:T.nums.length+szI f+szI a≤1152921504606846976) (hs:Sh T.nums) (hk:Rk T.res) :
  AC Tryz.prog gl 96 [.loc 980 0,.pv (itP f),.pv (itP a),.pv (itP x)] (tabO T) (.ret (.pv (.tuple []))) (tabO (T.store f a x)):=by
 have h1:=key_ok T.hits T.nums f a hl hs
 have hall:=hk.ents
 have hg:=resE_set T.res (keyN T.nums f a).1 x
 have hlen:=resE_len T.res
 have w1:=vcells_one (itP_one f)
 have o1:(V.pv (itP f)).one=true:=by rw [one_pv];exact itP_one f
 have w2:=vcells_one (itP_one a)
 have o2:(V.pv (itP a)).one=true:=by rw [one_pv];exact itP_one a
 have w3:=vcells_one (itP_one x)
 have o3:(V.pv (itP x)).one=true:=by rw [one_pv];exact itP_one x
 have hkk:(keyN T.nums f a).1=[((numI T.nums f).1:Int),((numI (numI T.nums f).2 a).1:Int)]:=rfl
 unfold Tab.store
 by_cases hc:T.res.length<256
 ·rw [if_pos hc]
  simp only [tabO]
  rw [← hg]
  rw [hkk] at h1 ⊢
  have g1:((resE T.res).length:Int)<256:=by omega
  simp only [tabO,List.map_cons,List.map_nil] at *
  clear hl hs hk hkk hlen hg hc
  generalize (keyN T.nums f a).2=l2 at *
  generalize resE T.res=es at *
  generalize itP f=pf at *
  generalize itP x=px at *
  generalize (numI (numI T.nums f).2 a).1=n2 at *
  generalize (numI T.nums f).1=n1 at *
  generalize itP a=pa at *
  generalize T.nums=l at *
  generalize T.hits=hits at *
  unfold tabN tB at *
  simp only [List.cons_append,List.nil_append] at *
  refine bodyM [] [] Tryz.func96 Tryz.ntmps96 ?_
  refine gg ?_
  refine callR (ro:=[(980,.box [.map 981,.map 982,.map 983,.map 984,.map 985,.pv (.int hits)])]) h1 ?_
  refine gg ?_
  refine⟨by rfl,?_⟩
  refine gg ?_
  exact enC7
 ·rw [if_neg hc]
  have g1:¬ ((resE T.res).length:Int)<256:=by omega
  simp only [tabO] at *
  clear hl hs hk hkk hlen hg hc h1
  generalize resE T.res=es at *
  generalize itP f=pf at *
  generalize itP x=px at *
  generalize itP a=pa at *
  generalize T.nums=l at *
  generalize T.hits=hits at *
  unfold tabN tB at *
  simp only [List.cons_append,List.nil_append] at *
  refine bodyM [] [] Tryz.func96 Tryz.ntmps96 ?_
  refine gg ?_
  exact enC7
theorem plainc_ok (p:Nat) (vs:List It) (a:It):AC Tryz.prog gl 133 [.pv (itP (.fn p vs)),.pv (itP a)] [] (.ret (.pv (.bool (plainC (.fn p vs) a)))) []:=by
 have w2:=vcells_one (list0_one a)
 have w3:=vcells_one (fst0_one a)
 have w4:=vcells_one (snd0_one a)
 have w5:=vcells_one (vars0_one a)
 rw [itP_eq a]
 simp only [plainC,itP]
 cases ha:a.func with
 | true =>
  have w1:=vcells_one (varsP_one vs)
  simp only [Bool.not_true,Bool.false_and]
  generalize varsP vs=pv at *
  generalize a.list0=a0 at *
  generalize a.fst0=a1 at *
  generalize a.snd0=a2 at *
  generalize a.vars0=a3 at *
  refine body [] Tryz.func133 Tryz.ntmps133 ?_
  refine gg ?_
  exact enC7
 | false =>
  simp only [Bool.not_false,Bool.true_and]
  generalize a.list0=a0 at *
  generalize a.fst0=a1 at *
  generalize a.snd0=a2 at *
  generalize a.vars0=a3 at *
  cases vs with
  | nil =>
   simp only [varsP,funcL,Bool.not_false]
   refine body [] Tryz.func133 Tryz.ntmps133 ?_
   refine gg ?_
   exact enC7
  | cons x r =>
   have w6:=vcells_one (itP_one x)
   have w7:=vcells_one (varsP_one r)
   simp only [varsP,funcL]
   generalize itP x=px at *
   generalize varsP r=pr at *
   cases hq:(funcL r || x.func) with
   | true =>
    simp only [Bool.not_true]
    refine body [] Tryz.func133 Tryz.ntmps133 ?_
    refine gg ?_
    exact enC7
   | false =>
    simp only [Bool.not_false]
    refine body [] Tryz.func133 Tryz.ntmps133 ?_
    refine gg ?_
    exact enC7
end Go.Proofs.YtodjpfpmhjdhbaaGreatDoor
