/- Part of the proof: contracts of the types, terms, the generator and the compiler; no conditions. -/
import Derived.Test.YtodjpfpmhjdhbaaGreatDoorSameC6
import Derived.Test.YtodjpfpmhjdhbaaGreatDoorSameC4
set_option linter.unusedVariables false
set_option linter.unusedSimpArgs false
set_option linter.unusedSectionVars false
namespace Go.Proofs.YtodjpfpmhjdhbaaGreatDoor
open Go.Lg
theorem enC7 {P Q : Prop} (h : P := by simp [retIs,resV,resL,resOne,mkTup,getS,getO,rdV,mkAgg,unL,V.un,TI.isAgg,XX_T,tt27,Tryz.f152,Tryz.f153,Tryz.f146]) (k : Q := by simp [subO,getO,tt27,Tryz.f152,Tryz.f153,Tryz.f146]) : P ∧ Q := ⟨h,k⟩
end Go.Proofs.YtodjpfpmhjdhbaaGreatDoor
/- The table of memo: numbers of lists. -/
namespace Go.Proofs.YtodjpfpmhjdhbaaGreatDoor
open Go.Lg
set_option maxRecDepth 10000
set_option maxHeartbeats 4000000
noncomputable def tabN (l:Nums) (hits:Nat):List (Nat × Ob):=[(980,tB hits),(981,.imap (numE 0 l)),(982,.cache (DI l) (FI l)),(983,.cache (DL l) (FL l)),(984,.cache (DV l) (FV l))]
theorem Sh.num {l:Nums} (h:Sh l) {s:List Int} (hs:s.length=3):Sh (num l s).2:=by
 unfold Go.Lg.num
 split
 ·exact h
 ·intro t ht
  rcases List.mem_append.1 ht with ht | ht
  ·exact h t ht
  ·simp only [List.mem_singleton] at ht
   rw [ht];exact hs
theorem num_len (l:Nums) (s:List Int):(num l s).2.length≤l.length+1:=by
 unfold num
 split
 ·exact Nat.le_succ _
 ·simp
theorem Sh.numL:∀ {x:List Nat} {l:Nums},Sh l→Sh (numL l x).2
 | [],_,h=>h
 | _::t,_,h=>(Sh.numL (x:=t) h).num rfl
theorem numL_len:∀ (x:List Nat) (l:Nums),(Go.Lg.numL l x).2.length≤l.length+x.length
 | [],l=>by simp [Go.Lg.numL]
 | h::t,l=>by
  have h1:=numL_len t l
  have h2:=num_len (Go.Lg.numL l t).2 [-1,(h:Int),((Go.Lg.numL l t).1:Int)]
  simp only [Go.Lg.numL,List.length_cons]
  omega
theorem links_ok (hits:Nat):∀ (x:List Nat) (l:Nums),l.length+x.length≤1152921504606846976→Sh l →
  AC Tryz.prog gl 152 [.loc 980 0,.pv (linkP x)] (tabN l hits) (.ret (.pv (.int ((numL l x).1:Nat)))) (tabN (numL l x).2 hits):=by
 intro x
 induction x with
 | nil =>
  intro l _ _
  simp only [linkP,numL,tabN,tB]
  refine bodyM [] [985] Tryz.func152 Tryz.ntmps152 ?_
  refine gg ?_
  exact enC7
 | cons h t ih =>
  intro l hl hs
  simp only [List.length_cons] at hl
  have h1:=ih l (by omega) hs
  have hp:=num_pre (numL l t).2 [-1,(h:Int),((numL l t).1:Int)]
  have h2:=mnum_ok (numL l t).2 hits (-1) h (numL l t).1 (by have:=numL_len t l;omega) (hs.numL)
  have hk:=numL_known l (h::t)
  have hd2:DL (numL l (h::t)).2 (linkP (h::t)):=⟨h,t,rfl,by rw [hk]⟩
  have hf2:=FL_it (numL l (h::t)).2 (h::t)
  rw [hk] at hf2
  have hni:(linkP t).nonint=true:=by cases t <;> rfl
  have w1:=vcells_one (linkP_one t)
  have w2:(V.pv (linkP t)).one=true:=by rw [one_pv];exact linkP_one _
  have e2:((t.length+1:Nat):Int)=(t.length:Int)+1:=by omega
  by_cases hkn:(numL l (h::t)).2=l
  ·have hd1:DL l (linkP (h::t)):=⟨h,t,rfl,hkn⟩
   have hf1:=FL_it l (h::t)
   have c2:=cohI (numL l (h::t)).2
   have c3:=cohL (numL l (h::t)).2
   have c4:=cohV (numL l (h::t)).2
   have m2:=monI hp
   have m3:=monL hp
   have m4:=monV hp
   have e3:numL l (h::t)=num (numL l t).2 [-1,(h:Int),((numL l t).1:Int)]:=rfl
   have hkn':=hkn
   rw [e3] at hkn' hf1 hf2 hd2 c2 c3 c4 ⊢
   generalize num (numL l t).2 [-1,(h:Int),((numL l t).1:Int)]=r2 at *
   clear e3 hkn hk ih hs hl
   simp only [linkP,e2] at *
   generalize linkP t=lk at *
   generalize numL l t=r1 at *
   subst hkn'
   unfold tabN tB at *
   refine bodyM [] [985] Tryz.func152 Tryz.ntmps152 ?_
   refine gg ?_
   refine look (n:=983) (F:=FL r2.2) hd1 ?_ (hni:=by simp only [List.any_cons,hni,Bool.true_or,Bool.or_true])
   intro b
   cases b with
   | true =>
    simp only [cond_true,hf1]
    refine gg ?_
    exact enC7
   | false =>
    simp only [cond_false]
    refine gg ?_
    refine call h1 ?_
    refine gg ?_
    refine call h2 ?_
    refine ggox ?_
    refine ⟨by rfl,?_⟩
    refine ggox ?_
    refine mor 982 _ _ ?_ m2 c2
    refine mor 983 _ _ ?_ m3 c3
    refine mor 984 _ _ ?_ m4 c4
    refine gg ?_
    exact enC7
  ·have hN:=notL hkn
   have c2:=cohI (numL l (h::t)).2
   have c3:=cohL (numL l (h::t)).2
   have c4:=cohV (numL l (h::t)).2
   have m2:=monI hp
   have m3:=monL hp
   have m4:=monV hp
   have e3:numL l (h::t)=num (numL l t).2 [-1,(h:Int),((numL l t).1:Int)]:=rfl
   rw [e3] at hf2 hd2 c2 c3 c4 ⊢
   generalize num (numL l t).2 [-1,(h:Int),((numL l t).1:Int)]=r2 at *
   clear e3 hkn hk ih hs hl
   simp only [linkP,e2] at *
   generalize linkP t=lk at *
   generalize numL l t=r1 at *
   unfold tabN tB at *
   refine bodyM [] [985] Tryz.func152 Tryz.ntmps152 ?_
   refine gg ?_
   refine lookN (n:=983) (F:=FL l) hN ?_ (hni:=by simp only [List.any_cons,hni,Bool.true_or,Bool.or_true])
   refine gg ?_
   refine call h1 ?_
   refine gg ?_
   refine call h2 ?_
   refine ggox ?_
   refine ⟨by rfl,?_⟩
   refine ggox ?_
   refine mor 982 _ _ ?_ m2 c2
   refine mor 983 _ _ ?_ m3 c3
   refine mor 984 _ _ ?_ m4 c4
   refine gg ?_
   exact enC7
theorem DI_of {l:Nums} {x:It} (h:(numI l x).2=l):DI l (itP x):=⟨x,rfl,h⟩
theorem DV_of {l:Nums} {x:It} {r:List It} (h:(numV l (x::r)).2=l):DV l (varsP (x::r)):=⟨x,r,rfl,h⟩
theorem vars_nil (hits:Nat) (l:Nums):AC Tryz.prog gl 153 [.loc 980 0,.pv (varsP [])] (tabN l hits) (.ret (.pv (.int ((numV l []).1:Nat)))) (tabN (numV l []).2 hits):=by
 simp only [varsP,numV,tabN,tB]
 refine bodyM [] [985] Tryz.func153 Tryz.ntmps153 ?_
 refine gg ?_
 exact enC7
theorem item_num (hits:Nat) (k:Nat) (l:Nums) (hl:l.length≤1152921504606846976) (hs:Sh l) :
  AC Tryz.prog gl 146 [.loc 980 0,.pv (itP (.num k))] (tabN l hits) (.ret (.pv (.int ((numI l (.num k)).1:Nat)))) (tabN (numI l (.num k)).2 hits):=by
 have hn:=mnum_ok l hits (1) ((k:Int)) (0) hl hs
 have hp:=num_pre l [1,(k:Int),0]
 have hk:=numI_known l (.num k)
 have hd2:DI (numI l (.num k)).2 (itP (.num k)):=DI_of (by rw [hk])
 have hf2:=FI_it (numI l (.num k)).2 (.num k)
 rw [hk] at hf2
 have e3:numI l (.num k)=num l [1,(k:Int),0]:=rfl
 have c2:=cohI (numI l (.num k)).2
 have c3:=cohL (numI l (.num k)).2
 have c4:=cohV (numI l (.num k)).2
 have m2:=monI hp
 have m3:=monL hp
 have m4:=monV hp
 by_cases hkn:(numI l (.num k)).2=l
 ·have hd1:DI l (itP (.num k)):=DI_of hkn
  have hf1:=FI_it l (.num k)
  have hkn':=hkn
  rw [e3] at hkn' hf1 hf2 hd2 c2 c3 c4 ⊢
  generalize num l [1,(k:Int),0]=r2 at *
  clear e3 hkn hk hl hs
  simp only [itP] at *
  subst hkn'
  unfold tabN tB at *
  refine bodyM [] [985] Tryz.func146 Tryz.ntmps146 ?_
  refine gg ?_
  refine look (n:=982) (F:=FI r2.2) hd1 ?_
  intro b
  cases b with
  | true =>
   simp only [cond_true,hf1]
   refine gg ?_
   exact enC7
  | false =>
   simp only [cond_false]
   refine gg ?_
   refine call hn ?_
   refine ggox ?_
   refine mor 982 _ _ ?_ m2 c2
   refine mor 983 _ _ ?_ m3 c3
   refine mor 984 _ _ ?_ m4 c4
   refine gg ?_
   exact enC7
 ·have hN:=notI hkn
  rw [e3] at hf2 hd2 c2 c3 c4 ⊢
  generalize num l [1,(k:Int),0]=r2 at *
  clear e3 hkn hk hl hs
  simp only [itP] at *
  unfold tabN tB at *
  refine bodyM [] [985] Tryz.func146 Tryz.ntmps146 ?_
  refine gg ?_
  refine lookN (n:=982) (F:=FI l) hN ?_
  refine gg ?_
  refine call hn ?_
  refine ggox ?_
  refine mor 982 _ _ ?_ m2 c2
  refine mor 983 _ _ ?_ m3 c3
  refine mor 984 _ _ ?_ m4 c4
  refine gg ?_
  exact enC7
theorem item_unit (hits:Nat) (k:Nat) (l:Nums) (hl:l.length≤1152921504606846976) (hs:Sh l) :
  AC Tryz.prog gl 146 [.loc 980 0,.pv (itP .unit)] (tabN l hits) (.ret (.pv (.int ((numI l .unit).1:Nat)))) (tabN (numI l .unit).2 hits):=by
 have hn:=mnum_ok l hits (4) (0) (0) hl hs
 have hp:=num_pre l [4,0,0]
 have hk:=numI_known l .unit
 have hd2:DI (numI l .unit).2 (itP .unit):=DI_of (by rw [hk])
 have hf2:=FI_it (numI l .unit).2 .unit
 rw [hk] at hf2
 have e3:numI l .unit=num l [4,0,0]:=rfl
 have c2:=cohI (numI l .unit).2
 have c3:=cohL (numI l .unit).2
 have c4:=cohV (numI l .unit).2
 have m2:=monI hp
 have m3:=monL hp
 have m4:=monV hp
 by_cases hkn:(numI l .unit).2=l
 ·have hd1:DI l (itP .unit):=DI_of hkn
  have hf1:=FI_it l .unit
  have hkn':=hkn
  rw [e3] at hkn' hf1 hf2 hd2 c2 c3 c4 ⊢
  generalize num l [4,0,0]=r2 at *
  clear e3 hkn hk hl hs
  simp only [itP] at *
  subst hkn'
  unfold tabN tB at *
  refine bodyM [] [985] Tryz.func146 Tryz.ntmps146 ?_
  refine gg ?_
  refine look (n:=982) (F:=FI r2.2) hd1 ?_
  intro b
  cases b with
  | true =>
   simp only [cond_true,hf1]
   refine gg ?_
   exact enC7
  | false =>
   simp only [cond_false]
   refine gg ?_
   refine call hn ?_
   refine ggox ?_
   refine mor 982 _ _ ?_ m2 c2
   refine mor 983 _ _ ?_ m3 c3
   refine mor 984 _ _ ?_ m4 c4
   refine gg ?_
   exact enC7
 ·have hN:=notI hkn
  rw [e3] at hf2 hd2 c2 c3 c4 ⊢
  generalize num l [4,0,0]=r2 at *
  clear e3 hkn hk hl hs
  simp only [itP] at *
  unfold tabN tB at *
  refine bodyM [] [985] Tryz.func146 Tryz.ntmps146 ?_
  refine gg ?_
  refine lookN (n:=982) (F:=FI l) hN ?_
  refine gg ?_
  refine call hn ?_
  refine ggox ?_
  refine mor 982 _ _ ?_ m2 c2
  refine mor 983 _ _ ?_ m3 c3
  refine mor 984 _ _ ?_ m4 c4
  refine gg ?_
  exact enC7
theorem item_list (hits:Nat) (x:List Nat) (l:Nums) (hl:(numL l x).2.length≤1152921504606846976) (hs:Sh (numL l x).2) (h1:AC Tryz.prog gl 152 [.loc 980 0,.pv (linkP x)] (tabN l hits) (.ret (.pv (.int ((numL l x).1:Nat)))) (tabN (numL l x).2 hits)) :
  AC Tryz.prog gl 146 [.loc 980 0,.pv (itP (.list x))] (tabN l hits) (.ret (.pv (.int ((numI l (.list x)).1:Nat)))) (tabN (numI l (.list x)).2 hits):=by
 have hn:=mnum_ok (numL l x).2 hits (2) (((numL l x).1:Int)) (0) hl hs
 have hp:=num_pre (numL l x).2 [2,((numL l x).1:Int),0]
 have hk:=numI_known l (.list x)
 have hd2:DI (numI l (.list x)).2 (itP (.list x)):=DI_of (by rw [hk])
 have hf2:=FI_it (numI l (.list x)).2 (.list x)
 rw [hk] at hf2
 have e3:numI l (.list x)=num (numL l x).2 [2,((numL l x).1:Int),0]:=rfl
 have c2:=cohI (numI l (.list x)).2
 have c3:=cohL (numI l (.list x)).2
 have c4:=cohV (numI l (.list x)).2
 have m2:=monI hp
 have m3:=monL hp
 have m4:=monV hp
 have w1:=vcells_one (linkP_one x)
 have o1:(V.pv (linkP x)).one=true:=by rw [one_pv];exact linkP_one x
 by_cases hkn:(numI l (.list x)).2=l
 ·have hd1:DI l (itP (.list x)):=DI_of hkn
  have hf1:=FI_it l (.list x)
  have hkn':=hkn
  rw [e3] at hkn' hf1 hf2 hd2 c2 c3 c4 ⊢
  generalize num (numL l x).2 [2,((numL l x).1:Int),0]=r2 at *
  clear e3 hkn hk hl hs
  simp only [itP] at *
  generalize linkP x=lk at *
  generalize numL l x=r1 at *
  subst hkn'
  unfold tabN tB at *
  refine bodyM [] [985] Tryz.func146 Tryz.ntmps146 ?_
  refine gg ?_
  refine look (n:=982) (F:=FI r2.2) hd1 ?_
  intro b
  cases b with
  | true =>
   simp only [cond_true,hf1]
   refine gg ?_
   exact enC7
  | false =>
   simp only [cond_false]
   refine gg ?_
   refine call h1 ?_
   refine gg ?_
   refine call hn ?_
   refine ggox ?_
   refine mor 982 _ _ ?_ m2 c2
   refine mor 983 _ _ ?_ m3 c3
   refine mor 984 _ _ ?_ m4 c4
   refine gg ?_
   exact enC7
 ·have hN:=notI hkn
  rw [e3] at hf2 hd2 c2 c3 c4 ⊢
  generalize num (numL l x).2 [2,((numL l x).1:Int),0]=r2 at *
  clear e3 hkn hk hl hs
  simp only [itP] at *
  generalize linkP x=lk at *
  generalize numL l x=r1 at *
  unfold tabN tB at *
  refine bodyM [] [985] Tryz.func146 Tryz.ntmps146 ?_
  refine gg ?_
  refine lookN (n:=982) (F:=FI l) hN ?_
  refine gg ?_
  refine call h1 ?_
  refine gg ?_
  refine call hn ?_
  refine ggox ?_
  refine mor 982 _ _ ?_ m2 c2
  refine mor 983 _ _ ?_ m3 c3
  refine mor 984 _ _ ?_ m4 c4
  refine gg ?_
  exact enC7
theorem item_pair (hits:Nat) (a b:It) (l:Nums) (hl:(numI (numI l a).2 b).2.length≤1152921504606846976) (hs:Sh (numI (numI l a).2 b).2) (h1:AC Tryz.prog gl 146 [.loc 980 0,.pv (itP a)] (tabN l hits) (.ret (.pv (.int ((numI l a).1:Nat)))) (tabN (numI l a).2 hits)) (h2:AC Tryz.prog gl 146 [.loc 980 0,.pv (itP b)] (tabN (numI l a).2 hits) (.ret (.pv (.int ((numI (numI l a).2 b).1:Nat)))) (tabN (numI (numI l a).2 b).2 hits)) :
  AC Tryz.prog gl 146 [.loc 980 0,.pv (itP (.pair a b))] (tabN l hits) (.ret (.pv (.int ((numI l (.pair a b)).1:Nat)))) (tabN (numI l (.pair a b)).2 hits):=by
 have hn:=mnum_ok (numI (numI l a).2 b).2 hits (3) (((numI l a).1:Int)) (((numI (numI l a).2 b).1:Int)) hl hs
 have hp:=num_pre (numI (numI l a).2 b).2 [3,((numI l a).1:Int),((numI (numI l a).2 b).1:Int)]
 have hk:=numI_known l (.pair a b)
 have hd2:DI (numI l (.pair a b)).2 (itP (.pair a b)):=DI_of (by rw [hk])
 have hf2:=FI_it (numI l (.pair a b)).2 (.pair a b)
 rw [hk] at hf2
 have e3:numI l (.pair a b)=num (numI (numI l a).2 b).2 [3,((numI l a).1:Int),((numI (numI l a).2 b).1:Int)]:=rfl
 have c2:=cohI (numI l (.pair a b)).2
 have c3:=cohL (numI l (.pair a b)).2
 have c4:=cohV (numI l (.pair a b)).2
 have m2:=monI hp
 have m3:=monL hp
 have m4:=monV hp
 have w1:=vcells_one (itP_one a)
 have o1:(V.pv (itP a)).one=true:=by rw [one_pv];exact itP_one a
 have w2:=vcells_one (itP_one b)
 have o2:(V.pv (itP b)).one=true:=by rw [one_pv];exact itP_one b
 by_cases hkn:(numI l (.pair a b)).2=l
 ·have hd1:DI l (itP (.pair a b)):=DI_of hkn
  have hf1:=FI_it l (.pair a b)
  have hkn':=hkn
  rw [e3] at hkn' hf1 hf2 hd2 c2 c3 c4 ⊢
  generalize num (numI (numI l a).2 b).2 [3,((numI l a).1:Int),((numI (numI l a).2 b).1:Int)]=r2 at *
  clear e3 hkn hk hl hs
  simp only [itP] at *
  generalize itP a=pa at *
  generalize itP b=pb at *
  generalize (2+a.more+b.more:Nat)=mo at *
  generalize (a.func || b.func)=fu at *
  generalize numI (numI l a).2 b=r1 at *
  generalize numI l a=r0 at *
  subst hkn'
  unfold tabN tB at *
  refine bodyM [] [985] Tryz.func146 Tryz.ntmps146 ?_
  refine gg ?_
  refine look (n:=982) (F:=FI r2.2) hd1 ?_
  intro b
  cases b with
  | true =>
   simp only [cond_true,hf1]
   refine gg ?_
   exact enC7
  | false =>
   simp only [cond_false]
   refine gg ?_
   refine call h1 ?_
   refine gg ?_
   refine call h2 ?_
   refine gg ?_
   refine ⟨by rfl,?_⟩
   refine gg ?_
   refine call hn ?_
   refine ggox ?_
   refine mor 982 _ _ ?_ m2 c2
   refine mor 983 _ _ ?_ m3 c3
   refine mor 984 _ _ ?_ m4 c4
   refine gg ?_
   exact enC7
 ·have hN:=notI hkn
  rw [e3] at hf2 hd2 c2 c3 c4 ⊢
  generalize num (numI (numI l a).2 b).2 [3,((numI l a).1:Int),((numI (numI l a).2 b).1:Int)]=r2 at *
  clear e3 hkn hk hl hs
  simp only [itP] at *
  generalize itP a=pa at *
  generalize itP b=pb at *
  generalize (2+a.more+b.more:Nat)=mo at *
  generalize (a.func || b.func)=fu at *
  generalize numI (numI l a).2 b=r1 at *
  generalize numI l a=r0 at *
  unfold tabN tB at *
  refine bodyM [] [985] Tryz.func146 Tryz.ntmps146 ?_
  refine gg ?_
  refine lookN (n:=982) (F:=FI l) hN ?_
  refine gg ?_
  refine call h1 ?_
  refine gg ?_
  refine call h2 ?_
  refine gg ?_
  refine ⟨by rfl,?_⟩
  refine gg ?_
  refine call hn ?_
  refine ggox ?_
  refine mor 982 _ _ ?_ m2 c2
  refine mor 983 _ _ ?_ m3 c3
  refine mor 984 _ _ ?_ m4 c4
  refine gg ?_
  exact enC7
theorem item_fn (hits:Nat) (p:Nat) (vs:List It) (l:Nums) (hl:(numV l vs).2.length≤1152921504606846976) (hs:Sh (numV l vs).2) (h1:AC Tryz.prog gl 153 [.loc 980 0,.pv (varsP vs)] (tabN l hits) (.ret (.pv (.int ((numV l vs).1:Nat)))) (tabN (numV l vs).2 hits)) :
  AC Tryz.prog gl 146 [.loc 980 0,.pv (itP (.fn p vs))] (tabN l hits) (.ret (.pv (.int ((numI l (.fn p vs)).1:Nat)))) (tabN (numI l (.fn p vs)).2 hits):=by
 have hn:=mnum_ok (numV l vs).2 hits (5) ((p:Int)) (((numV l vs).1:Int)) hl hs
 have hp:=num_pre (numV l vs).2 [5,(p:Int),((numV l vs).1:Int)]
 have hk:=numI_known l (.fn p vs)
 have hd2:DI (numI l (.fn p vs)).2 (itP (.fn p vs)):=DI_of (by rw [hk])
 have hf2:=FI_it (numI l (.fn p vs)).2 (.fn p vs)
 rw [hk] at hf2
 have e3:numI l (.fn p vs)=num (numV l vs).2 [5,(p:Int),((numV l vs).1:Int)]:=rfl
 have c2:=cohI (numI l (.fn p vs)).2
 have c3:=cohL (numI l (.fn p vs)).2
 have c4:=cohV (numI l (.fn p vs)).2
 have m2:=monI hp
 have m3:=monL hp
 have m4:=monV hp
 have w1:=vcells_one (varsP_one vs)
 have o1:(V.pv (varsP vs)).one=true:=by rw [one_pv];exact varsP_one vs
 by_cases hkn:(numI l (.fn p vs)).2=l
 ·have hd1:DI l (itP (.fn p vs)):=DI_of hkn
  have hf1:=FI_it l (.fn p vs)
  have hkn':=hkn
  rw [e3] at hkn' hf1 hf2 hd2 c2 c3 c4 ⊢
  generalize num (numV l vs).2 [5,(p:Int),((numV l vs).1:Int)]=r2 at *
  clear e3 hkn hk hl hs
  simp only [itP] at *
  generalize varsP vs=pv at *
  generalize insideL vs=mo at *
  generalize numV l vs=r1 at *
  subst hkn'
  unfold tabN tB at *
  refine bodyM [] [985] Tryz.func146 Tryz.ntmps146 ?_
  refine gg ?_
  refine look (n:=982) (F:=FI r2.2) hd1 ?_
  intro b
  cases b with
  | true =>
   simp only [cond_true,hf1]
   refine gg ?_
   exact enC7
  | false =>
   simp only [cond_false]
   refine gg ?_
   refine call h1 ?_
   refine gg ?_
   refine ⟨by rfl,?_⟩
   refine gg ?_
   refine call hn ?_
   refine ggox ?_
   refine mor 982 _ _ ?_ m2 c2
   refine mor 983 _ _ ?_ m3 c3
   refine mor 984 _ _ ?_ m4 c4
   refine gg ?_
   exact enC7
 ·have hN:=notI hkn
  rw [e3] at hf2 hd2 c2 c3 c4 ⊢
  generalize num (numV l vs).2 [5,(p:Int),((numV l vs).1:Int)]=r2 at *
  clear e3 hkn hk hl hs
  simp only [itP] at *
  generalize varsP vs=pv at *
  generalize insideL vs=mo at *
  generalize numV l vs=r1 at *
  unfold tabN tB at *
  refine bodyM [] [985] Tryz.func146 Tryz.ntmps146 ?_
  refine gg ?_
  refine lookN (n:=982) (F:=FI l) hN ?_
  refine gg ?_
  refine call h1 ?_
  refine gg ?_
  refine ⟨by rfl,?_⟩
  refine gg ?_
  refine call hn ?_
  refine ggox ?_
  refine mor 982 _ _ ?_ m2 c2
  refine mor 983 _ _ ?_ m3 c3
  refine mor 984 _ _ ?_ m4 c4
  refine gg ?_
  exact enC7
theorem vars_cons (hits:Nat) (x:It) (r:List It) (l:Nums) (hl:(numV (numI l x).2 r).2.length≤1152921504606846976) (hs:Sh (numV (numI l x).2 r).2) (h1:AC Tryz.prog gl 146 [.loc 980 0,.pv (itP x)] (tabN l hits) (.ret (.pv (.int ((numI l x).1:Nat)))) (tabN (numI l x).2 hits)) (h2:AC Tryz.prog gl 153 [.loc 980 0,.pv (varsP r)] (tabN (numI l x).2 hits) (.ret (.pv (.int ((numV (numI l x).2 r).1:Nat)))) (tabN (numV (numI l x).2 r).2 hits)) :
  AC Tryz.prog gl 153 [.loc 980 0,.pv (varsP (x::r))] (tabN l hits) (.ret (.pv (.int ((numV l (x::r)).1:Nat)))) (tabN (numV l (x::r)).2 hits):=by
 have hn:=mnum_ok (numV (numI l x).2 r).2 hits (-2) (((numI l x).1:Int)) (((numV (numI l x).2 r).1:Int)) hl hs
 have hp:=num_pre (numV (numI l x).2 r).2 [-2,((numI l x).1:Int),((numV (numI l x).2 r).1:Int)]
 have hk:=numV_known l (x::r)
 have hd2:DV (numV l (x::r)).2 (varsP (x::r)):=DV_of (by rw [hk])
 have hf2:=FV_it (numV l (x::r)).2 (x::r)
 rw [hk] at hf2
 have e3:numV l (x::r)=num (numV (numI l x).2 r).2 [-2,((numI l x).1:Int),((numV (numI l x).2 r).1:Int)]:=rfl
 have c2:=cohI (numV l (x::r)).2
 have c3:=cohL (numV l (x::r)).2
 have c4:=cohV (numV l (x::r)).2
 have m2:=monI hp
 have m3:=monL hp
 have m4:=monV hp
 have w1:=vcells_one (itP_one x)
 have o1:(V.pv (itP x)).one=true:=by rw [one_pv];exact itP_one x
 have w2:=vcells_one (varsP_one r)
 have o2:(V.pv (varsP r)).one=true:=by rw [one_pv];exact varsP_one r
 by_cases hkn:(numV l (x::r)).2=l
 ·have hd1:DV l (varsP (x::r)):=DV_of hkn
  have hf1:=FV_it l (x::r)
  have hkn':=hkn
  rw [e3] at hkn' hf1 hf2 hd2 c2 c3 c4 ⊢
  generalize num (numV (numI l x).2 r).2 [-2,((numI l x).1:Int),((numV (numI l x).2 r).1:Int)]=r2 at *
  clear e3 hkn hk hl hs
  simp only [varsP] at *
  generalize itP x=pa at *
  generalize varsP r=pb at *
  generalize (r.length+1:Nat)=ln at *
  generalize (insideL r+1+x.more:Nat)=mo at *
  generalize (funcL r || x.func)=fu at *
  generalize numV (numI l x).2 r=r1 at *
  generalize numI l x=r0 at *
  subst hkn'
  unfold tabN tB at *
  refine bodyM [] [985] Tryz.func153 Tryz.ntmps153 ?_
  refine gg ?_
  refine look (n:=984) (F:=FV r2.2) hd1 ?_
  intro b
  cases b with
  | true =>
   simp only [cond_true,hf1]
   refine gg ?_
   exact enC7
  | false =>
   simp only [cond_false]
   refine gg ?_
   refine call h1 ?_
   refine gg ?_
   refine call h2 ?_
   refine gg ?_
   refine call hn ?_
   refine ggox ?_
   refine ⟨by rfl,?_⟩
   refine ggox ?_
   refine mor 982 _ _ ?_ m2 c2
   refine mor 983 _ _ ?_ m3 c3
   refine mor 984 _ _ ?_ m4 c4
   refine gg ?_
   exact enC7
 ·have hN:=notV hkn
  rw [e3] at hf2 hd2 c2 c3 c4 ⊢
  generalize num (numV (numI l x).2 r).2 [-2,((numI l x).1:Int),((numV (numI l x).2 r).1:Int)]=r2 at *
  clear e3 hkn hk hl hs
  simp only [varsP] at *
  generalize itP x=pa at *
  generalize varsP r=pb at *
  generalize (r.length+1:Nat)=ln at *
  generalize (insideL r+1+x.more:Nat)=mo at *
  generalize (funcL r || x.func)=fu at *
  generalize numV (numI l x).2 r=r1 at *
  generalize numI l x=r0 at *
  unfold tabN tB at *
  refine bodyM [] [985] Tryz.func153 Tryz.ntmps153 ?_
  refine gg ?_
  refine lookN (n:=984) (F:=FV l) hN ?_
  refine gg ?_
  refine call h1 ?_
  refine gg ?_
  refine call h2 ?_
  refine gg ?_
  refine call hn ?_
  refine ggox ?_
  refine ⟨by rfl,?_⟩
  refine ggox ?_
  refine mor 982 _ _ ?_ m2 c2
  refine mor 983 _ _ ?_ m3 c3
  refine mor 984 _ _ ?_ m4 c4
  refine gg ?_
  exact enC7
open Go.Lg
mutual
def szI:It→Nat
 | .num _=>1
 | .list l=>l.length+1
 | .pair a b=>szI a+szI b+1
 | .unit=>1
 | .fn _ vs=>szV vs+1
def szV:List It→Nat
 | []=>0
 | x::r=>szI x+szV r+1
end
mutual
theorem numI_len:∀ (x:It) (l:Nums),(numI l x).2.length≤l.length+szI x
 | .num k,l=>by simpa only [numI,szI] using num_len l [1,(k:Int),0]
 | .list x,l=>by
  have h1:=numL_len x l
  have h2:=num_len (numL l x).2 [2,((numL l x).1:Int),0]
  simp only [numI,szI]
  omega
 | .pair a b,l=>by
  have h1:=numI_len a l
  have h2:=numI_len b (numI l a).2
  have h3:=num_len (numI (numI l a).2 b).2 [3,((numI l a).1:Int),((numI (numI l a).2 b).1:Int)]
  simp only [numI,szI]
  omega
 | .unit,l=>by simpa only [numI,szI] using num_len l [4,0,0]
 | .fn p vs,l=>by
  have h1:=numV_len vs l
  have h2:=num_len (numV l vs).2 [5,(p:Int),((numV l vs).1:Int)]
  simp only [numI,szI]
  omega
theorem numV_len:∀ (xs:List It) (l:Nums),(numV l xs).2.length≤l.length+szV xs
 | [],l=>by simp [numV,szV]
 | x::r,l=>by
  have h1:=numI_len x l
  have h2:=numV_len r (numI l x).2
  have h3:=num_len (numV (numI l x).2 r).2 [-2,((numI l x).1:Int),((numV (numI l x).2 r).1:Int)]
  simp only [numV,szV]
  omega
end
mutual
theorem Sh.numI:∀ (x:It) {l:Nums},Sh l→Sh (Go.Lg.numI l x).2
 | .num k,l,h=>h.num rfl
 | .list x,l,h=>h.numL.num rfl
 | .pair a b,l,h=>(Sh.numI b (Sh.numI a h)).num rfl
 | .unit,l,h=>h.num rfl
 | .fn p vs,l,h=>(Sh.numV vs h).num rfl
theorem Sh.numV:∀ (xs:List It) {l:Nums},Sh l→Sh (Go.Lg.numV l xs).2
 | [],l,h=>h
 | x::r,l,h=>(Sh.numV r (Sh.numI x h)).num rfl
end
abbrev ItemC (hits:Nat) (l:Nums) (x:It):Prop:=AC Tryz.prog gl 146 [.loc 980 0,.pv (itP x)] (tabN l hits) (.ret (.pv (.int ((numI l x).1:Nat)))) (tabN (numI l x).2 hits)
abbrev VarsC (hits:Nat) (l:Nums) (x:List It):Prop:=AC Tryz.prog gl 153 [.loc 980 0,.pv (varsP x)] (tabN l hits) (.ret (.pv (.int ((numV l x).1:Nat)))) (tabN (numV l x).2 hits)
mutual
theorem item_ok (hits:Nat):∀ (x:It) (l:Nums),l.length+szI x≤1152921504606846976→Sh l→ItemC hits l x
 | .num k,l,hl,hs=>item_num hits k l (by simp only [szI] at hl;omega) hs
 | .list x,l,hl,hs=>by
  simp only [szI] at hl
  have:=numL_len x l
  exact item_list hits x l (by omega) hs.numL (links_ok hits x l (by omega) hs)
 | .pair a b,l,hl,hs=>by
  simp only [szI] at hl
  have h1:=numI_len a l
  have h2:=numI_len b (numI l a).2
  exact item_pair hits a b l (by omega) (Sh.numI b (Sh.numI a hs)) (item_ok hits a l (by omega) hs) (item_ok hits b (numI l a).2 (by omega) (Sh.numI a hs))
 | .unit,l,hl,hs=>item_unit hits 0 l (by simp only [szI] at hl;omega) hs
 | .fn p vs,l,hl,hs=>by
  simp only [szI] at hl
  have h1:=numV_len vs l
  exact item_fn hits p vs l (by omega) (Sh.numV vs hs) (vars_ok2 hits vs l (by omega) hs)
theorem vars_ok2 (hits:Nat):∀ (xs:List It) (l:Nums),l.length+szV xs≤1152921504606846976→Sh l→VarsC hits l xs
 | [],l,_,_=>vars_nil hits l
 | x::r,l,hl,hs=>by
  simp only [szV] at hl
  have h1:=numI_len x l
  have h2:=numV_len r (numI l x).2
  exact vars_cons hits x r l (by omega) (Sh.numV r (Sh.numI x hs)) (item_ok hits x l (by omega) hs) (vars_ok2 hits r (numI l x).2 (by omega) (Sh.numI x hs))
end
end Go.Proofs.YtodjpfpmhjdhbaaGreatDoor
/- The table of memo and the machine with it, plainly. -/
namespace Go.Lg
def keyN (l:Nums) (f a:It):List Int × Nums:=([(numI l f).1,(numI (numI l f).2 a).1],(numI (numI l f).2 a).2)
structure Tab where
 nums:Nums
 res:List (List Int × It)
 hits:Nat
def rGet (l:List (List Int × It)) (k:List Int):Option It:=match l with
 | []=>none
 | (k',x)::r=>if k=k' then some x else rGet r k
def rSet (l:List (List Int × It)) (k:List Int) (x:It):List (List Int × It):=match l with
 | []=>[(k,x)]
 | (k',y)::r=>if k=k' then (k,x)::r else (k',y)::rSet r k x
def plainC (f a:It):Bool:=!a.func && (match f with
 | .fn _ vs => !funcL vs
 | _=>true)
def Tab.hit (T:Tab) (f a:It):Tab:=⟨(keyN T.nums f a).2,T.res,T.hits+1⟩
def Tab.miss (T:Tab) (f a:It):Tab:=⟨(keyN T.nums f a).2,T.res,T.hits⟩
def Tab.get (T:Tab) (f a:It):Option It:=rGet T.res (keyN T.nums f a).1
def Tab.store (T:Tab) (f a x:It):Tab :=
 if T.res.length<256 then ⟨(keyN T.nums f a).2,rSet T.res (keyN T.nums f a).1 x,T.hits⟩ else T
structure Mm where
 steps:Nat
 stack:List It
 sg:List It
 sv:Nat
 frames:List Fr
 fg:List Fr
 fv:Nat
 at_:Int
 vars:List It
 tab:Tab
def Mm.push (m:Mm) (x:It):Mm:={ m with stack:=m.stack++[x],sg:=[],sv:=m.sv+1 }
def Mm.pop (m:Mm):Option (It × Mm):=match m.stack.getLast? with
 | some x=>some (x,{ m with stack:=m.stack.dropLast,sg:=x::m.sg })
 | none=>none
inductive Rm where
 | go (m:Mm)
 | stop (m:Mm)
 | err (e:Nat)
def Mm.into (m:Mm) (f a:It) (p:Nat) (vs:List It) (rd:Option (Nat × Rd)):Rm :=
 if 1024≤m.frames.length then .err 4
 else .go { m with frames:=m.frames++[⟨m.at_,m.vars,f,a,rd⟩],fg:=[],fv:=m.fv+1,at_:=p,vars:=a::vs }
def Mm.enterN:Nat→Mm→It→It→Option (Nat × Rd)→Option Rm
 | 0,_,_,_,_=>none
 | k+1,m,f,a,rd=>match f with
  | .fn p vs =>
   if plainC (.fn p vs) a=true then
    match m.tab.get (.fn p vs) a with
    | some x=>match rd with
     | none=>some (.go (Mm.push { m with tab:=m.tab.hit (.fn p vs) a } x))
     | some (n,r)=>match r.returned x with
      | none=>none
      | some (none,_)=>some (.go (Mm.push { m with tab:=m.tab.hit (.fn p vs) a } x))
      | some (some (f',a'),r')=>Mm.enterN k { m with tab:=m.tab.hit (.fn p vs) a } f' a' (some (n,r'))
    | none=>some (Mm.into { m with tab:=m.tab.miss (.fn p vs) a } (.fn p vs) a p vs rd)
   else some (m.into (.fn p vs) a p vs rd)
  | _=>some (.err 44)
def rdFuel:Option (Nat × Rd)→Nat
 | none=>1
 | some (_,r)=>(r.count-r.next) * 3+r.left.length+1
def Mm.enter (m:Mm) (f a:It) (rd:Option (Nat × Rd)):Option Rm:=m.enterN (rdFuel rd) f a rd
def Mm.recursion (m:Mm) (n:Nat) (list:Bool):Option Rm:=match m.pop with
 | none=>none
 | some (x,m)=>match m.pop with
  | none=>none
  | some (f,m)=>match m.pop with
   | none=>none
   | some (b,m)=>match f with
    | .fn _ _=>match rdOf f b list x with
     | none=>some (.err 44)
     | some r=>if r.count=0 then some (.go (m.push b))
      else match r.begin with
       | some (g,a,r')=>m.enter g a (some (n,r'))
       | none=>none
    | _=>some (.err 44)
def Mm.popF (m:Mm):Option (Fr × Mm):=match m.frames.getLast? with
 | some x=>some (x,{ m with frames:=m.frames.dropLast,fg:=x::m.fg,at_:=x.at_,vars:=x.vars })
 | none=>none
def stopIfM (m:Mm):Rm:=if 0≤m.at_ then .go m else .stop m
def Mm.keep (m:Mm) (f a x:It):Mm:=if plainC f a=true then { m with tab:=m.tab.store f a x } else m
def Mm.leave (m:Mm):Option Rm:=match m.pop with
 | none=>none
 | some (x,m)=>match m.popF with
  | none=>some (.stop (m.push x))
  | some (fr,m)=>match fr.rd with
   | none=>some (stopIfM ((m.keep fr.f fr.a x).push x))
   | some (n,r)=>match r.returned x with
    | none=>none
    | some (none,_)=>some (stopIfM ((m.keep fr.f fr.a x).push x))
    | some (some (f,a),r')=>(m.keep fr.f fr.a x).enter f a (some (n,r'))
def madeM (m:Mm) (x:It):Rm:=if 1024≤x.more then .err 4 else .go (m.push x)
def Mm.exec (m:Mm) (n:Nat) (op a:Nat):Option Rm:=match op with
 | 1=>match m.vars[a]? with
  | some x=>some (.go (m.push x))
  | none=>some (.err 44)
 | 2=>some (madeM m (.fn a m.vars))
 | 3=>match m.pop with
  | none=>none
  | some (x,m)=>match m.pop with
   | none=>none
   | some (f,m)=>m.enter f x none
 | 4=>some (.go (m.push (.num 0)))
 | 5=>match m.pop with
  | none=>none
  | some (.num k,m)=>some (.go (m.push (.num (k+1))))
  | some _=>some (.err 44)
 | 6=>m.recursion n false
 | 9=>m.recursion n true
 | 7=>some (.go (m.push (.list [])))
 | 8=>match m.pop with
  | none=>none
  | some (l,m)=>match m.pop with
   | none=>none
   | some (h,m)=>match h,l with
    | .num h,.list l=>if 1024≤l.length then some (.err 4) else some (.go (m.push (.list (h::l))))
    | _,_=>some (.err 44)
 | 10=>match m.pop with
  | none=>none
  | some (b,m)=>match m.pop with
   | none=>none
   | some (a,m)=>some (madeM m (.pair a b))
 | 11=>match m.pop with
  | none=>none
  | some (.pair a _,m)=>some (.go (m.push a))
  | some _=>some (.err 44)
 | 12=>match m.pop with
  | none=>none
  | some (.pair _ b,m)=>some (.go (m.push b))
  | some _=>some (.err 44)
 | 13=>some (.go (m.push .unit))
 | _=>m.leave
def Mm.step (c:List (Nat × Nat)) (limit:Nat) (n:Nat) (m:Mm):Option Rm :=
 if m.steps=limit then some (.err 5)
 else if m.at_<0 then none
 else match c[m.at_.toNat]? with
  | none=>none
  | some (op,a)=>Mm.exec { m with steps:=m.steps+1,at_:=m.at_+1 } n op a
end Go.Lg
