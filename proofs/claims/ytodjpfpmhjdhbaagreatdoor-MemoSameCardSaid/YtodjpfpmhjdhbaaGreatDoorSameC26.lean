/- Part of the proof: contracts of the types, terms, the generator and the compiler; no conditions. -/
import Derived.Test.YtodjpfpmhjdhbaaGreatDoorSameC25
import Derived.Test.YtodjpfpmhjdhbaaGreatDoorSameC3
import Derived.Test.YtodjpfpmhjdhbaaGreatDoorSameA13
set_option linter.unusedVariables false
set_option linter.unusedSimpArgs false
set_option linter.unusedSectionVars false
theorem Go.Proofs.YtodjpfpmhjdhbaaGreatDoor.onC26 {s : Go.Lg.PV} (h : s.one = true) : (Go.Lg.V.pv s).one = true := by rw [Go.Lg.one_pv]; exact h
namespace Go.Proofs.YtodjpfpmhjdhbaaGreatDoor
open Go.Lg
theorem enC26 {P Q : Prop} (h : P := by simp [retIs,resV,resL,resOne,mkTup,getS,getO,rdV,mkAgg,unL,V.un,TI.isAgg,XX_T,tt41,Tryz.f46,tt30,Tryz.f31,Tryz.f17,Tryz.f98,Tryz.f99,Tryz.f64,Tryz.f66]) (k : Q := by simp [subO,getO,tt41,Tryz.f46,tt30,Tryz.f31,Tryz.f17,Tryz.f98,Tryz.f99,Tryz.f64,Tryz.f66]) : P ∧ Q := ⟨h,k⟩
end Go.Proofs.YtodjpfpmhjdhbaaGreatDoor
/- Types are inferred (ref02.infer): an argument's type is too large. -/
namespace Go.Proofs.YtodjpfpmhjdhbaaGreatDoor
open Go.Lg
set_option maxRecDepth 10000
set_option maxHeartbeats 4000000
end Go.Proofs.YtodjpfpmhjdhbaaGreatDoor
/- ref02.TypeOf of closed terms; RunEval, plainly: what the run comes to. -/
namespace Go.Proofs.YtodjpfpmhjdhbaaGreatDoor
open Go.Lg
set_option maxRecDepth 10000
set_option maxHeartbeats 4000000
def valM:Rs→List PV
 | .num n=>[.int 1,.int n,.nils,.nils]
 | .list l=>[.int 2,.int 0,numsP l,.nils]
 | .unit=>[.int 4,.int 0,.nils,.nils]
 | .pair a b=>[.int 3,.int 0,.nils,.slice [valM a,valM b]]
 | .clo _ _=>[]
theorem mkv_num (L:List Int) (at_:Nat) (hL:L.length≤500):AC Tryz.prog gl 46 [.loc 900 0,.pv (.agg Ty.nat.cells)] (deck L at_) (.ret (.pv (.agg (valM (.num (nxv L at_ 5)))))) (deck L (nxa L at_ 5)):=by
 have h:=next_ok L at_ 5 hL (by omega)
 simp only [valM,Ty.cells,Int.cast_ofNat_Int] at *
 unfold deck at *
 refine body [] Tryz.func46 Tryz.ntmps46 ?_
 refine gg ?_
 refine call h ?_
 refine gg ?_
 exact enC26
theorem mkv_unit (L:List Int) (at_:Nat):AC Tryz.prog gl 46 [.loc 900 0,.pv (.agg Ty.unit.cells)] (deck L at_) (.ret (.pv (.agg (valM .unit)))) (deck L at_):=by
 simp only [valM,Ty.cells]
 unfold deck at *
 refine body [] Tryz.func46 Tryz.ntmps46 ?_
 refine gg ?_
 exact enC26
theorem mkv_list0 (L:List Int) (at_:Nat) (hL:L.length≤500) (h0:nxv L at_ 4=0):AC Tryz.prog gl 46 [.loc 900 0,.pv (.agg Ty.list.cells)] (deck L at_) (.ret (.pv (.agg (valM (.list []))))) (deck L (nxa L at_ 4)):=by
 have h:=next_ok L at_ 4 hL (by omega)
 rw [h0] at h
 simp only [valM,numsP,Ty.cells,Int.cast_ofNat_Int] at *
 unfold deck at *
 refine body [] Tryz.func46 Tryz.ntmps46 ?_
 refine gg ?_
 refine call h ?_
 refine gg ?_
 refine ex_loop 1 (ex_round ?_)
 refine gg ?_
 exact enC26
theorem mkv_list1 (L:List Int) (at_:Nat) (hL:L.length≤500) (h0:nxv L at_ 4=1):∃ l:List Nat,l.length=1∧(∀ x∈l,x≤10) ∧ ∃ at',AC Tryz.prog gl 46 [.loc 900 0,.pv (.agg Ty.list.cells)] (deck L at_) (.ret (.pv (.agg (valM (.list l))))) (deck L at'):=by
 have h:=next_ok L at_ 4 hL (by omega)
 rw [h0] at h
 have h1:=next_ok L (nxa L at_ 4) 4 hL (by omega)
 have k1:=nxv_lt L (nxa L at_ 4) 4 (by omega)
 refine ⟨[nxv L (nxa L at_ 4) 4],rfl,by simp;omega,(nxa L (nxa L at_ 4) 4),?_⟩
 simp only [valM,numsP,Ty.cells,Int.cast_ofNat_Int,List.map_cons,List.map_nil] at *
 generalize nxv L (nxa L at_ 4) 4=v1 at *
 generalize (nxa L (nxa L at_ 4) 4)=a1 at *
 unfold deck at *
 refine body [] Tryz.func46 Tryz.ntmps46 ?_
 refine gg ?_
 refine call h ?_
 refine gg ?_
 refine th 5 2 908 1 3 ?_
 refine ex_loop 4 (ex_round ?_)
 refine gg ?_
 refine call h1 ?_
 refine gg ?_
 refine ⟨by rfl,?_⟩
 refine gg ?_
 refine ex_round ?_
 refine frz 908 (es:=[[.int v1]]) ?_
 refine gg ?_
 exact enC26
theorem mkv_list2 (L:List Int) (at_:Nat) (hL:L.length≤500) (h0:nxv L at_ 4=2):∃ l:List Nat,l.length=2∧(∀ x∈l,x≤10) ∧ ∃ at',AC Tryz.prog gl 46 [.loc 900 0,.pv (.agg Ty.list.cells)] (deck L at_) (.ret (.pv (.agg (valM (.list l))))) (deck L at'):=by
 have h:=next_ok L at_ 4 hL (by omega)
 rw [h0] at h
 have h1:=next_ok L (nxa L at_ 4) 4 hL (by omega)
 have h2:=next_ok L (nxa L (nxa L at_ 4) 4) 4 hL (by omega)
 have k1:=nxv_lt L (nxa L at_ 4) 4 (by omega)
 have k2:=nxv_lt L (nxa L (nxa L at_ 4) 4) 4 (by omega)
 refine ⟨[nxv L (nxa L at_ 4) 4,nxv L (nxa L (nxa L at_ 4) 4) 4],rfl,by simp;omega,(nxa L (nxa L (nxa L at_ 4) 4) 4),?_⟩
 simp only [valM,numsP,Ty.cells,Int.cast_ofNat_Int,List.map_cons,List.map_nil] at *
 generalize nxv L (nxa L (nxa L at_ 4) 4) 4=v2 at *
 generalize (nxa L (nxa L (nxa L at_ 4) 4) 4)=a2 at *
 generalize nxv L (nxa L at_ 4) 4=v1 at *
 generalize (nxa L (nxa L at_ 4) 4)=a1 at *
 unfold deck at *
 refine body [] Tryz.func46 Tryz.ntmps46 ?_
 refine gg ?_
 refine call h ?_
 refine gg ?_
 refine th 5 2 908 1 3 ?_
 refine ex_loop 4 (ex_round ?_)
 refine gg ?_
 refine call h1 ?_
 refine gg ?_
 refine ⟨by rfl,?_⟩
 refine gg ?_
 refine ex_round ?_
 refine gg ?_
 refine call h2 ?_
 refine gg ?_
 refine ⟨by rfl,?_⟩
 refine gg ?_
 refine ex_round ?_
 refine frz 908 (es:=[[.int v1],[.int v2]]) ?_
 refine gg ?_
 exact enC26
theorem mkv_list3 (L:List Int) (at_:Nat) (hL:L.length≤500) (h0:nxv L at_ 4=3):∃ l:List Nat,l.length=3∧(∀ x∈l,x≤10) ∧ ∃ at',AC Tryz.prog gl 46 [.loc 900 0,.pv (.agg Ty.list.cells)] (deck L at_) (.ret (.pv (.agg (valM (.list l))))) (deck L at'):=by
 have h:=next_ok L at_ 4 hL (by omega)
 rw [h0] at h
 have h1:=next_ok L (nxa L at_ 4) 4 hL (by omega)
 have h2:=next_ok L (nxa L (nxa L at_ 4) 4) 4 hL (by omega)
 have h3:=next_ok L (nxa L (nxa L (nxa L at_ 4) 4) 4) 4 hL (by omega)
 have k1:=nxv_lt L (nxa L at_ 4) 4 (by omega)
 have k2:=nxv_lt L (nxa L (nxa L at_ 4) 4) 4 (by omega)
 have k3:=nxv_lt L (nxa L (nxa L (nxa L at_ 4) 4) 4) 4 (by omega)
 refine ⟨[nxv L (nxa L at_ 4) 4,nxv L (nxa L (nxa L at_ 4) 4) 4,nxv L (nxa L (nxa L (nxa L at_ 4) 4) 4) 4],rfl,by simp;omega,(nxa L (nxa L (nxa L (nxa L at_ 4) 4) 4) 4),?_⟩
 simp only [valM,numsP,Ty.cells,Int.cast_ofNat_Int,List.map_cons,List.map_nil] at *
 generalize nxv L (nxa L (nxa L (nxa L at_ 4) 4) 4) 4=v3 at *
 generalize (nxa L (nxa L (nxa L (nxa L at_ 4) 4) 4) 4)=a3 at *
 generalize nxv L (nxa L (nxa L at_ 4) 4) 4=v2 at *
 generalize (nxa L (nxa L (nxa L at_ 4) 4) 4)=a2 at *
 generalize nxv L (nxa L at_ 4) 4=v1 at *
 generalize (nxa L (nxa L at_ 4) 4)=a1 at *
 unfold deck at *
 refine body [] Tryz.func46 Tryz.ntmps46 ?_
 refine gg ?_
 refine call h ?_
 refine gg ?_
 refine th 5 2 908 1 3 ?_
 refine ex_loop 4 (ex_round ?_)
 refine gg ?_
 refine call h1 ?_
 refine gg ?_
 refine ⟨by rfl,?_⟩
 refine gg ?_
 refine ex_round ?_
 refine gg ?_
 refine call h2 ?_
 refine gg ?_
 refine ⟨by rfl,?_⟩
 refine gg ?_
 refine ex_round ?_
 refine gg ?_
 refine call h3 ?_
 refine gg ?_
 refine ⟨by rfl,?_⟩
 refine gg ?_
 refine ex_round ?_
 refine frz 908 (es:=[[.int v1],[.int v2],[.int v3]]) ?_
 refine gg ?_
 exact enC26
theorem mkv_list (L:List Int) (at_:Nat) (hL:L.length≤500):∃ l:List Nat,l.length≤10∧(∀ x∈l,x≤10) ∧ ∃ at',AC Tryz.prog gl 46 [.loc 900 0,.pv (.agg Ty.list.cells)] (deck L at_) (.ret (.pv (.agg (valM (.list l))))) (deck L at'):=by
 have h:=nxv_lt L at_ 4 (by omega)
 have:nxv L at_ 4=0∨nxv L at_ 4=1∨nxv L at_ 4=2∨nxv L at_ 4=3:=by omega
 rcases this with e | e | e | e
 ·exact ⟨[],by simp,by simp,_,mkv_list0 L at_ hL e⟩
 ·obtain ⟨l,h1,h2,h3⟩:=mkv_list1 L at_ hL e;exact ⟨l,by omega,h2,h3⟩
 ·obtain ⟨l,h1,h2,h3⟩:=mkv_list2 L at_ hL e;exact ⟨l,by omega,h2,h3⟩
 ·obtain ⟨l,h1,h2,h3⟩:=mkv_list3 L at_ hL e;exact ⟨l,by omega,h2,h3⟩
theorem mkv_base (L:List Int) (at_:Nat) (hL:L.length≤500) (t:Ty) (ht:t = .nat∨t = .list∨t = .unit):∃ r,RsT 10 r t ∧ ∃ at',AC Tryz.prog gl 46 [.loc 900 0,.pv (.agg t.cells)] (deck L at_) (.ret (.pv (.agg (valM r)))) (deck L at'):=by
 rcases ht with rfl | rfl | rfl
 ·have:=nxv_lt L at_ 5 (by omega)
  exact ⟨.num _,.num (by omega),_,mkv_num L at_ hL⟩
 ·obtain ⟨l,h1,h2,h3⟩:=mkv_list L at_ hL
  exact ⟨.list l,.list h1 h2,h3⟩
 ·exact ⟨.unit,.unit,_,mkv_unit L at_⟩
theorem valM_shape {B:Nat} {r:Rs} {t:Ty} (h:RsT B r t) (hp:t = .nat∨t = .list∨t = .unit):∃ k n s,valM r=[.int k,.int n,s,.nils]∧s.one=true:=by
 rcases hp with rfl | rfl | rfl <;> cases h
 ·exact ⟨_,_,_,rfl,rfl⟩
 ·rename_i l _ _
  exact ⟨_,_,_,rfl,by cases l <;> rfl⟩
 ·exact ⟨_,_,_,rfl,rfl⟩
theorem mkv_pair (L:List Int) (at_:Nat) (hL:L.length≤500) (s t:Ty) (hs:s = .nat∨s = .list∨s = .unit) (ht:t = .nat∨t = .list∨t = .unit):∃ r,RsT 10 r (.pair s t) ∧ ∃ at',AC Tryz.prog gl 46 [.loc 900 0,.pv (.agg (Ty.pair s t).cells)] (deck L at_) (.ret (.pv (.agg (valM r)))) (deck L at'):=by
 obtain ⟨a,ha,a1,h1⟩:=mkv_base L at_ hL s hs
 obtain ⟨b,hb,a2,h2⟩:=mkv_base L a1 hL t ht
 refine ⟨.pair a b,.pair ha hb,a2,?_⟩
 obtain ⟨k3,n3,s3,e3,o3⟩:=valM_shape ha hs
 obtain ⟨k4,n4,s4,e4,o4⟩:=valM_shape hb ht
 have w3:=vcells_one o3
 have w4:=vcells_one o4
 have v3:=onC26 o3
 have v4:=onC26 o4
 simp only [valM,Ty.cells,e3,e4] at *
 rw [s.cells_eq] at h1 ⊢
 rw [t.cells_eq] at h2 ⊢
 clear e3 e4 hs ht ha hb
 generalize s.args.map Ty.cells=sa at *
 generalize t.args.map Ty.cells=ta at *
 unfold deck at *
 refine body [] Tryz.func46 Tryz.ntmps46 ?_
 refine gg ?_
 refine call h1 ?_
 refine gg ?_
 refine call h2 ?_
 refine gg ?_
 refine ⟨by rfl,?_⟩
 refine gg ?_
 exact enC26
theorem mkv_ok (L:List Int) (at_:Nat) (hL:L.length≤500) (t:Ty) (ht:t.plain):∃ r,RsT 10 r t ∧ ∃ at',AC Tryz.prog gl 46 [.loc 900 0,.pv (.agg t.cells)] (deck L at_) (.ret (.pv (.agg (valM r)))) (deck L at'):=by
 rcases plain_cases ht with h | ⟨s,h,rfl⟩
 ·exact mkv_base L at_ hL t h
 ·exact mkv_pair L at_ hL _ _ (.inl rfl) (by rcases h with rfl | rfl <;> simp)
theorem valM_shape2 {B:Nat} {r:Rs} {t:Ty} (h:RsT B r t) (hp:t.plain):∃ k n s q,valM r=[.int k,.int n,s,q]∧s.one=true∧q.one=true:=by
 rcases plain_cases hp with hb | ⟨s,hb,rfl⟩
 ·obtain ⟨k,n,s,e,o⟩:=valM_shape h hb
  exact ⟨k,n,s,.nils,e,o,rfl⟩
 ·cases h with
  | pair ha hb'=>exact ⟨_,_,_,_,rfl,rfl,rfl⟩
open Go.Lg
set_option maxRecDepth 10000
set_option maxHeartbeats 4000000
theorem lam24_ok (s:Ty) (b:Tm):AC Tryz.prog gl 31 [.pv (.agg s.cells),.pv (.agg b.cells)] [] (.ret (.pv (.agg (Tm.lam s b).cells))) []:=by
 rw [Tm.cells_eq (.lam s b)]
 simp only [Tm.kind,Tm.idx,Tm.ty,Tm.args,List.map_cons,List.map_nil]
 rw [Tm.cells_eq b,Ty.cells_eq s]
 generalize s.args.map Ty.cells=sa at *
 generalize b.ty.args.map Ty.cells=ta at *
 generalize b.args.map Tm.cells=ba at *
 refine body [] Tryz.func31 Tryz.ntmps31 ?_
 refine gg ?_
 exact enC26
theorem pick6_plain (n:Nat):(pick6 n).plain:=by
 unfold pick6 Ty.plain Ty.base
 repeat' split
 all_goals simp
structure FunD (tm:Tm) (ss:List Ty) (τ:Ty) (rs:List Rs):Prop where
 ty:HasTy [] tm (ss.foldr Ty.fn τ)
 wf:tm.wf=true
 size:tm.size≤770
 plain:τ.plain
 args:rs.length=ss.length
 each:∀ (i:Nat) (r:Rs) (s:Ty),rs[i]? = some r→ss[i]? = some s→RsT 10 r s∧s.plain
theorem plain_good {t:Ty} (h:t.plain):t.good=true:=by
 rcases plain_cases h with h1 | ⟨s,h1,rfl⟩
 ·clear h
  rcases h1 with rfl | rfl | rfl <;> rfl
 ·clear h
  rcases h1 with rfl | rfl <;> rfl
theorem fun_1 (L:List Int) (hL:L.length≤500) (at_:Nat) (h0:nxv L at_ 2=0):∃ tm s τ r at',FunD tm [s] τ [r]∧AC Tryz.prog gl 17 [.loc 900 0] (deck L at_) (.ret (.pv (.tuple [.agg tm.cells,.slice [valM r]]))) (deck L at'):=by
 have h:=next_ok L at_ 2 hL (by omega)
 rw [h0] at h
 have h1:=plain_ok L (nxa L at_ 2) hL
 have p1:=pick6_plain (nxv L (nxa L at_ 2) 6)
 generalize pick6 (nxv L (nxa L at_ 2) 6)=s at *
 generalize nxa L (nxa L at_ 2) 6=a1 at *
 obtain ⟨r,hr,a2,h2⟩:=mkv_ok L a1 hL s p1
 have h3:=plain_ok L a2 hL
 have p3:=pick6_plain (nxv L a2 6)
 generalize pick6 (nxv L a2 6)=τ at *
 generalize nxa L a2 6=a3 at *
 obtain ⟨b,a4,hg,h4⟩:=term_ok L hL 7 [s] τ 3 a3 (by unfold nb;split <;> simp) (by simpa using p1) p3 (by omega) (by omega) (by simp)
 have h5:=lam24_ok s b
 refine ⟨.lam s b,s,τ,r,a4,⟨.lam hg.ty,?_,?_,p3,rfl,?_⟩,?_⟩
 ·simp only [Tm.wf,Bool.and_eq_true];exact ⟨plain_good p1,hg.wf⟩
 ·have:=hg.size
  have e:Sz (3:Int).toNat=763:=rfl
  simp only [Tm.size];omega
 ·intro i x y hx hy
  match i with
  | 0=>simp at hx hy;subst hx hy;exact ⟨hr,p1⟩
  | i+1=>simp at hx
 obtain ⟨k,n,q,w,ev,o1,o2⟩:=valM_shape2 hr p1
 have w1:=vcells_one o1
 have w2:=vcells_one o2
 have v1:=onC26 o1
 have v2:=onC26 o2
 clear hg p1 p3 hr
 generalize nxa L at_ 2=a0 at *
 unfold deck at *
 simp only [Int.cast_ofNat_Int,List.map_cons,List.map_nil,ev] at *
 rw [Tm.cells_eq (.lam s b)] at *
 simp only [Tm.kind,Tm.idx,Tm.ty,Tm.args,List.map_cons,List.map_nil] at *
 rw [s.cells_eq] at *
 rw [τ.cells_eq] at *
 rw [b.cells_eq] at *
 clear ev
 generalize s.args.map Ty.cells=sa at *
 generalize τ.args.map Ty.cells=ta at *
 generalize b.ty.args.map Ty.cells=bta at *
 generalize b.args.map Tm.cells=ba at *
 refine body [(4,.arr 910 2 27),(5,.arr 911 4 41)] Tryz.func17 Tryz.ntmps17 ?_
 refine gg ?_
 refine call h ?_
 refine gg ?_
 refine ex_loop 3 (ex_round ?_)
 refine gg ?_
 refine call h1 ?_
 refine gg ?_
 refine call h2 ?_
 refine gg ?_
 refine ⟨by rfl,?_⟩
 refine gg ?_
 refine ex_round ?_
 refine kp [0,2,3,4,5,6] [2,900,910,911] ?_
 refine frz 910 (es:=[[.int s.kind,.slice sa]]) ?_
 refine gg ?_
 refine call h3 ?_
 refine gg ?_
 refine call h4 ?_
 refine gg ?_
 refine ex_loop 3 (ex_round ?_)
 refine gg ?_
 refine call h5 ?_
 refine gg ?_
 refine ⟨by rfl,?_⟩
 refine gg ?_
 refine ex_round ?_
 refine frz 911 (es:=[[.int k,.int n,q,w]]) ?_
 refine gg ?_
 exact enC26
theorem fun_2 (L:List Int) (hL:L.length≤500) (at_:Nat) (h0:nxv L at_ 2=1):∃ tm s s' τ r r' at',FunD tm [s,s'] τ [r,r']∧AC Tryz.prog gl 17 [.loc 900 0] (deck L at_) (.ret (.pv (.tuple [.agg tm.cells,.slice [valM r,valM r']]))) (deck L at'):=by
 have h:=next_ok L at_ 2 hL (by omega)
 rw [h0] at h
 have h1:=plain_ok L (nxa L at_ 2) hL
 have p1:=pick6_plain (nxv L (nxa L at_ 2) 6)
 generalize pick6 (nxv L (nxa L at_ 2) 6)=s at *
 generalize nxa L (nxa L at_ 2) 6=a1 at *
 obtain ⟨r,hr,a2,h2⟩:=mkv_ok L a1 hL s p1
 have h1':=plain_ok L a2 hL
 have p1':=pick6_plain (nxv L a2 6)
 generalize pick6 (nxv L a2 6)=s' at *
 generalize nxa L a2 6=a1' at *
 obtain ⟨r',hr',a2',h2'⟩:=mkv_ok L a1' hL s' p1'
 have h3:=plain_ok L a2' hL
 have p3:=pick6_plain (nxv L a2' 6)
 generalize pick6 (nxv L a2' 6)=τ at *
 generalize nxa L a2' 6=a3 at *
 obtain ⟨b,a4,hg,h4⟩:=term_ok L hL 7 [s,s'] τ 3 a3 (by unfold nb;split <;> simp) (by simp;exact ⟨p1,p1'⟩) p3 (by omega) (by omega) (by simp)
 have h5:=lam24_ok s' b
 have h6:=lam24_ok s (.lam s' b)
 refine ⟨.lam s (.lam s' b),s,s',τ,r,r',a4,⟨.lam (.lam hg.ty),?_,?_,p3,rfl,?_⟩,?_⟩
 ·simp only [Tm.wf,Bool.and_eq_true];exact ⟨plain_good p1,plain_good p1',hg.wf⟩
 ·have:=hg.size
  have e:Sz (3:Int).toNat=763:=rfl
  simp only [Tm.size];omega
 ·intro i x y hx hy
  match i with
  | 0=>simp at hx hy;subst hx hy;exact ⟨hr,p1⟩
  | 1=>simp at hx hy;subst hx hy;exact ⟨hr',p1'⟩
  | i+2=>simp at hx
 obtain ⟨k,n,q,w,ev,o1,o2⟩:=valM_shape2 hr p1
 obtain ⟨k',n',q',w',ev',o1',o2'⟩:=valM_shape2 hr' p1'
 have w1:=vcells_one o1
 have w2:=vcells_one o2
 have v1:=onC26 o1
 have v2:=onC26 o2
 have w1':=vcells_one o1'
 have w2':=vcells_one o2'
 have v1':=onC26 o1'
 have v2':=onC26 o2'
 clear hg p1 p1' p3 hr hr'
 generalize nxa L at_ 2=a0 at *
 unfold deck at *
 simp only [Int.cast_ofNat_Int,List.map_cons,List.map_nil,ev,ev'] at *
 rw [Tm.cells_eq (.lam s _)] at *
 rw [Tm.cells_eq (.lam s' b)] at *
 simp only [Tm.kind,Tm.idx,Tm.ty,Tm.args,List.map_cons,List.map_nil] at *
 rw [Tm.cells_eq (.lam s' b)] at *
 simp only [Tm.kind,Tm.idx,Tm.ty,Tm.args,List.map_cons,List.map_nil] at *
 rw [s.cells_eq] at *
 rw [s'.cells_eq] at *
 rw [τ.cells_eq] at *
 rw [b.cells_eq] at *
 clear ev ev'
 generalize s.args.map Ty.cells=sa at *
 generalize s'.args.map Ty.cells=sa' at *
 generalize τ.args.map Ty.cells=ta at *
 generalize b.ty.args.map Ty.cells=bta at *
 generalize b.args.map Tm.cells=ba at *
 refine body [(4,.arr 910 2 27),(5,.arr 911 4 41)] Tryz.func17 Tryz.ntmps17 ?_
 refine gg ?_
 refine call h ?_
 refine gg ?_
 refine ex_loop 3 (ex_round ?_)
 refine gg ?_
 refine call h1 ?_
 refine gg ?_
 refine call h2 ?_
 refine gg ?_
 refine ⟨by rfl,?_⟩
 refine gg ?_
 refine ex_round ?_
 refine kp [0,2,3,4,5,6] [2,900,910,911] ?_
 refine gg ?_
 refine call h1' ?_
 refine gg ?_
 refine call h2' ?_
 refine gg ?_
 refine ⟨by rfl,?_⟩
 refine gg ?_
 refine ex_round ?_
 refine kp [0,2,3,4,5,6] [2,900,910,911] ?_
 refine frz 910 (es:=[[.int s.kind,.slice sa],[.int s'.kind,.slice sa']]) ?_
 refine gg ?_
 refine call h3 ?_
 refine gg ?_
 refine call h4 ?_
 refine gg ?_
 refine ex_loop 3 (ex_round ?_)
 refine gg ?_
 refine call h5 ?_
 refine gg ?_
 refine ⟨by rfl,?_⟩
 refine gg ?_
 refine ex_round ?_
 refine gg ?_
 refine call h6 ?_
 refine gg ?_
 refine ⟨by rfl,?_⟩
 refine gg ?_
 refine ex_round ?_
 refine frz 911 (es:=[[.int k,.int n,q,w],[.int k',.int n',q',w']]) ?_
 refine gg ?_
 exact enC26
theorem valW_len {B:Nat} {r:Rs} {t:Ty} (h:RsT B r t) (hp:t.plain):(valM r).length=4∧(valW r).length=4∧(valC r).length=4:=by
 rcases plain_cases hp with hb | ⟨s,hb,rfl⟩
 ·rcases hb with rfl | rfl | rfl <;> cases h <;> exact ⟨rfl,rfl,rfl⟩
 ·cases h;exact ⟨rfl,rfl,rfl⟩
theorem repM_base {H:Hp} {B:Nat} {r:Rs} {t:Ty} (h:RsT B r t) (hp:t = .nat∨t = .list∨t = .unit) {vs:List Value} (hr:RepL H (valM r) vs):RepL H (valW r) vs:=by
 rcases hp with rfl | rfl | rfl <;> cases h
 ·match vs,hr with
  | [],h=>exact h
  | [_],⟨h1,h2⟩=>exact ⟨h1,h2⟩
  | [_,_],⟨h1,h2,h3⟩=>exact ⟨h1,h2,h3⟩
  | _::_::_::_,⟨h1,h2,h3,h4⟩=>exact ⟨h1,h2,rep_nils h3,h4⟩
 ·rename_i l _ _
  match vs,hr with
  | [],h=>exact h
  | [_],⟨h1,h2⟩=>exact ⟨h1,h2⟩
  | [_,_],⟨h1,h2,h3⟩=>exact ⟨h1,h2,h3⟩
  | _::_::_::_,⟨h1,h2,h3,h4⟩ =>
   refine ⟨h1,h2,?_,h4⟩
   cases l with
   | nil=>exact rep_nils h3
   | cons x l=>exact h3
 ·match vs,hr with
  | [],h=>exact h
  | [_],⟨h1,h2⟩=>exact ⟨h1,h2⟩
  | [_,_],⟨h1,h2,h3⟩=>exact ⟨h1,h2,h3⟩
  | _::_::_::_,⟨h1,h2,h3,h4⟩=>exact ⟨h1,h2,rep_nils h3,h4⟩
theorem repM {H:Hp} {B:Nat} {r:Rs} {t:Ty} (h:RsT B r t) (hp:t.plain) {vs:List Value} (hr:RepL H (valM r) vs):RepL H (valW r) vs:=by
 rcases plain_cases hp with hb | ⟨s,hb,rfl⟩
 ·exact repM_base h hb hr
 ·cases h with
  | @pair a b _ _ ha hb' =>
   have la:=valW_len ha (.inl (.inl rfl))
   have lb:=valW_len hb' (.inl (by rcases hb with rfl | rfl;exact .inr (.inl rfl);exact .inl rfl))
   match vs,hr with
   | [],h=>exact h
   | [_],⟨h1,h2⟩=>exact ⟨h1,h2⟩
   | [_,_],⟨h1,h2,h3⟩=>exact ⟨h1,h2,h3⟩
   | [_,_,_],⟨h1,h2,h3,h4⟩=>exact ⟨h1,h2,rep_nils h3,h4⟩
   | _::_::_::_::_,⟨h1,h2,h3,h4,h5⟩ =>
    refine ⟨h1,h2,rep_nils h3,?_,h5⟩
    simp only [RepP] at h4 ⊢
    obtain ⟨a',cap,e1,e2,e3,e4⟩:=h4
    refine ⟨a',cap,e1,e2,e3,?_⟩
    rcases e4 with e4 | ⟨bb,off,e5,e6⟩
    ·cases e4
    ·refine .inr ⟨bb,off,e5,?_⟩
     simp only [RepE,la.1,la.2.1,lb.1,lb.2.1] at e6 ⊢
     exact ⟨repM_base ha (.inl rfl) e6.1,repM_base hb' (by rcases hb with rfl | rfl <;> simp) e6.2.1,trivial⟩
theorem repMa {H:Hp} {B:Nat} {r:Rs} {t:Ty} (h:RsT B r t) (hp:t.plain) {v:Value} (hr:RepP H (.agg (valM r)) v):RepP H (.agg (valW r)) v:=by
 have hl:=valW_len h hp
 simp only [RepP] at hr ⊢
 obtain ⟨vs,e1,e2,e3⟩:=hr
 exact ⟨vs,e1,by omega,repM h hp e3⟩
theorem ac_M {B:Nat} {r:Rs} {t:Ty} (h:RsT B r t) (hp:t.plain) {f:Nat} {out:Go.Lg.Out} {objs objs':List (Nat × Ob)} (ha:AC Tryz.prog gl f [.pv (.agg (valW r))] objs out objs'):AC Tryz.prog gl f [.pv (.agg (valM r))] objs out objs' :=
 ha.le1 (fun _ _ hr=>repMa h hp hr)
theorem shp_num (n:Nat):AC Tryz.prog gl 98 [.pv (.agg (valW (.num n)))] [] (.ret (.pv (.bool true))) []:=by
 have h:(0:Int)≤n:=by omega
 simp only [valW]
 refine body [] Tryz.func98 Tryz.ntmps98 ?_
 refine gg ?_
 exact enC26
theorem shp_unit:AC Tryz.prog gl 98 [.pv (.agg (valW .unit))] [] (.ret (.pv (.bool true))) []:=by
 simp only [valW]
 refine body [] Tryz.func98 Tryz.ntmps98 ?_
 refine gg ?_
 exact enC26
noncomputable def shI (cc:List (List PV)) (k:Nat):St:=⟨[(1,.pv (.ptr [.int 2,.int 0,.slice cc,.nils])),(2,.pv (.bool false)),(27,.pv (.slice cc)),(28,.pv (.int cc.length)),(29,.pv (.int k))],[],[]⟩
theorem shp_list (l:List Nat) (hl:l.length≤100000):AC Tryz.prog gl 98 [.pv (.agg (valW (.list l)))] [] (.ret (.pv (.bool true))) []:=by
 have hal:=numsR_all l
 have hlen:(numsR l).length=l.length:=by simp [numsR]
 have hg:∀ k,k<l.length→∃ a:Nat,(numsR l).getD k []=[.int a]:=by
  intro k hk
  refine ⟨l[k],?_⟩
  simp [numsR,List.getD,hk]
 simp only [valW]
 generalize numsR l=cc at *
 rw [← hlen] at hg hl
 clear hlen
 refine body [] Tryz.func98 Tryz.ntmps98 ?_
 refine gg ?_
 refine AWP.loopN cc.length (shI cc) ?_ ?_
 ·refine ⟨by simp [shI,slotsLe,getS],by simp [shI,subO,getO],by simp [shI,subL,namesSl,V.names,namesL,namesOb,Ob.names,XX_given]⟩
 intro k hkn
 unfold shI
 by_cases hk:k<cc.length
 ·obtain ⟨a,ha⟩:=hg k hk
  have k1:(k:Int)<cc.length:=by omega
  have k2:(0:Int)≤(k:Int):=by omega
  have k3:¬ (a:Int)<0:=by omega
  clear hg
  refine gg ?_
  refine ⟨hk,?_,?_,?_⟩
  ·simp [slotsLe,getS]
  ·simp [subO,getO]
  ·simp [subL,namesSl,V.names,namesL,namesOb,Ob.names,XX_given]
 ·have k1:¬ (k:Int)<cc.length:=by omega
  clear hg
  refine gg ?_
  exact enC26
theorem shp_base {B:Nat} (hB:B≤100000) {r:Rs} {t:Ty} (h:RsT B r t) (hp:t = .nat∨t = .list∨t = .unit):AC Tryz.prog gl 98 [.pv (.agg (valW r))] [] (.ret (.pv (.bool true))) []:=by
 rcases hp with rfl | rfl | rfl
 ·cases h;exact shp_num _
 ·cases h with
  | list h1 h2=>exact shp_list _ (by omega)
 ·cases h;exact shp_unit
theorem shp_pair {B:Nat} (hB:B≤100000) {a b:Rs} {s t:Ty} (ha:RsT B a s) (hb:RsT B b t) (hs:s = .nat∨s = .list∨s = .unit) (ht:t = .nat∨t = .list∨t = .unit) :
  AC Tryz.prog gl 98 [.pv (.agg (valW (.pair a b)))] [] (.ret (.pv (.bool true))) []:=by
 have h1:=shp_base hB ha hs
 have h2:=shp_base hB hb ht
 obtain ⟨k5,n5,s5,e5,o5⟩:=valW_shape ha hs
 obtain ⟨k6,n6,s6,e6,o6⟩:=valW_shape hb ht
 have w5:=vcells_one o5
 have w6:=vcells_one o6
 have v5:=onC26 o5
 have v6:=onC26 o6
 simp only [valW,e5,e6] at h1 h2 ⊢
 clear e5 e6
 refine body [] Tryz.func98 Tryz.ntmps98 ?_
 refine gg ?_
 refine call h1 ?_
 refine gg ?_
 refine call h2 ?_
 refine gg ?_
 exact enC26
theorem nds_base {B:Nat} {r:Rs} {t:Ty} (h:RsT B r t) (hp:t = .nat∨t = .list∨t = .unit):AC Tryz.prog gl 99 [.pv (.agg (valW r))] [] (.ret (.pv (.int 1))) []:=by
 obtain ⟨k5,n5,s5,e5,o5⟩:=valW_shape h hp
 have w5:=vcells_one o5
 have v5:=onC26 o5
 rw [e5]
 clear e5
 refine body [] Tryz.func99 Tryz.ntmps99 ?_
 refine gg ?_
 refine ex_loop 1 (ex_round ?_)
 refine gg ?_
 exact enC26
theorem nds_pair {B:Nat} {a b:Rs} {s t:Ty} (ha:RsT B a s) (hb:RsT B b t) (hs:s = .nat∨s = .list∨s = .unit) (ht:t = .nat∨t = .list∨t = .unit) :
  AC Tryz.prog gl 99 [.pv (.agg (valW (.pair a b)))] [] (.ret (.pv (.int 3))) []:=by
 have h1:=nds_base ha hs
 have h2:=nds_base hb ht
 obtain ⟨k5,n5,s5,e5,o5⟩:=valW_shape ha hs
 obtain ⟨k6,n6,s6,e6,o6⟩:=valW_shape hb ht
 have w5:=vcells_one o5
 have w6:=vcells_one o6
 have v5:=onC26 o5
 have v6:=onC26 o6
 simp only [valW,e5,e6] at h1 h2 ⊢
 clear e5 e6
 refine body [] Tryz.func99 Tryz.ntmps99 ?_
 refine gg ?_
 refine ex_loop 3 (ex_round ?_)
 refine gg ?_
 refine call h1 ?_
 refine gg ?_
 refine ex_round ?_
 refine kp [1,2,3,7,8,9] [] ?_
 refine gg ?_
 refine call h2 ?_
 refine gg ?_
 refine ex_round ?_
 refine gg ?_
 exact enC26
theorem chk_of (v:List PV) (n:Nat) (hn:n≤64) (sv:∃ k m s q,v=[.int k,.int m,s,q]∧s.one=true∧q.one=true) (hs:AC Tryz.prog gl 98 [.pv (.agg v)] [] (.ret (.pv (.bool true))) []) (h:AC Tryz.prog gl 99 [.pv (.agg v)] [] (.ret (.pv (.int n))) []):AC Tryz.prog gl 64 [.pv (.agg v)] [] (.ret (.pv (.int 0))) []:=by
 obtain ⟨k,m,s,q,rfl,o1,o2⟩:=sv
 have hn':¬ (64:Int)<n:=by omega
 have w1:=vcells_one o1
 have w2:=vcells_one o2
 have v1:=onC26 o1
 have v2:=onC26 o2
 refine body [] Tryz.func64 Tryz.ntmps64 ?_
 refine gg ?_
 refine call hs ?_
 refine gg ?_
 refine call h ?_
 refine gg ?_
 exact enC26
theorem valW_shape2 {B:Nat} {r:Rs} {t:Ty} (h:RsT B r t) (hp:t.plain):∃ k m s q,valW r=[.int k,.int m,s,q]∧s.one=true∧q.one=true:=by
 rcases plain_cases hp with hb | ⟨s,hb,rfl⟩
 ·obtain ⟨k,n,s,e,o⟩:=valW_shape h hb
  exact ⟨k,n,s,.nils,e,o,rfl⟩
 ·cases h with
  | pair ha hb'=>exact ⟨_,_,_,_,rfl,rfl,rfl⟩
theorem chk_ok {B:Nat} (hB:B≤100000) {r:Rs} {t:Ty} (h:RsT B r t) (hp:t.plain):AC Tryz.prog gl 64 [.pv (.agg (valW r))] [] (.ret (.pv (.int 0))) []:=by
 rcases plain_cases hp with hb | ⟨s,hb,rfl⟩
 ·exact chk_of _ 1 (by omega) (valW_shape2 h hp) (shp_base hB h hb) (nds_base h hb)
 ·have hb2:s = .nat∨s = .list∨s = .unit:=by rcases hb with rfl | rfl <;> simp
  have hsh:=valW_shape2 h hp
  cases h with
  | pair ha hb'=>exact chk_of _ 3 (by omega) hsh (shp_pair hB ha hb' (.inl rfl) hb2) (nds_pair ha hb' (.inl rfl) hb2)
open Go.Lg
set_option maxRecDepth 10000
set_option maxHeartbeats 4000000
def itOf:Rs→It
 | .num n => .num n
 | .list l => .list l
 | .unit => .unit
 | .pair a b => .pair (itOf a) (itOf b)
 | .clo _ _ => .unit
theorem from_num (n:Nat):AC Tryz.prog gl 66 [.pv (.agg (valW (.num n)))] [] (.ret (.pv (itP (.num n)))) []:=by
 simp only [itP,valW]
 refine body [(12,.box 905)] Tryz.func66 Tryz.ntmps66 ?_
 refine gg ?_
 refine ex_loop 1 (ex_round ?_)
 refine gg ?_
 refine ex_loop 1 (ex_round ?_)
 refine fb 905 (ps:=[.int 1,.int n,.nil,.nil,.nil,.int 0,.nil,.int 0,.bool false]) ?_
 refine gg ?_
 exact enC26
theorem from_unit:AC Tryz.prog gl 66 [.pv (.agg (valW .unit))] [] (.ret (.pv (itP .unit))) []:=by
 simp only [itP,valW]
 refine body [(12,.box 905)] Tryz.func66 Tryz.ntmps66 ?_
 refine gg ?_
 refine ex_loop 1 (ex_round ?_)
 refine gg ?_
 refine ex_loop 1 (ex_round ?_)
 refine fb 905 (ps:=[.int 4,.int 0,.nil,.nil,.nil,.int 0,.nil,.int 0,.bool false]) ?_
 refine gg ?_
 exact enC26
noncomputable def frI (l:List Nat) (cc:List (List PV)) (k:Nat):St:=⟨[(1,.pv (.ptr [.int 2,.int 0,.slice cc,.nils])),(2,.pv .nil),(3,.loc 905 0),(4,.pv (.int ((cc.length:Int)-1-k)))],
 [(905,.box [.pv (.int 2),.pv (.int 0),.pv (linkP (l.drop (l.length-k))),.pv .nil,.pv .nil,.pv (.int 0),.pv .nil,.pv (.int 0),.pv (.bool false)])],[905]⟩
theorem from_list (l:List Nat) (hl:l.length≤100000):AC Tryz.prog gl 66 [.pv (.agg (valW (.list l)))] [] (.ret (.pv (itP (.list l)))) []:=by
 have hal:=numsR_all l
 have hlen:(numsR l).length=l.length:=by simp [numsR]
 have hg:∀ k (hk:k<l.length),(numsR l).getD k []=[.int (l[k]:Nat)]:=by
  intro k hk
  simp [numsR,List.getD,hk]
 simp only [valW,itP]
 generalize numsR l=cc at *
 refine body [(12,.box 905)] Tryz.func66 Tryz.ntmps66 ?_
 refine gg ?_
 refine AWP.loopN cc.length (frI l cc) ?_ ?_
 ·refine ⟨by simp [frI,slotsLe,getS,hlen],by simp [frI,subO,getO,linkP],by simp [frI,subL,namesSl,V.names,namesL,namesOb,Ob.names,XX_given]⟩
 intro k hkn
 unfold frI
 by_cases hk:k<cc.length
 ·have hi:((cc.length:Int)-1-k).toNat=l.length-(k+1):=by omega
  have hlt:l.length-(k+1)<l.length:=by omega
  have ha:=hg _ hlt
  have hd:l.drop (l.length-(k+1))=l[l.length-(k+1)]::l.drop (l.length-k):=by
   rw [List.drop_eq_getElem_cons hlt]
   congr 2
   omega
  have hz:=lsize_ok (l.drop (l.length-k))
  have hzl:(l.drop (l.length-k)).length=k:=by rw [List.length_drop];omega
  have e1:linkP (l.drop (l.length-(k+1))) = .ptr [.int (l[l.length-(k+1)]:Nat),.int ((k:Int)+1),linkP (l.drop (l.length-k))]:=by
   rw [hd,linkP,hzl]
   simp
  rw [hzl] at hz
  have hvt:=vcells_one (linkP_one (l.drop (l.length-k)))
  have hvo:(V.pv (linkP (l.drop (l.length-k)))).one=true:=by rw [one_pv];exact linkP_one _
  have k1:(0:Int)≤(cc.length:Int)-1-k:=by omega
  have k2:(cc.length:Int)-1-k<cc.length:=by omega
  have k3:((cc.length:Int)-1-k)-1=(cc.length:Int)-1-((k+1:Nat):Int):=by omega
  rw [e1]
  generalize linkP (l.drop (l.length-k))=lk at *
  generalize l[l.length-(k+1)]=a at *
  clear hg hd e1
  rw [← k3]
  rw [← hlen] at hi ha
  have k4:k≤100000:=by omega
  have k5:cc.length≤100000:=by omega
  clear k3 hlt hzl hlen hl
  refine gg ?_
  refine call hz ?_
  refine gg ?_
  refine ⟨by rfl,?_⟩
  refine gg ?_
  refine ⟨hk,?_,?_,?_⟩
  ·simp [slotsLe,getS]
  ·simp [subO,getO]
  ·simp [subL,namesSl,V.names,namesL,namesOb,Ob.names,XX_given]
 ·obtain rfl:k=cc.length:=by omega
  have k1:¬ (0:Int)≤(cc.length:Int)-1-cc.length:=by omega
  have hd:l.drop (l.length-cc.length)=l:=by rw [hlen];simp
  rw [hd]
  have hvt:=vcells_one (linkP_one l)
  have hvo:(V.pv (linkP l)).one=true:=by rw [one_pv];exact linkP_one _
  generalize linkP l=lk at *
  clear hg hd
  rw [hlen] at *
  clear hlen
  refine gg ?_
  refine ex_loop 1 (ex_round ?_)
  refine fb 905 (ps:=[.int 2,.int 0,lk,.nil,.nil,.int 0,.nil,.int 0,.bool false]) ?_
  refine gg ?_
  exact enC26
theorem from_base {B:Nat} (hB:B≤100000) {r:Rs} {t:Ty} (h:RsT B r t) (hp:t = .nat∨t = .list∨t = .unit):AC Tryz.prog gl 66 [.pv (.agg (valW r))] [] (.ret (.pv (itP (itOf r)))) []:=by
 rcases hp with rfl | rfl | rfl
 ·cases h;exact from_num _
 ·cases h with
  | list h1 h2=>exact from_list _ (by omega)
 ·cases h;exact from_unit
theorem it_flat {B:Nat} {r:Rs} {t:Ty} (h:RsT B r t) (hp:t = .nat∨t = .list∨t = .unit):(itOf r).more=0∧(itOf r).func=false:=by
 rcases hp with rfl | rfl | rfl <;> cases h <;> exact ⟨rfl,rfl⟩
end Go.Proofs.YtodjpfpmhjdhbaaGreatDoor
/- run.Check, run.Returned and run.Call with one or two values. -/
namespace Go.Proofs.YtodjpfpmhjdhbaaGreatDoor
open Go.Lg
set_option maxRecDepth 10000
set_option maxHeartbeats 4000000
theorem from_two (a b:List PV) (x y:It) (hx:x.more=0∧x.func=false) (hy:y.more=0∧y.func=false) (sa:∃ k n s,a=[.int k,.int n,s,.nils]∧s.one=true) (sb:∃ k n s,b=[.int k,.int n,s,.nils]∧s.one=true)
  (h1:AC Tryz.prog gl 66 [.pv (.agg a)] [] (.ret (.pv (itP x))) []) (h2:AC Tryz.prog gl 66 [.pv (.agg b)] [] (.ret (.pv (itP y))) []) :
  AC Tryz.prog gl 66 [.pv (.agg [.int 3,.int 0,.slice [],.slice [a,b]])] [] (.ret (.pv (itP (.pair x y)))) []:=by
 obtain ⟨k5,n5,s5,rfl,o5⟩:=sa
 obtain ⟨k6,n6,s6,rfl,o6⟩:=sb
 have w5:=vcells_one o5
 have w6:=vcells_one o6
 have v5:=onC26 o5
 have v6:=onC26 o6
 rw [itP_eq x] at h1
 rw [itP_eq y] at h2
 simp only [itP]
 rw [itP_eq x,itP_eq y]
 simp only [hx.1,hx.2,hy.1,hy.2,Nat.add_zero,Bool.or_self,Int.cast_ofNat_Int] at *
 have a1:=vcells_one (list0_one x)
 have a2:=vcells_one (fst0_one x)
 have a3:=vcells_one (snd0_one x)
 have a4:=vcells_one (vars0_one x)
 have b1:=vcells_one (list0_one y)
 have b2:=vcells_one (fst0_one y)
 have b3:=vcells_one (snd0_one y)
 have b4:=vcells_one (vars0_one y)
 generalize x.list0=xl at *
 generalize x.fst0=xf at *
 generalize x.snd0=xs at *
 generalize x.vars0=xv at *
 generalize y.list0=yl at *
 generalize y.fst0=yf at *
 generalize y.snd0=ys at *
 generalize y.vars0=yv at *
 refine body [(12,.box 905)] Tryz.func66 Tryz.ntmps66 ?_
 refine gg ?_
 refine ex_loop 1 (ex_round ?_)
 refine gg ?_
 refine ex_loop 3 (ex_round ?_)
 refine gg ?_
 refine call h1 ?_
 refine gg ?_
 refine ⟨by rfl,?_⟩
 refine gg ?_
 refine ⟨by rfl,?_⟩
 refine gg ?_
 refine ex_round ?_
 refine kp [1,2,3,42,43,44] [905] ?_
 refine gg ?_
 refine call h2 ?_
 refine gg ?_
 refine ⟨by rfl,?_⟩
 refine gg ?_
 refine ⟨by rfl,?_⟩
 refine gg ?_
 refine ex_round ?_
 refine fb 905 (ps:=[.int 3,.int 0,.nil,.ptr [.int x.kind,.int x.num0,xl,xf,xs,.int x.at0,xv,.int 0,.bool false],.ptr [.int y.kind,.int y.num0,yl,yf,ys,.int y.at0,yv,.int 0,.bool false],.int 0,.nil,.int 2,.bool false]) ?_
 refine gg ?_
 exact enC26
theorem from_ok {B:Nat} (hB:B≤100000) {r:Rs} {t:Ty} (h:RsT B r t) (hp:t.plain):AC Tryz.prog gl 66 [.pv (.agg (valW r))] [] (.ret (.pv (itP (itOf r)))) []:=by
 rcases plain_cases hp with hb | ⟨s,hb,rfl⟩
 ·exact from_base hB h hb
 ·cases h with
  | @pair a b _ _ ha hb' =>
   have hb2:s = .nat∨s = .list∨s = .unit:=by rcases hb with rfl | rfl <;> simp
   exact from_two _ _ _ _ (it_flat ha (.inl rfl)) (it_flat hb' hb2) (valW_shape ha (.inl rfl)) (valW_shape hb' hb2) (from_base hB ha (.inl rfl)) (from_base hB hb' hb2)
end Go.Proofs.YtodjpfpmhjdhbaaGreatDoor
