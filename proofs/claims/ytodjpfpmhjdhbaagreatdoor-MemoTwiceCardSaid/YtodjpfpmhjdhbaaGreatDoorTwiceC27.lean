/- Contracts of functions; no conditions. -/
import Derived.Test.YtodjpfpmhjdhbaaGreatDoorTwiceC26
import Derived.Test.YtodjpfpmhjdhbaaGreatDoorTwiceC23
import Derived.Test.YtodjpfpmhjdhbaaGreatDoorTwiceC24
import Derived.Test.YtodjpfpmhjdhbaaGreatDoorTwiceC3
import Derived.Test.YtodjpfpmhjdhbaaGreatDoorTwiceA13
import Derived.Test.YtodjpfpmhjdhbaaGreatDoorTwiceC19
import Derived.Test.YtodjpfpmhjdhbaaGreatDoorTwiceC22
set_option linter.all false
theorem Go.Proofs.YtodjpfpmhjdhbaaGreatDoor.onC27 {s : Go.Lg.PV} (h : s.one = true) : (Go.Lg.V.pv s).one = true := by rw [Go.Lg.one_pv]; exact h
namespace Go.Proofs.YtodjpfpmhjdhbaaGreatDoor
open Go.Lg
theorem enC27 {P Q : Prop} (h : P := by simp [retIs,resV,resL,resOne,mkTup,getS,getO,rdV,mkAgg,unL,V.un,TI.isAgg,XX_T,tt27,Tryz.f118,Tryz.f86,Tryz.f87,Tryz.f47,tt30,Tryz.f31,tt41,Tryz.f98,Tryz.f99,Tryz.f64,tt84,Tryz.f59]) (k : Q := by simp [subO,getO,tt27,Tryz.f118,Tryz.f86,Tryz.f87,Tryz.f47,tt30,Tryz.f31,tt41,Tryz.f98,Tryz.f99,Tryz.f64,tt84,Tryz.f59]) : P ∧ Q := ⟨h,k⟩
end Go.Proofs.YtodjpfpmhjdhbaaGreatDoor
namespace Go.Proofs.YtodjpfpmhjdhbaaGreatDoor
open Go.Lg
set_option maxRecDepth 10000
set_option maxHeartbeats 4000000
def InE (g:List Ty) (t:Tm):Prop:=AC Tryz.prog gl 118 [.pv (.slice (g.map Ty.cells)),.pv (.agg t.cells)] [] (.ret (.pv (.tuple [.agg [.int 0,.slice []],.int 4]))) []
theorem ierr_0_1 (g:List Ty) (t a:Tm) (hk1:¬ t.kind=1) (hk2:¬ t.kind=2) (hta:t.args=[a]) (h0:InE g a):InE g t:=by
 have hc:=t.cells_eq
 rw [hta] at hc
 simp only [InE,InC] at *
 rw [hc]
 simp only [List.map_cons,List.map_nil]
 rw [Tm.cells_eq a]
 rw [Tm.cells_eq a] at h0
 clear hc hta
 generalize g.map Ty.cells=gs at *
 generalize a.ty.args.map Ty.cells=ta at *
 generalize a.args.map Tm.cells=sa at *
 generalize t.ty.args.map Ty.cells=tta at *
 generalize t.kind=tk at *
 generalize t.idx=ti at *
 generalize t.ty.kind=tyk at *
 refine body [(8,.arr 973 2 27)] Tryz.func118 Tryz.ntmps118 ?_
 refine gg ?_
 refine ex_loop 1 (ex_round ?_)
 refine gg ?_
 refine call h0 ?_
 refine gg ?_
 exact enC27
theorem ierr_0_2 (g:List Ty) (t a b:Tm) (hk1:¬ t.kind=1) (hk2:¬ t.kind=2) (hta:t.args=[a,b]) (h0:InE g a):InE g t:=by
 have hc:=t.cells_eq
 rw [hta] at hc
 simp only [InE,InC] at *
 rw [hc]
 simp only [List.map_cons,List.map_nil]
 rw [Tm.cells_eq a,Tm.cells_eq b]
 rw [Tm.cells_eq a] at h0
 clear hc hta
 generalize g.map Ty.cells=gs at *
 generalize a.ty.args.map Ty.cells=ta at *
 generalize a.args.map Tm.cells=sa at *
 generalize b.ty.args.map Ty.cells=tb at *
 generalize b.args.map Tm.cells=sb at *
 generalize t.ty.args.map Ty.cells=tta at *
 generalize t.kind=tk at *
 generalize t.idx=ti at *
 generalize t.ty.kind=tyk at *
 refine body [(8,.arr 973 2 27)] Tryz.func118 Tryz.ntmps118 ?_
 refine gg ?_
 refine ex_loop 1 (ex_round ?_)
 refine gg ?_
 refine call h0 ?_
 refine gg ?_
 exact enC27
theorem ierr_1_2 (g:List Ty) (t a b:Tm) (r0:Ty) (hk1:¬ t.kind=1) (hk2:¬ t.kind=2) (hta:t.args=[a,b]) (h0:InC g a r0) (h1:InE g b):InE g t:=by
 have hc:=t.cells_eq
 rw [hta] at hc
 simp only [InE,InC] at *
 rw [hc]
 simp only [List.map_cons,List.map_nil]
 rw [Tm.cells_eq a,Tm.cells_eq b]
 rw [Tm.cells_eq a] at h0
 rw [Tm.cells_eq b] at h1
 rw [Ty.cells_eq r0] at h0
 generalize r0.args.map Ty.cells=q0 at *
 clear hc hta
 generalize g.map Ty.cells=gs at *
 generalize a.ty.args.map Ty.cells=ta at *
 generalize a.args.map Tm.cells=sa at *
 generalize b.ty.args.map Ty.cells=tb at *
 generalize b.args.map Tm.cells=sb at *
 generalize t.ty.args.map Ty.cells=tta at *
 generalize t.kind=tk at *
 generalize t.idx=ti at *
 generalize t.ty.kind=tyk at *
 refine body [(8,.arr 973 2 27)] Tryz.func118 Tryz.ntmps118 ?_
 refine gg ?_
 refine ex_loop 2 (ex_round ?_)
 refine gg ?_
 refine call h0 ?_
 refine gg ?_
 refine ex_round ?_
 refine kp [0,3,4,5,8,67,68,69] [4,973] ?_
 refine gg ?_
 refine call h1 ?_
 refine gg ?_
 exact enC27
theorem ierr_0_3 (g:List Ty) (t a b d:Tm) (hk1:¬ t.kind=1) (hk2:¬ t.kind=2) (hta:t.args=[a,b,d]) (h0:InE g a):InE g t:=by
 have hc:=t.cells_eq
 rw [hta] at hc
 simp only [InE,InC] at *
 rw [hc]
 simp only [List.map_cons,List.map_nil]
 rw [Tm.cells_eq a,Tm.cells_eq b,Tm.cells_eq d]
 rw [Tm.cells_eq a] at h0
 clear hc hta
 generalize g.map Ty.cells=gs at *
 generalize a.ty.args.map Ty.cells=ta at *
 generalize a.args.map Tm.cells=sa at *
 generalize b.ty.args.map Ty.cells=tb at *
 generalize b.args.map Tm.cells=sb at *
 generalize d.ty.args.map Ty.cells=td at *
 generalize d.args.map Tm.cells=sd at *
 generalize t.ty.args.map Ty.cells=tta at *
 generalize t.kind=tk at *
 generalize t.idx=ti at *
 generalize t.ty.kind=tyk at *
 refine body [(8,.arr 973 2 27)] Tryz.func118 Tryz.ntmps118 ?_
 refine gg ?_
 refine ex_loop 1 (ex_round ?_)
 refine gg ?_
 refine call h0 ?_
 refine gg ?_
 exact enC27
theorem ierr_1_3 (g:List Ty) (t a b d:Tm) (r0:Ty) (hk1:¬ t.kind=1) (hk2:¬ t.kind=2) (hta:t.args=[a,b,d]) (h0:InC g a r0) (h1:InE g b):InE g t:=by
 have hc:=t.cells_eq
 rw [hta] at hc
 simp only [InE,InC] at *
 rw [hc]
 simp only [List.map_cons,List.map_nil]
 rw [Tm.cells_eq a,Tm.cells_eq b,Tm.cells_eq d]
 rw [Tm.cells_eq a] at h0
 rw [Tm.cells_eq b] at h1
 rw [Ty.cells_eq r0] at h0
 generalize r0.args.map Ty.cells=q0 at *
 clear hc hta
 generalize g.map Ty.cells=gs at *
 generalize a.ty.args.map Ty.cells=ta at *
 generalize a.args.map Tm.cells=sa at *
 generalize b.ty.args.map Ty.cells=tb at *
 generalize b.args.map Tm.cells=sb at *
 generalize d.ty.args.map Ty.cells=td at *
 generalize d.args.map Tm.cells=sd at *
 generalize t.ty.args.map Ty.cells=tta at *
 generalize t.kind=tk at *
 generalize t.idx=ti at *
 generalize t.ty.kind=tyk at *
 refine body [(8,.arr 973 2 27)] Tryz.func118 Tryz.ntmps118 ?_
 refine gg ?_
 refine ex_loop 2 (ex_round ?_)
 refine gg ?_
 refine call h0 ?_
 refine gg ?_
 refine ex_round ?_
 refine kp [0,3,4,5,8,67,68,69] [4,973] ?_
 refine gg ?_
 refine call h1 ?_
 refine gg ?_
 exact enC27
theorem ierr_2_3 (g:List Ty) (t a b d:Tm) (r0 r1:Ty) (hk1:¬ t.kind=1) (hk2:¬ t.kind=2) (hta:t.args=[a,b,d]) (h0:InC g a r0) (h1:InC g b r1) (h2:InE g d):InE g t:=by
 have hc:=t.cells_eq
 rw [hta] at hc
 simp only [InE,InC] at *
 rw [hc]
 simp only [List.map_cons,List.map_nil]
 rw [Tm.cells_eq a,Tm.cells_eq b,Tm.cells_eq d]
 rw [Tm.cells_eq a] at h0
 rw [Tm.cells_eq b] at h1
 rw [Tm.cells_eq d] at h2
 rw [Ty.cells_eq r0] at h0
 generalize r0.args.map Ty.cells=q0 at *
 rw [Ty.cells_eq r1] at h1
 generalize r1.args.map Ty.cells=q1 at *
 clear hc hta
 generalize g.map Ty.cells=gs at *
 generalize a.ty.args.map Ty.cells=ta at *
 generalize a.args.map Tm.cells=sa at *
 generalize b.ty.args.map Ty.cells=tb at *
 generalize b.args.map Tm.cells=sb at *
 generalize d.ty.args.map Ty.cells=td at *
 generalize d.args.map Tm.cells=sd at *
 generalize t.ty.args.map Ty.cells=tta at *
 generalize t.kind=tk at *
 generalize t.idx=ti at *
 generalize t.ty.kind=tyk at *
 refine body [(8,.arr 973 2 27)] Tryz.func118 Tryz.ntmps118 ?_
 refine gg ?_
 refine ex_loop 3 (ex_round ?_)
 refine gg ?_
 refine call h0 ?_
 refine gg ?_
 refine ex_round ?_
 refine kp [0,3,4,5,8,67,68,69] [4,973] ?_
 refine gg ?_
 refine call h1 ?_
 refine gg ?_
 refine ex_round ?_
 refine kp [0,3,4,5,8,67,68,69] [4,973] ?_
 refine gg ?_
 refine call h2 ?_
 refine gg ?_
 exact enC27
theorem ipair_big (g:List Ty) (a b:Tm) (s t:Ty) (ha:InC g a s) (hb:InC g b t) (ho:(Ty.pair s t).ok=true) (hz:64<(Ty.pair s t).size) (hy:(Ty.pair s t).size≤1000):InE g (.pair a b):=by
 have h1:=nat_ok
 have h2:=list_ok
 have h3:=two_ok s t
 have h4:=tok_big (.pair s t) ho hz hy
 have ec:(Tm.pair a b).cells=[.int 10,.int 0,.int 0,.slice [],.slice [a.cells,b.cells]]:=by rw [Tm.cells_eq];rfl
 unfold InC at *
 unfold InE
 rw [ec]
 rw [Tm.cells_eq a,Tm.cells_eq b]
 rw [Tm.cells_eq a] at ha
 rw [Tm.cells_eq b] at hb
 simp only [Ty.cells] at *
 rw [Ty.cells_eq s,Ty.cells_eq t] at h3 h4
 rw [Ty.cells_eq s] at ha
 rw [Ty.cells_eq t] at hb
 clear ec
 generalize s.args.map Ty.cells=ss at *
 generalize t.args.map Ty.cells=tq at *
 generalize a.ty.args.map Ty.cells=ta at *
 generalize a.args.map Tm.cells=sa at *
 generalize b.ty.args.map Ty.cells=tb at *
 generalize b.args.map Tm.cells=sb at *
 generalize g.map Ty.cells=gs at *
 refine body [(8,.arr 973 2 27)] Tryz.func118 Tryz.ntmps118 ?_
 refine gg ?_
 refine ex_loop 3 (ex_round ?_)
 refine gg ?_
 refine call ha ?_
 refine gg ?_
 refine ex_round ?_
 refine kp [0,3,4,5,8,67,68,69] [4,973] ?_
 refine gg ?_
 refine call hb ?_
 refine gg ?_
 refine ex_round ?_
 refine kp [0,3,4,5,8,67,68,69] [4,973] ?_
 refine gg ?_
 refine call h1 ?_
 refine gg ?_
 refine call h2 ?_
 refine gg ?_
 refine call h3 ?_
 refine gg ?_
 refine call h4 ?_
 refine gg ?_
 refine⟨by rfl,?_⟩
 refine gg ?_
 exact enC27
theorem ilam_big (g:List Ty) (s:Ty) (b:Tm) (t:Ty) (hb:InC (g++[s]) b t) (ho:(Ty.fn s t).ok=true) (hz:64<(Ty.fn s t).size) (hy:(Ty.fn s t).size≤1000) (hl:g.length≤5000):InE g (.lam s b):=by
 have h3:=fun_ok s t
 have h4:=tok_big (.fn s t) ho hz hy
 have ec:(Tm.lam s b).cells=[.int 2,.int 0,.int s.kind,.slice (s.args.map Ty.cells),.slice [b.cells]]:=by rw [Tm.cells_eq];rfl
 have hle:(g.map Ty.cells).length=g.length:=by simp
 have hal:∀ y∈g.map Ty.cells,y.length=2:=by
  intro y hy
  obtain⟨s,_,rfl⟩:=List.mem_map.1 hy
  rw [Ty.cells_eq];rfl
 unfold InC at *
 unfold InE
 rw [ec]
 rw [Tm.cells_eq b] at *
 simp only [Ty.cells,List.map_append,List.map_cons,List.map_nil] at *
 rw [Ty.cells_eq s] at hb
 rw [Ty.cells_eq s,Ty.cells_eq t] at h3 h4
 rw [Ty.cells_eq t] at hb
 clear ec
 generalize s.args.map Ty.cells=ss at *
 generalize t.args.map Ty.cells=ts at *
 generalize b.ty.args.map Ty.cells=tb at *
 generalize b.args.map Tm.cells=sb at *
 generalize g.map Ty.cells=gs at *
 refine body [(8,.arr 973 2 27)] Tryz.func118 Tryz.ntmps118 ?_
 refine gg ?_
 refine go ?_ (hc:=by simp only [buildC,and_true,true_and,implies_true,true_implies,and_self];exact⟨hal,by unfold maxLen;omega,by omega⟩)
 refine gg ?_
 refine call hb ?_
 refine gg ?_
 refine⟨by rfl,?_⟩
 refine gg ?_
 refine call h3 ?_
 refine gg ?_
 refine call h4 ?_
 refine gg ?_
 exact enC27
theorem ilam_err (g:List Ty) (s:Ty) (b:Tm) (hb:InE (g++[s]) b) (hl:g.length≤5000):InE g (.lam s b):=by
 have ec:(Tm.lam s b).cells=[.int 2,.int 0,.int s.kind,.slice (s.args.map Ty.cells),.slice [b.cells]]:=by rw [Tm.cells_eq];rfl
 have hle:(g.map Ty.cells).length=g.length:=by simp
 have hal:∀ y∈g.map Ty.cells,y.length=2:=by
  intro y hy
  obtain⟨s,_,rfl⟩:=List.mem_map.1 hy
  rw [Ty.cells_eq];rfl
 unfold InE at *
 rw [ec]
 rw [Tm.cells_eq b] at *
 simp only [List.map_append,List.map_cons,List.map_nil] at *
 rw [Ty.cells_eq s] at hb
 clear ec
 generalize s.args.map Ty.cells=ss at *
 generalize b.ty.args.map Ty.cells=tb at *
 generalize b.args.map Tm.cells=sb at *
 generalize g.map Ty.cells=gs at *
 refine body [(8,.arr 973 2 27)] Tryz.func118 Tryz.ntmps118 ?_
 refine gg ?_
 refine go ?_ (hc:=by simp only [buildC,and_true,true_and,implies_true,true_implies,and_self];exact⟨hal,by unfold maxLen;omega,by omega⟩)
 refine gg ?_
 refine call hb ?_
 refine gg ?_
 refine⟨by rfl,?_⟩
 refine gg ?_
 exact enC27
theorem good_parts {t:Ty} (h:t.good=true):t.ok=true∧t.size≤64:=by
 unfold Ty.good at h
 simpa using h
theorem good_of {t:Ty} (h1:t.ok=true) (h2:t.size≤64):t.good=true:=by
 unfold Ty.good
 simp [h1,h2]
theorem good_fn {s t:Ty} (h:(Ty.fn s t).good=true):s.good=true∧t.good=true:=by
 obtain⟨h1,h2⟩:=good_parts h
 simp only [Ty.ok,Ty.size,Bool.and_eq_true] at h1 h2
 exact⟨good_of h1.1 (by omega),good_of h1.2 (by omega)⟩
theorem good_pair {s t:Ty} (h:(Ty.pair s t).good=true):s.good=true∧t.good=true:=by
 obtain⟨h1,h2⟩:=good_parts h
 simp only [Ty.ok,Ty.size,Bool.and_eq_true] at h1 h2
 exact⟨good_of h1.1 (by omega),good_of h1.2 (by omega)⟩
theorem infer_all {g:List Ty} {t:Tm} {τ:Ty} (h:HasTy g t τ):t.wf=true→(∀ s∈g,s.good=true)→g.length+t.size≤5000→(InC g t τ∧τ.good=true)∨InE g t:=by
 induction h with
 | @var g i t hi =>
  intro hw hg hl
  exact .inl ⟨inf_var g i t hi (by omega),hg _ (by simpa using List.mem_of_getElem? hi)⟩
 | @lam g s b t hb ih =>
  intro hw hg hl
  simp only [Tm.wf,Bool.and_eq_true] at hw
  simp only [Tm.size] at hl
  rcases ih hw.2 (by intro x hx;rcases List.mem_append.1 hx with h|h;exact hg x h;simp at h;subst h;exact hw.1) (by simp;omega) with ⟨h1,h2⟩|h1
  ·obtain⟨a1,a2⟩:=good_parts hw.1
   obtain⟨b1,b2⟩:=good_parts h2
   have ho:(Ty.fn s t).ok=true:=by simp [Ty.ok,a1,b1]
   by_cases hz:(Ty.fn s t).size≤64
   ·exact .inl ⟨inf_lam g s b t h1 ho hz (by omega),good_of ho hz⟩
   ·exact .inr (ilam_big g s b t h1 ho (by omega) (by simp only [Ty.size];omega) (by omega))
  ·exact .inr (ilam_err g s b h1 (by omega))
 | @app g f a s t hf ha i1 i2 =>
  intro hw hg hl
  simp only [Tm.wf,Bool.and_eq_true] at hw
  simp only [Tm.size] at hl
  rcases i1 hw.1 hg (by omega) with ⟨h1,h2⟩|h1
  ·rcases i2 hw.2 hg (by omega) with ⟨h3,h4⟩|h3
   ·exact .inl ⟨inf_app g f a s t h1 h3,(good_fn h2).2⟩
   ·exact .inr (ierr_1_2 g (.app f a) f a _ (by simp [Tm.kind]) (by simp [Tm.kind]) rfl h1 h3)
  ·exact .inr (ierr_0_2 g (.app f a) f a (by simp [Tm.kind]) (by simp [Tm.kind]) rfl h1)
 | @zero g=>intro _ _ _;exact .inl ⟨inf_zero g,rfl⟩
 | @succ g a ha ih =>
  intro hw hg hl
  simp only [Tm.wf] at hw
  simp only [Tm.size] at hl
  rcases ih hw hg (by omega) with ⟨h1,h2⟩|h1
  ·exact .inl ⟨inf_succ g a h1,rfl⟩
  ·exact .inr (ierr_0_1 g (.succ a) a (by simp [Tm.kind]) (by simp [Tm.kind]) rfl h1)
 | @recn g t a b c ha hb hc i1 i2 i3 =>
  intro hw hg hl
  simp only [Tm.wf,Bool.and_eq_true] at hw
  simp only [Tm.size] at hl
  rcases i1 hw.2.1 hg (by omega) with ⟨h1,h2⟩|h1
  ·rcases i2 hw.2.2.1 hg (by omega) with ⟨h3,h4⟩|h3
   ·rcases i3 hw.2.2.2 hg (by omega) with ⟨h5,h6⟩|h5
    ·exact .inl ⟨inf_recn g t a b c h1 h3 h5,hw.1⟩
    ·exact .inr (ierr_2_3 g (.recn t a b c) a b c _ _ (by simp [Tm.kind]) (by simp [Tm.kind]) rfl h1 h3 h5)
   ·exact .inr (ierr_1_3 g (.recn t a b c) a b c _ (by simp [Tm.kind]) (by simp [Tm.kind]) rfl h1 h3)
  ·exact .inr (ierr_0_3 g (.recn t a b c) a b c (by simp [Tm.kind]) (by simp [Tm.kind]) rfl h1)
 | @nil g=>intro _ _ _;exact .inl ⟨inf_nil g,rfl⟩
 | @cons g a b ha hb i1 i2 =>
  intro hw hg hl
  simp only [Tm.wf,Bool.and_eq_true] at hw
  simp only [Tm.size] at hl
  rcases i1 hw.1 hg (by omega) with ⟨h1,h2⟩|h1
  ·rcases i2 hw.2 hg (by omega) with ⟨h3,h4⟩|h3
   ·exact .inl ⟨inf_cons g a b h1 h3,rfl⟩
   ·exact .inr (ierr_1_2 g (.cons a b) a b _ (by simp [Tm.kind]) (by simp [Tm.kind]) rfl h1 h3)
  ·exact .inr (ierr_0_2 g (.cons a b) a b (by simp [Tm.kind]) (by simp [Tm.kind]) rfl h1)
 | @fold g t a b c ha hb hc i1 i2 i3 =>
  intro hw hg hl
  simp only [Tm.wf,Bool.and_eq_true] at hw
  simp only [Tm.size] at hl
  rcases i1 hw.2.1 hg (by omega) with ⟨h1,h2⟩|h1
  ·rcases i2 hw.2.2.1 hg (by omega) with ⟨h3,h4⟩|h3
   ·rcases i3 hw.2.2.2 hg (by omega) with ⟨h5,h6⟩|h5
    ·exact .inl ⟨inf_fold g t a b c h1 h3 h5,hw.1⟩
    ·exact .inr (ierr_2_3 g (.fold t a b c) a b c _ _ (by simp [Tm.kind]) (by simp [Tm.kind]) rfl h1 h3 h5)
   ·exact .inr (ierr_1_3 g (.fold t a b c) a b c _ (by simp [Tm.kind]) (by simp [Tm.kind]) rfl h1 h3)
  ·exact .inr (ierr_0_3 g (.fold t a b c) a b c (by simp [Tm.kind]) (by simp [Tm.kind]) rfl h1)
 | @pair g a b s t ha hb i1 i2 =>
  intro hw hg hl
  simp only [Tm.wf,Bool.and_eq_true] at hw
  simp only [Tm.size] at hl
  rcases i1 hw.1 hg (by omega) with ⟨h1,h2⟩|h1
  ·rcases i2 hw.2 hg (by omega) with ⟨h3,h4⟩|h3
   ·obtain⟨a1,a2⟩:=good_parts h2
    obtain⟨b1,b2⟩:=good_parts h4
    have ho:(Ty.pair s t).ok=true:=by simp [Ty.ok,a1,b1]
    by_cases hz:(Ty.pair s t).size≤64
    ·exact .inl ⟨inf_pair g a b s t h1 h3 ho hz,good_of ho hz⟩
    ·exact .inr (ipair_big g a b s t h1 h3 ho (by omega) (by simp only [Ty.size];omega))
   ·exact .inr (ierr_1_2 g (.pair a b) a b _ (by simp [Tm.kind]) (by simp [Tm.kind]) rfl h1 h3)
  ·exact .inr (ierr_0_2 g (.pair a b) a b (by simp [Tm.kind]) (by simp [Tm.kind]) rfl h1)
 | @fst g a s t ha ih =>
  intro hw hg hl
  simp only [Tm.wf] at hw
  simp only [Tm.size] at hl
  rcases ih hw hg (by omega) with ⟨h1,h2⟩|h1
  ·exact .inl ⟨inf_fst g a s t h1,(good_pair h2).1⟩
  ·exact .inr (ierr_0_1 g (.fst a) a (by simp [Tm.kind]) (by simp [Tm.kind]) rfl h1)
 | @snd g a s t ha ih =>
  intro hw hg hl
  simp only [Tm.wf] at hw
  simp only [Tm.size] at hl
  rcases ih hw hg (by omega) with ⟨h1,h2⟩|h1
  ·exact .inl ⟨inf_snd g a s t h1,(good_pair h2).2⟩
  ·exact .inr (ierr_0_1 g (.snd a) a (by simp [Tm.kind]) (by simp [Tm.kind]) rfl h1)
 | @unit g=>intro _ _ _;exact .inl ⟨inf_unit g,rfl⟩
open Go.Lg
set_option maxRecDepth 10000
set_option maxHeartbeats 4000000
theorem context_ok:AC Tryz.prog gl 86 [.pv (.slice [])] [] (.ret (.pv (.int 0))) []:=by
 refine body [] Tryz.func86 Tryz.ntmps86 ?_
 refine gg ?_
 refine ex_loop 1 (ex_round ?_)
 refine gg ?_
 exact enC27
theorem typed_of (t:Tm) (hw:t.wf=true) (hz:t.size≤4096) (a:List PV) (e:Int) (sa:∃ k s,a=[.int k,.slice s]) (h:AC Tryz.prog gl 118 [.pv (.slice []),.pv (.agg t.cells)] [] (.ret (.pv (.tuple [.agg a,.int e]))) []) :
  AC Tryz.prog gl 87 [.pv (.slice []),.pv (.agg t.cells)] [] (.ret (.pv (.tuple [.agg a,.int e]))) []:=by
 obtain⟨k,s,rfl⟩:=sa
 have h1:=tcheck_ok t hw (by omega)
 rw [if_pos hz] at h1
 rw [Tm.cells_eq] at *
 generalize t.ty.args.map Ty.cells=ta at *
 generalize t.args.map Tm.cells=tas at *
 refine body [] Tryz.func87 Tryz.ntmps87 ?_
 refine gg ?_
 refine call h1 ?_
 refine gg ?_
 refine call h ?_
 refine gg ?_
 exact enC27
theorem typeof_of (t:Tm) (hw:t.wf=true) (hz:t.size≤4096) (a:List PV) (e:Int) (sa:∃ k s,a=[.int k,.slice s]) (h:AC Tryz.prog gl 118 [.pv (.slice []),.pv (.agg t.cells)] [] (.ret (.pv (.tuple [.agg a,.int e]))) []) :
  AC Tryz.prog gl 47 [.pv (.slice []),.pv (.agg t.cells)] [] (.ret (.pv (.tuple [.agg a,.int e]))) []:=by
 have h2:=typed_of t hw hz a e sa h
 have h1:=context_ok
 obtain⟨k,s,rfl⟩:=sa
 rw [Tm.cells_eq] at *
 generalize t.ty.args.map Ty.cells=ta at *
 generalize t.args.map Tm.cells=tas at *
 refine body [] Tryz.func47 Tryz.ntmps47 ?_
 refine gg ?_
 refine call h1 ?_
 refine gg ?_
 refine call h2 ?_
 refine gg ?_
 exact enC27
theorem typeof_all {t:Tm} {τ:Ty} (h:HasTy [] t τ) (hw:t.wf=true) (hz:t.size≤4096) :
  AC Tryz.prog gl 47 [.pv (.slice []),.pv (.agg t.cells)] [] (.ret (.pv (.tuple [.agg τ.cells,.int 0]))) []∨AC Tryz.prog gl 47 [.pv (.slice []),.pv (.agg t.cells)] [] (.ret (.pv (.tuple [.agg [.int 0,.slice []],.int 4]))) []:=by
 rcases infer_all h hw (by simp) (by simp;omega) with ⟨h1,_⟩|h1
 ·exact .inl (typeof_of t hw hz _ _ ⟨_,_,τ.cells_eq⟩ h1)
 ·exact .inr (typeof_of t hw hz _ _ ⟨_,_,rfl⟩ h1)
end Go.Proofs.YtodjpfpmhjdhbaaGreatDoor
namespace Go.Proofs.YtodjpfpmhjdhbaaGreatDoor
open Go.Lg
set_option maxRecDepth 10000
set_option maxHeartbeats 4000000
theorem lam24_ok (s:Ty) (b:Tm):AC Tryz.prog gl 31 [.pv (.agg s.cells),.pv (.agg b.cells)] [] (.ret (.pv (.agg (Tm.lam s b).cells))) []:=by
 rw [Tm.cells_eq (.lam s b)]
 simp only [Tm.kind,Tm.idx,Tm.ty,Tm.args,List.map_cons,List.map_nil]
 rw [Tm.cells_eq b,Ty.cells_eq s]
 generalize s.args.map Ty.cells=sa at *
 generalize b.ty.args.map Ty.cells=ta at *
 generalize b.args.map Tm.cells=ba at *
 refine body [] Tryz.func31 Tryz.ntmps31 ?_
 refine gg ?_
 exact enC27
theorem plain_good {t:Ty} (h:t.plain):t.good=true:=by
 rcases plain_cases h with h1|⟨s,h1,rfl⟩
 ·clear h
  rcases h1 with rfl|rfl|rfl<;>rfl
 ·clear h
  rcases h1 with rfl|rfl<;>rfl
theorem shp_num (n:Nat):AC Tryz.prog gl 98 [.pv (.agg (valW (.num n)))] [] (.ret (.pv (.bool true))) []:=by
 have h:(0:Int)≤n:=by omega
 simp only [valW]
 refine body [] Tryz.func98 Tryz.ntmps98 ?_
 refine gg ?_
 exact enC27
theorem shp_unit:AC Tryz.prog gl 98 [.pv (.agg (valW .unit))] [] (.ret (.pv (.bool true))) []:=by
 simp only [valW]
 refine body [] Tryz.func98 Tryz.ntmps98 ?_
 refine gg ?_
 exact enC27
noncomputable def shI (cc:List (List PV)) (k:Nat):St:=⟨[(1,.pv (.ptr [.int 2,.int 0,.slice cc,.nils])),(2,.pv (.bool false)),(27,.pv (.slice cc)),(28,.pv (.int cc.length)),(29,.pv (.int k))],[],[]⟩
theorem shp_list (l:List Nat) (hl:l.length≤100000):AC Tryz.prog gl 98 [.pv (.agg (valW (.list l)))] [] (.ret (.pv (.bool true))) []:=by
 have hal:=numsR_all l
 have hlen:(numsR l).length=l.length:=by simp [numsR]
 have hg:∀ k,k<l.length→∃ a:Nat,(numsR l).getD k []=[.int a]:=by
  intro k hk
  refine⟨l[k],?_⟩
  simp [numsR,List.getD,hk]
 simp only [valW]
 generalize numsR l=cc at *
 rw [← hlen] at hg hl
 clear hlen
 refine body [] Tryz.func98 Tryz.ntmps98 ?_
 refine gg ?_
 refine AWP.loopN cc.length (shI cc) ?_ ?_
 ·refine⟨by simp [shI,slotsLe,getS],by simp [shI,subO,getO],by simp [shI,subL,namesSl,V.names,namesL,namesOb,Ob.names,XX_given]⟩
 intro k hkn
 unfold shI
 by_cases hk:k<cc.length
 ·obtain⟨a,ha⟩:=hg k hk
  have k1:(k:Int)<cc.length:=by omega
  have k2:(0:Int)≤(k:Int):=by omega
  have k3:¬ (a:Int)<0:=by omega
  clear hg
  refine gg ?_
  refine⟨hk,?_,?_,?_⟩
  ·simp [slotsLe,getS]
  ·simp [subO,getO]
  ·simp [subL,namesSl,V.names,namesL,namesOb,Ob.names,XX_given]
 ·have k1:¬ (k:Int)<cc.length:=by omega
  clear hg
  refine gg ?_
  exact enC27
theorem shp_base {B:Nat} (hB:B≤100000) {r:Rs} {t:Ty} (h:RsT B r t) (hp:t = .nat∨t = .list∨t = .unit):AC Tryz.prog gl 98 [.pv (.agg (valW r))] [] (.ret (.pv (.bool true))) []:=by
 rcases hp with rfl|rfl|rfl
 ·cases h;exact shp_num _
 ·cases h with
  | list h1 h2=>exact shp_list _ (by omega)
 ·cases h;exact shp_unit
theorem shp_pair {B:Nat} (hB:B≤100000) {a b:Rs} {s t:Ty} (ha:RsT B a s) (hb:RsT B b t) (hs:s = .nat∨s = .list∨s = .unit) (ht:t = .nat∨t = .list∨t = .unit) :
  AC Tryz.prog gl 98 [.pv (.agg (valW (.pair a b)))] [] (.ret (.pv (.bool true))) []:=by
 have h1:=shp_base hB ha hs
 have h2:=shp_base hB hb ht
 obtain⟨k5,n5,s5,e5,o5⟩:=valW_shape ha hs
 obtain⟨k6,n6,s6,e6,o6⟩:=valW_shape hb ht
 have w5:=vcells_one o5
 have w6:=vcells_one o6
 have v5:=onC27 o5
 have v6:=onC27 o6
 simp only [valW,e5,e6] at h1 h2 ⊢
 clear e5 e6
 refine body [] Tryz.func98 Tryz.ntmps98 ?_
 refine gg ?_
 refine call h1 ?_
 refine gg ?_
 refine call h2 ?_
 refine gg ?_
 exact enC27
theorem nds_base {B:Nat} {r:Rs} {t:Ty} (h:RsT B r t) (hp:t = .nat∨t = .list∨t = .unit):AC Tryz.prog gl 99 [.pv (.agg (valW r))] [] (.ret (.pv (.int 1))) []:=by
 obtain⟨k5,n5,s5,e5,o5⟩:=valW_shape h hp
 have w5:=vcells_one o5
 have v5:=onC27 o5
 rw [e5]
 clear e5
 refine body [] Tryz.func99 Tryz.ntmps99 ?_
 refine gg ?_
 refine ex_loop 1 (ex_round ?_)
 refine gg ?_
 exact enC27
theorem nds_pair {B:Nat} {a b:Rs} {s t:Ty} (ha:RsT B a s) (hb:RsT B b t) (hs:s = .nat∨s = .list∨s = .unit) (ht:t = .nat∨t = .list∨t = .unit) :
  AC Tryz.prog gl 99 [.pv (.agg (valW (.pair a b)))] [] (.ret (.pv (.int 3))) []:=by
 have h1:=nds_base ha hs
 have h2:=nds_base hb ht
 obtain⟨k5,n5,s5,e5,o5⟩:=valW_shape ha hs
 obtain⟨k6,n6,s6,e6,o6⟩:=valW_shape hb ht
 have w5:=vcells_one o5
 have w6:=vcells_one o6
 have v5:=onC27 o5
 have v6:=onC27 o6
 simp only [valW,e5,e6] at h1 h2 ⊢
 clear e5 e6
 refine body [] Tryz.func99 Tryz.ntmps99 ?_
 refine gg ?_
 refine ex_loop 3 (ex_round ?_)
 refine gg ?_
 refine call h1 ?_
 refine gg ?_
 refine ex_round ?_
 refine kp [1,2,3,7,8,9] [] ?_
 refine gg ?_
 refine call h2 ?_
 refine gg ?_
 refine ex_round ?_
 refine gg ?_
 exact enC27
theorem chk_of (v:List PV) (n:Nat) (hn:n≤64) (sv:∃ k m s q,v=[.int k,.int m,s,q]∧s.one=true∧q.one=true) (hs:AC Tryz.prog gl 98 [.pv (.agg v)] [] (.ret (.pv (.bool true))) []) (h:AC Tryz.prog gl 99 [.pv (.agg v)] [] (.ret (.pv (.int n))) []):AC Tryz.prog gl 64 [.pv (.agg v)] [] (.ret (.pv (.int 0))) []:=by
 obtain⟨k,m,s,q,rfl,o1,o2⟩:=sv
 have hn':¬ (64:Int)<n:=by omega
 have w1:=vcells_one o1
 have w2:=vcells_one o2
 have v1:=onC27 o1
 have v2:=onC27 o2
 refine body [] Tryz.func64 Tryz.ntmps64 ?_
 refine gg ?_
 refine call hs ?_
 refine gg ?_
 refine call h ?_
 refine gg ?_
 exact enC27
theorem valW_shape2 {B:Nat} {r:Rs} {t:Ty} (h:RsT B r t) (hp:t.plain):∃ k m s q,valW r=[.int k,.int m,s,q]∧s.one=true∧q.one=true:=by
 rcases plain_cases hp with hb|⟨s,hb,rfl⟩
 ·obtain⟨k,n,s,e,o⟩:=valW_shape h hb
  exact⟨k,n,s,.nils,e,o,rfl⟩
 ·cases h with
  | pair ha hb'=>exact⟨_,_,_,_,rfl,rfl,rfl⟩
theorem chk_ok {B:Nat} (hB:B≤100000) {r:Rs} {t:Ty} (h:RsT B r t) (hp:t.plain):AC Tryz.prog gl 64 [.pv (.agg (valW r))] [] (.ret (.pv (.int 0))) []:=by
 rcases plain_cases hp with hb|⟨s,hb,rfl⟩
 ·exact chk_of _ 1 (by omega) (valW_shape2 h hp) (shp_base hB h hb) (nds_base h hb)
 ·have hb2:s = .nat∨s = .list∨s = .unit:=by rcases hb with rfl|rfl<;>simp
  have hsh:=valW_shape2 h hp
  cases h with
  | pair ha hb'=>exact chk_of _ 3 (by omega) hsh (shp_pair hB ha hb' (.inl rfl) hb2) (nds_pair ha hb' (.inl rfl) hb2)
open Go.Lg
set_option maxRecDepth 10000
set_option maxHeartbeats 4000000
def itOf:Rs→It
 | .num n => .num n
 | .list l => .list l
 | .unit => .unit
 | .pair a b => .pair (itOf a) (itOf b)
 | .clo _ _ => .unit
end Go.Proofs.YtodjpfpmhjdhbaaGreatDoor
namespace Go.Proofs.YtodjpfpmhjdhbaaGreatDoor
open Go.Lg
set_option maxRecDepth 10000
set_option maxHeartbeats 4000000
theorem vc_bfn (f:Nat) (l:List V):vcells (.bfn f l)=some [.bfn f l]:=rfl
theorem vo_bfn (f:Nat) (l:List V):(V.bfn f l).one=true:=rfl
theorem un_bfn (f:Nat) (l:List V):V.un (.bfn f l)=none:=rfl
theorem gO0_ex (c:List Ins) (l:Nat):gO0 c l=[(901,mB0 c l),(980,tB 0),(981,.imap []),(982,.cache (DI []) (FI [])),(983,.cache (DL []) (FL [])),(984,.cache (DV []) (FV [])),(985,.imap [])]:=rfl
theorem machine_ok (c:List Ins) (l:Nat):AC Tryz.prog gl 59 [.pv (.slice (c.map insP)),.pv (.int l)] [] (.ret (.tuple [.loc 901 0,.loc 980 0])) (gO0 c l):=by
 rw [gO0_ex]
 have hI:=cohI []
 have hL:=cohL []
 have hV:=cohV []
 unfold mB0 tB
 generalize DI []=D1 at *
 generalize FI []=F1 at *
 generalize DL []=D2 at *
 generalize FL []=F2 at *
 generalize DV []=D3 at *
 generalize FV []=F3 at *
 generalize c.map insP=cc at *
 refine body [(7,.imap 981),(8,.cache 982 D1 F1),(9,.cache 983 D2 F2),(10,.cache 984 D3 F3),(11,.imap 985),(13,.box 980),(21,.box 901)] Tryz.func59 Tryz.ntmps59 ?_
 refine gg ?_
 refine runOps_ev rfl (by simp only [↓evalSeq,↓evalR_some,↓evalO_call,↓evalO_none,↓evalO_some,↓evalG_tt,↓evalG_ff,↓evalG_tf,↓evalG_ft,↓evalG_sk,isCall,↓cond_true,↓cond_false,gv,stepOp,stepMove,stepLoad,stepStore,stepIndex,stepLen,stepAppend,stepSlice,stepBin,stepInt,stepEq,srcOf,addrOff,TK.isIface,stepRow,stepUpdate,stepUpdateI,stepLookI,stepLenM,intsOf,oneZ,zeroPV,placesA,PV.nonint,List.any_cons,List.any_nil,Bool.or_true,Bool.true_or,Bool.or_false,Bool.false_or,rdP,rdV,TI.isAgg,boolR,mkAgg,mkSlice,unL,unE,V.un,vc_int,vo_int,po_int,vc_bool,vo_bool,po_bool,vc_nil,vo_nil,po_nil,vc_nils,vo_nils,po_nils,vc_nilfn,vo_nilfn,po_nilfn,vc_nilm,vo_nilm,po_nilm,vc_nilif,vo_nilif,po_nilif,vc_ptr,vo_ptr,po_ptr,vc_slice,vo_slice,po_slice,vc_iface,vo_iface,po_iface,vc_loc,vo_loc,vc_eloc,vo_eloc,vc_arr,vo_arr,vc_map,vo_map,vc_vsl,vo_vsl,vc_fn,vo_fn,vc_agg,vc_aggv,pc_int,pc_bool,pc_nil,pc_nils,pc_nilfn,pc_nilm,pc_nilif,pc_ptr,pc_slice,pc_iface,pc_agg,fillV,sliceParts,putL,St.val,getS,getO,setO,delO,updAll,updO,St.eff,R.eff,R.of,R.ofIf,Env1.note,cst,putS,dstOK,freshL,zipArgs,pvL,skipE,↓reduceIte,Nat.reduceEqDiff,Nat.reduceLT,Nat.reduceLeDiff,Nat.reduceAdd,Nat.reduceSub,Nat.reduceMul,Int.reduceToNat,Int.toNat_natCast,and_true,true_and,false_and,and_self,forall_const,true_implies,implies_true,not_false_eq_true,not_true_eq_false,List.mem_cons,List.not_mem_nil,or_false,or_self,false_or,List.length_cons,List.length_nil,List.map_cons,List.map_nil,List.nil_append,List.cons_append,List.append_nil,List.take_zero,List.take_succ_cons,List.drop_zero,List.drop_succ_cons,List.take_nil,List.drop_nil,List.getElem?_cons_zero,List.getElem?_cons_succ,List.getElem?_nil,Option.map_some,Option.map_none,Bool.not_true,Bool.not_false,List.all_cons,List.all_nil,Bool.and_self,Bool.true_and,Bool.and_true,reduceCtorEq,Option.some.injEq,List.getD_cons_zero,List.getD_cons_succ,decide_true,decide_false,Nat.succ_ne_self,Nat.zero_add,Nat.add_zero,pvE_take,pvE_get,pvE_app,pvE_len,pvE_all,pvE_one,unE_pvE,List.forall_mem_cons,List.mem_singleton,forall_eq,List.mem_nil_iff,false_implies,XX_T,XX_gl,XX_nm,XX_nt,noteD,noteOf,tt91,tt35,tt3,tt118,tt84,tt85,tt86,List.size_toArray,List.toList_toArray,Nat.reduceEqDiff,vc_bfn,vo_bfn,un_bfn,Nat.add_one_ne_zero];rfl) ?_ ?_
 ·simp only [buildC,and_true,true_and,implies_true,true_implies,and_self]
 refine gg ?_
 exact enC27
end Go.Proofs.YtodjpfpmhjdhbaaGreatDoor
