/- Part of the proof: contracts of the types, terms, the generator and the compiler; no conditions. -/
import Derived.Test.YtodjpfpmhjdhbaaGreatDoorSameC27
import Derived.Test.YtodjpfpmhjdhbaaGreatDoorSameC22
import Derived.Test.YtodjpfpmhjdhbaaGreatDoorSameC23
import Derived.Test.YtodjpfpmhjdhbaaGreatDoorSameC20
import Derived.Test.YtodjpfpmhjdhbaaGreatDoorSameC26
import Derived.Test.YtodjpfpmhjdhbaaGreatDoorSameC25
set_option linter.unusedVariables false
set_option linter.unusedSimpArgs false
set_option linter.unusedSectionVars false
theorem Go.Proofs.YtodjpfpmhjdhbaaGreatDoor.onC28 {s : Go.Lg.PV} (h : s.one = true) : (Go.Lg.V.pv s).one = true := by rw [Go.Lg.one_pv]; exact h
namespace Go.Proofs.YtodjpfpmhjdhbaaGreatDoor
open Go.Lg
theorem enC28 {P Q : Prop} (h : P := by simp [retIs,resV,resL,resOne,mkTup,getS,getO,rdV,mkAgg,unL,V.un,TI.isAgg,XX_T,tt47,Tryz.f58,Tryz.f56,tt41,Tryz.f22,Tryz.f16,Tryz.f21]) (k : Q := by simp [subO,getO,tt47,Tryz.f58,Tryz.f56,tt41,Tryz.f22,Tryz.f16,Tryz.f21]) : P ∧ Q := ⟨h,k⟩
end Go.Proofs.YtodjpfpmhjdhbaaGreatDoor
/- ref38.Go, ref38.Run, ref38.Call with none, one or two values (printed by call9.py). -/
namespace Go.Proofs.YtodjpfpmhjdhbaaGreatDoor
open Go.Lg
set_option maxRecDepth 10000
set_option maxHeartbeats 4000000
theorem go38_0_f (c:List Ins) (l:Nat)  (hF:AC Tryz.prog gl 91 [.pv (.slice (c.map insP)),.pv (.int l)] [] (.ret (.pv (.int 0))) []) (f0:It) (s0:Nat) (hB:BlC c l 0 [] 0 0 (.ok f0 s0)) :
  AC Tryz.prog gl 58 [.pv (.slice (c.map insP)),.pv (.slice []),.pv (.int l),.pv (.bool false)] [] (.ret (.pv (.tuple [.agg (rcC f0),.int s0,.int 0,.int 0]))) []:=by
 obtain ⟨k0,n0,a0,t0,u0,e0⟩:=rcC_shape f0
 simp only [BlC,EnC,ocV,ocM,mR,zC,rcL,e0,Int.natCast_zero] at hB ⊢
 generalize c.map insP=cd at *
 clear e0
 refine body [(45,.box 970)] Tryz.func58 Tryz.ntmps58 ?_
 refine gg ?_
 refine call hF ?_
 refine gg ?_
 refine ex_loop 1 (ex_round ?_)
 refine gg ?_
 refine call hB ?_
 refine gg ?_
 refine ex_loop 1 (ex_round ?_)
 refine gg ?_
 refine ⟨by rfl,?_⟩
 refine gg ?_
 exact enC28
theorem run38_f (cc:List (List PV)) (l s:Nat) (x:List PV) (sx:∃ (k n a:Nat) (s t:List (List PV)),x=[.int k,.int n,.int a,.slice s,.slice t]) (hG:AC Tryz.prog gl 58 [.pv (.slice cc),.pv (.slice []),.pv (.int l),.pv (.bool false)] [] (.ret (.pv (.tuple [.agg x,.int s,.int 0,.int 0]))) []) :
  AC Tryz.prog gl 56 [.pv (.slice cc),.pv (.int l)] [] (.ret (.pv (.tuple [.agg x,.int s,.int 0]))) []:=by
 obtain ⟨kx,nx,ax,tx,ux,rfl⟩:=sx
 refine body [] Tryz.func56 Tryz.ntmps56 ?_
 refine gg ?_
 refine call hG ?_
 refine gg ?_
 exact enC28
theorem go38_1_0 (c:List Ins) (l:Nat) (v1:List PV) (sv1:∃ k m s q,v1=[.int k,.int m,s,q]∧s.one=true∧q.one=true) (hF:AC Tryz.prog gl 91 [.pv (.slice (c.map insP)),.pv (.int l)] [] (.ret (.pv (.int 0))) []) (hK1:AC Tryz.prog gl 64 [.pv (.agg v1)] [] (.ret (.pv (.int 0))) []) (e s:Nat) (he:0<e) (hB:BlC c l 0 [] 0 0 (.err e s)) :
  AC Tryz.prog gl 58 [.pv (.slice (c.map insP)),.pv (.slice [v1]),.pv (.int l),.pv (.bool false)] [] (.ret (.pv (.tuple [.agg zC,.int 0,.int 0,.int e]))) []:=by
 have he':¬ (e:Int)=0:=by omega
 obtain ⟨kv1,mv1,sv1,qv1,rfl,ov1,ov1'⟩:=sv1
 have wv1:=vcells_one ov1
 have wv1':=vcells_one ov1'
 have zv1:=onC28 ov1
 have zv1':=onC28 ov1'
 simp only [BlC,EnC,ocV,ocM,mR,zC,rcL,Int.natCast_zero] at hB ⊢
 generalize c.map insP=cd at *
 refine body [(45,.box 970)] Tryz.func58 Tryz.ntmps58 ?_
 refine gg ?_
 refine call hF ?_
 refine gg ?_
 refine ex_loop 2 (ex_round ?_)
 refine gg ?_
 refine call hK1 ?_
 refine gg ?_
 refine ex_round ?_
 refine kp [0,1,2,3,8,9,10,11,13] [8] ?_
 refine gg ?_
 refine call hB ?_
 refine gg ?_
 refine ex_loop 1 (ex_round ?_)
 refine gg ?_
 exact enC28
theorem go38_1_1 (c:List Ins) (l:Nat) (v1:List PV) (sv1:∃ k m s q,v1=[.int k,.int m,s,q]∧s.one=true∧q.one=true) (hF:AC Tryz.prog gl 91 [.pv (.slice (c.map insP)),.pv (.int l)] [] (.ret (.pv (.int 0))) []) (hK1:AC Tryz.prog gl 64 [.pv (.agg v1)] [] (.ret (.pv (.int 0))) []) (f0:It) (s0:Nat) (hB:BlC c l 0 [] 0 0 (.ok f0 s0)) (z1:It) (hC1:AC Tryz.prog gl 94 [.pv (.agg v1)] [] (.ret (.pv (.agg (rcC z1)))) []) (e s:Nat) (he:0<e) (hE1:EnC c l f0 z1 s0 0 (.err e s)) :
  AC Tryz.prog gl 58 [.pv (.slice (c.map insP)),.pv (.slice [v1]),.pv (.int l),.pv (.bool false)] [] (.ret (.pv (.tuple [.agg zC,.int 0,.int 0,.int e]))) []:=by
 have he':¬ (e:Int)=0:=by omega
 obtain ⟨kv1,mv1,sv1,qv1,rfl,ov1,ov1'⟩:=sv1
 have wv1:=vcells_one ov1
 have wv1':=vcells_one ov1'
 have zv1:=onC28 ov1
 have zv1':=onC28 ov1'
 obtain ⟨k0,n0,a0,t0,u0,e0⟩:=rcC_shape f0
 obtain ⟨kz1,nz1,az1,tz1,uz1,ez1⟩:=rcC_shape z1
 simp only [BlC,EnC,ocV,ocM,mR,zC,rcL,e0,ez1,Int.natCast_zero] at hB hC1 hE1 ⊢
 generalize c.map insP=cd at *
 clear e0 ez1
 refine body [(45,.box 970)] Tryz.func58 Tryz.ntmps58 ?_
 refine gg ?_
 refine call hF ?_
 refine gg ?_
 refine ex_loop 2 (ex_round ?_)
 refine gg ?_
 refine call hK1 ?_
 refine gg ?_
 refine ex_round ?_
 refine kp [0,1,2,3,8,9,10,11,13] [8] ?_
 refine gg ?_
 refine call hB ?_
 refine gg ?_
 refine ex_loop 2 (ex_round ?_)
 refine gg ?_
 refine call hC1 ?_
 refine gg ?_
 refine call hE1 ?_
 refine gg ?_
 refine ⟨by rfl,?_⟩
 refine gg ?_
 refine ex_round ?_
 refine kp [0,1,2,3,8,9,10,11,15,16,17,18] [8,16,970] ?_
 refine gg ?_
 exact enC28
theorem go38_1_f (c:List Ins) (l:Nat) (v1:List PV) (sv1:∃ k m s q,v1=[.int k,.int m,s,q]∧s.one=true∧q.one=true) (hF:AC Tryz.prog gl 91 [.pv (.slice (c.map insP)),.pv (.int l)] [] (.ret (.pv (.int 0))) []) (hK1:AC Tryz.prog gl 64 [.pv (.agg v1)] [] (.ret (.pv (.int 0))) []) (f0:It) (s0:Nat) (hB:BlC c l 0 [] 0 0 (.ok f0 s0)) (z1:It) (hC1:AC Tryz.prog gl 94 [.pv (.agg v1)] [] (.ret (.pv (.agg (rcC z1)))) []) (f1:It) (s1:Nat) (hE1:EnC c l f0 z1 s0 0 (.ok f1 s1)) :
  AC Tryz.prog gl 58 [.pv (.slice (c.map insP)),.pv (.slice [v1]),.pv (.int l),.pv (.bool false)] [] (.ret (.pv (.tuple [.agg (rcC f1),.int s1,.int 0,.int 0]))) []:=by
 obtain ⟨kv1,mv1,sv1,qv1,rfl,ov1,ov1'⟩:=sv1
 have wv1:=vcells_one ov1
 have wv1':=vcells_one ov1'
 have zv1:=onC28 ov1
 have zv1':=onC28 ov1'
 obtain ⟨k0,n0,a0,t0,u0,e0⟩:=rcC_shape f0
 obtain ⟨kz1,nz1,az1,tz1,uz1,ez1⟩:=rcC_shape z1
 obtain ⟨k1,n1,a1,t1,u1,e1⟩:=rcC_shape f1
 simp only [BlC,EnC,ocV,ocM,mR,zC,rcL,e0,ez1,e1,Int.natCast_zero] at hB hC1 hE1 ⊢
 generalize c.map insP=cd at *
 clear e0 ez1 e1
 refine body [(45,.box 970)] Tryz.func58 Tryz.ntmps58 ?_
 refine gg ?_
 refine call hF ?_
 refine gg ?_
 refine ex_loop 2 (ex_round ?_)
 refine gg ?_
 refine call hK1 ?_
 refine gg ?_
 refine ex_round ?_
 refine kp [0,1,2,3,8,9,10,11,13] [8] ?_
 refine gg ?_
 refine call hB ?_
 refine gg ?_
 refine ex_loop 2 (ex_round ?_)
 refine gg ?_
 refine call hC1 ?_
 refine gg ?_
 refine call hE1 ?_
 refine gg ?_
 refine ⟨by rfl,?_⟩
 refine gg ?_
 refine ex_round ?_
 refine kp [0,1,2,3,8,9,10,11,15,16,17,18] [8,16,970] ?_
 refine gg ?_
 refine ⟨by rfl,?_⟩
 refine gg ?_
 exact enC28
theorem call38_1_e (cc:List (List PV)) (l e:Nat) (he:0<e) (v1:List PV) (sv1:∃ k m s q,v1=[.int k,.int m,s,q]∧s.one=true∧q.one=true) (hG:AC Tryz.prog gl 58 [.pv (.slice cc),.pv (.slice [v1]),.pv (.int l),.pv (.bool false)] [] (.ret (.pv (.tuple [.agg zC,.int 0,.int 0,.int e]))) []) :
  AC Tryz.prog gl 22 [.pv (.slice cc),.pv (.slice [v1]),.pv (.int l)] [] (.ret (.pv (.tuple [.agg [.int 0,.int 0,.nils,.nils],.int 0,.int e]))) []:=by
 have he':¬ (e:Int)=0:=by omega
 obtain ⟨kv1,mv1,sv1,qv1,rfl,ov1,ov1'⟩:=sv1
 have wv1:=vcells_one ov1
 have wv1':=vcells_one ov1'
 have zv1:=onC28 ov1
 have zv1':=onC28 ov1'
 simp only [zC] at hG
 refine body [] Tryz.func22 Tryz.ntmps22 ?_
 refine gg ?_
 refine call hG ?_
 refine gg ?_
 exact enC28
theorem call38_1_f (cc:List (List PV)) (l s:Nat) (v1:List PV) (sv1:∃ k m s q,v1=[.int k,.int m,s,q]∧s.one=true∧q.one=true) (x w:List PV) (sx:∃ (k n a:Nat) (s t:List (List PV)),x=[.int k,.int n,.int a,.slice s,.slice t]) (sw:∃ k m s q,w=[.int k,.int m,s,q]∧s.one=true∧q.one=true) (hG:AC Tryz.prog gl 58 [.pv (.slice cc),.pv (.slice [v1]),.pv (.int l),.pv (.bool false)] [] (.ret (.pv (.tuple [.agg x,.int s,.int 0,.int 0]))) []) (hV:AC Tryz.prog gl 34 [.pv (.agg x)] [] (.ret (.pv (.tuple [.agg w,.bool true]))) []) :
  AC Tryz.prog gl 22 [.pv (.slice cc),.pv (.slice [v1]),.pv (.int l)] [] (.ret (.pv (.tuple [.agg w,.int s,.int 0]))) []:=by
 obtain ⟨kv1,mv1,sv1,qv1,rfl,ov1,ov1'⟩:=sv1
 have wv1:=vcells_one ov1
 have wv1':=vcells_one ov1'
 have zv1:=onC28 ov1
 have zv1':=onC28 ov1'
 obtain ⟨kw,mw,sw,qw,rfl,ow,ow'⟩:=sw
 have ww:=vcells_one ow
 have ww':=vcells_one ow'
 have zw:=onC28 ow
 have zw':=onC28 ow'
 obtain ⟨kx,nx,ax,tx,ux,rfl⟩:=sx
 refine body [] Tryz.func22 Tryz.ntmps22 ?_
 refine gg ?_
 refine call hG ?_
 refine gg ?_
 refine call hV ?_
 refine gg ?_
 exact enC28
theorem go38_2_0 (c:List Ins) (l:Nat) (v1 v2:List PV) (sv1:∃ k m s q,v1=[.int k,.int m,s,q]∧s.one=true∧q.one=true) (sv2:∃ k m s q,v2=[.int k,.int m,s,q]∧s.one=true∧q.one=true) (hF:AC Tryz.prog gl 91 [.pv (.slice (c.map insP)),.pv (.int l)] [] (.ret (.pv (.int 0))) []) (hK1:AC Tryz.prog gl 64 [.pv (.agg v1)] [] (.ret (.pv (.int 0))) []) (hK2:AC Tryz.prog gl 64 [.pv (.agg v2)] [] (.ret (.pv (.int 0))) []) (e s:Nat) (he:0<e) (hB:BlC c l 0 [] 0 0 (.err e s)) :
  AC Tryz.prog gl 58 [.pv (.slice (c.map insP)),.pv (.slice [v1,v2]),.pv (.int l),.pv (.bool false)] [] (.ret (.pv (.tuple [.agg zC,.int 0,.int 0,.int e]))) []:=by
 have he':¬ (e:Int)=0:=by omega
 obtain ⟨kv1,mv1,sv1,qv1,rfl,ov1,ov1'⟩:=sv1
 have wv1:=vcells_one ov1
 have wv1':=vcells_one ov1'
 have zv1:=onC28 ov1
 have zv1':=onC28 ov1'
 obtain ⟨kv2,mv2,sv2,qv2,rfl,ov2,ov2'⟩:=sv2
 have wv2:=vcells_one ov2
 have wv2':=vcells_one ov2'
 have zv2:=onC28 ov2
 have zv2':=onC28 ov2'
 simp only [BlC,EnC,ocV,ocM,mR,zC,rcL,Int.natCast_zero] at hB ⊢
 generalize c.map insP=cd at *
 refine body [(45,.box 970)] Tryz.func58 Tryz.ntmps58 ?_
 refine gg ?_
 refine call hF ?_
 refine gg ?_
 refine ex_loop 3 (ex_round ?_)
 refine gg ?_
 refine call hK1 ?_
 refine gg ?_
 refine ex_round ?_
 refine kp [0,1,2,3,8,9,10,11,13] [8] ?_
 refine gg ?_
 refine call hK2 ?_
 refine gg ?_
 refine ex_round ?_
 refine kp [0,1,2,3,8,9,10,11,13] [8] ?_
 refine gg ?_
 refine call hB ?_
 refine gg ?_
 refine ex_loop 1 (ex_round ?_)
 refine gg ?_
 exact enC28
theorem go38_2_1 (c:List Ins) (l:Nat) (v1 v2:List PV) (sv1:∃ k m s q,v1=[.int k,.int m,s,q]∧s.one=true∧q.one=true) (sv2:∃ k m s q,v2=[.int k,.int m,s,q]∧s.one=true∧q.one=true) (hF:AC Tryz.prog gl 91 [.pv (.slice (c.map insP)),.pv (.int l)] [] (.ret (.pv (.int 0))) []) (hK1:AC Tryz.prog gl 64 [.pv (.agg v1)] [] (.ret (.pv (.int 0))) []) (hK2:AC Tryz.prog gl 64 [.pv (.agg v2)] [] (.ret (.pv (.int 0))) []) (f0:It) (s0:Nat) (hB:BlC c l 0 [] 0 0 (.ok f0 s0)) (z1:It) (hC1:AC Tryz.prog gl 94 [.pv (.agg v1)] [] (.ret (.pv (.agg (rcC z1)))) []) (e s:Nat) (he:0<e) (hE1:EnC c l f0 z1 s0 0 (.err e s)) :
  AC Tryz.prog gl 58 [.pv (.slice (c.map insP)),.pv (.slice [v1,v2]),.pv (.int l),.pv (.bool false)] [] (.ret (.pv (.tuple [.agg zC,.int 0,.int 0,.int e]))) []:=by
 have he':¬ (e:Int)=0:=by omega
 obtain ⟨kv1,mv1,sv1,qv1,rfl,ov1,ov1'⟩:=sv1
 have wv1:=vcells_one ov1
 have wv1':=vcells_one ov1'
 have zv1:=onC28 ov1
 have zv1':=onC28 ov1'
 obtain ⟨kv2,mv2,sv2,qv2,rfl,ov2,ov2'⟩:=sv2
 have wv2:=vcells_one ov2
 have wv2':=vcells_one ov2'
 have zv2:=onC28 ov2
 have zv2':=onC28 ov2'
 obtain ⟨k0,n0,a0,t0,u0,e0⟩:=rcC_shape f0
 obtain ⟨kz1,nz1,az1,tz1,uz1,ez1⟩:=rcC_shape z1
 simp only [BlC,EnC,ocV,ocM,mR,zC,rcL,e0,ez1,Int.natCast_zero] at hB hC1 hE1 ⊢
 generalize c.map insP=cd at *
 clear e0 ez1
 refine body [(45,.box 970)] Tryz.func58 Tryz.ntmps58 ?_
 refine gg ?_
 refine call hF ?_
 refine gg ?_
 refine ex_loop 3 (ex_round ?_)
 refine gg ?_
 refine call hK1 ?_
 refine gg ?_
 refine ex_round ?_
 refine kp [0,1,2,3,8,9,10,11,13] [8] ?_
 refine gg ?_
 refine call hK2 ?_
 refine gg ?_
 refine ex_round ?_
 refine kp [0,1,2,3,8,9,10,11,13] [8] ?_
 refine gg ?_
 refine call hB ?_
 refine gg ?_
 refine ex_loop 2 (ex_round ?_)
 refine gg ?_
 refine call hC1 ?_
 refine gg ?_
 refine call hE1 ?_
 refine gg ?_
 refine ⟨by rfl,?_⟩
 refine gg ?_
 refine ex_round ?_
 refine kp [0,1,2,3,8,9,10,11,15,16,17,18] [8,16,970] ?_
 refine gg ?_
 exact enC28
theorem go38_2_2 (c:List Ins) (l:Nat) (v1 v2:List PV) (sv1:∃ k m s q,v1=[.int k,.int m,s,q]∧s.one=true∧q.one=true) (sv2:∃ k m s q,v2=[.int k,.int m,s,q]∧s.one=true∧q.one=true) (hF:AC Tryz.prog gl 91 [.pv (.slice (c.map insP)),.pv (.int l)] [] (.ret (.pv (.int 0))) []) (hK1:AC Tryz.prog gl 64 [.pv (.agg v1)] [] (.ret (.pv (.int 0))) []) (hK2:AC Tryz.prog gl 64 [.pv (.agg v2)] [] (.ret (.pv (.int 0))) []) (f0:It) (s0:Nat) (hB:BlC c l 0 [] 0 0 (.ok f0 s0)) (z1:It) (hC1:AC Tryz.prog gl 94 [.pv (.agg v1)] [] (.ret (.pv (.agg (rcC z1)))) []) (f1:It) (s1:Nat) (hE1:EnC c l f0 z1 s0 0 (.ok f1 s1)) (z2:It) (hC2:AC Tryz.prog gl 94 [.pv (.agg v2)] [] (.ret (.pv (.agg (rcC z2)))) []) (e s:Nat) (he:0<e) (hE2:EnC c l f1 z2 s1 0 (.err e s)) :
  AC Tryz.prog gl 58 [.pv (.slice (c.map insP)),.pv (.slice [v1,v2]),.pv (.int l),.pv (.bool false)] [] (.ret (.pv (.tuple [.agg zC,.int 0,.int 0,.int e]))) []:=by
 have he':¬ (e:Int)=0:=by omega
 obtain ⟨kv1,mv1,sv1,qv1,rfl,ov1,ov1'⟩:=sv1
 have wv1:=vcells_one ov1
 have wv1':=vcells_one ov1'
 have zv1:=onC28 ov1
 have zv1':=onC28 ov1'
 obtain ⟨kv2,mv2,sv2,qv2,rfl,ov2,ov2'⟩:=sv2
 have wv2:=vcells_one ov2
 have wv2':=vcells_one ov2'
 have zv2:=onC28 ov2
 have zv2':=onC28 ov2'
 obtain ⟨k0,n0,a0,t0,u0,e0⟩:=rcC_shape f0
 obtain ⟨kz1,nz1,az1,tz1,uz1,ez1⟩:=rcC_shape z1
 obtain ⟨k1,n1,a1,t1,u1,e1⟩:=rcC_shape f1
 obtain ⟨kz2,nz2,az2,tz2,uz2,ez2⟩:=rcC_shape z2
 simp only [BlC,EnC,ocV,ocM,mR,zC,rcL,e0,ez1,e1,ez2,Int.natCast_zero] at hB hC1 hC2 hE1 hE2 ⊢
 generalize c.map insP=cd at *
 clear e0 ez1 e1 ez2
 refine body [(45,.box 970)] Tryz.func58 Tryz.ntmps58 ?_
 refine gg ?_
 refine call hF ?_
 refine gg ?_
 refine ex_loop 3 (ex_round ?_)
 refine gg ?_
 refine call hK1 ?_
 refine gg ?_
 refine ex_round ?_
 refine kp [0,1,2,3,8,9,10,11,13] [8] ?_
 refine gg ?_
 refine call hK2 ?_
 refine gg ?_
 refine ex_round ?_
 refine kp [0,1,2,3,8,9,10,11,13] [8] ?_
 refine gg ?_
 refine call hB ?_
 refine gg ?_
 refine ex_loop 3 (ex_round ?_)
 refine gg ?_
 refine call hC1 ?_
 refine gg ?_
 refine call hE1 ?_
 refine gg ?_
 refine ⟨by rfl,?_⟩
 refine gg ?_
 refine ex_round ?_
 refine kp [0,1,2,3,8,9,10,11,15,16,17,18] [8,16,970] ?_
 refine gg ?_
 refine call hC2 ?_
 refine gg ?_
 refine call hE2 ?_
 refine gg ?_
 refine ⟨by rfl,?_⟩
 refine gg ?_
 refine ex_round ?_
 refine kp [0,1,2,3,8,9,10,11,15,16,17,18] [8,16,970] ?_
 refine gg ?_
 exact enC28
theorem go38_2_f (c:List Ins) (l:Nat) (v1 v2:List PV) (sv1:∃ k m s q,v1=[.int k,.int m,s,q]∧s.one=true∧q.one=true) (sv2:∃ k m s q,v2=[.int k,.int m,s,q]∧s.one=true∧q.one=true) (hF:AC Tryz.prog gl 91 [.pv (.slice (c.map insP)),.pv (.int l)] [] (.ret (.pv (.int 0))) []) (hK1:AC Tryz.prog gl 64 [.pv (.agg v1)] [] (.ret (.pv (.int 0))) []) (hK2:AC Tryz.prog gl 64 [.pv (.agg v2)] [] (.ret (.pv (.int 0))) []) (f0:It) (s0:Nat) (hB:BlC c l 0 [] 0 0 (.ok f0 s0)) (z1:It) (hC1:AC Tryz.prog gl 94 [.pv (.agg v1)] [] (.ret (.pv (.agg (rcC z1)))) []) (f1:It) (s1:Nat) (hE1:EnC c l f0 z1 s0 0 (.ok f1 s1)) (z2:It) (hC2:AC Tryz.prog gl 94 [.pv (.agg v2)] [] (.ret (.pv (.agg (rcC z2)))) []) (f2:It) (s2:Nat) (hE2:EnC c l f1 z2 s1 0 (.ok f2 s2)) :
  AC Tryz.prog gl 58 [.pv (.slice (c.map insP)),.pv (.slice [v1,v2]),.pv (.int l),.pv (.bool false)] [] (.ret (.pv (.tuple [.agg (rcC f2),.int s2,.int 0,.int 0]))) []:=by
 obtain ⟨kv1,mv1,sv1,qv1,rfl,ov1,ov1'⟩:=sv1
 have wv1:=vcells_one ov1
 have wv1':=vcells_one ov1'
 have zv1:=onC28 ov1
 have zv1':=onC28 ov1'
 obtain ⟨kv2,mv2,sv2,qv2,rfl,ov2,ov2'⟩:=sv2
 have wv2:=vcells_one ov2
 have wv2':=vcells_one ov2'
 have zv2:=onC28 ov2
 have zv2':=onC28 ov2'
 obtain ⟨k0,n0,a0,t0,u0,e0⟩:=rcC_shape f0
 obtain ⟨kz1,nz1,az1,tz1,uz1,ez1⟩:=rcC_shape z1
 obtain ⟨k1,n1,a1,t1,u1,e1⟩:=rcC_shape f1
 obtain ⟨kz2,nz2,az2,tz2,uz2,ez2⟩:=rcC_shape z2
 obtain ⟨k2,n2,a2,t2,u2,e2⟩:=rcC_shape f2
 simp only [BlC,EnC,ocV,ocM,mR,zC,rcL,e0,ez1,e1,ez2,e2,Int.natCast_zero] at hB hC1 hC2 hE1 hE2 ⊢
 generalize c.map insP=cd at *
 clear e0 ez1 e1 ez2 e2
 refine body [(45,.box 970)] Tryz.func58 Tryz.ntmps58 ?_
 refine gg ?_
 refine call hF ?_
 refine gg ?_
 refine ex_loop 3 (ex_round ?_)
 refine gg ?_
 refine call hK1 ?_
 refine gg ?_
 refine ex_round ?_
 refine kp [0,1,2,3,8,9,10,11,13] [8] ?_
 refine gg ?_
 refine call hK2 ?_
 refine gg ?_
 refine ex_round ?_
 refine kp [0,1,2,3,8,9,10,11,13] [8] ?_
 refine gg ?_
 refine call hB ?_
 refine gg ?_
 refine ex_loop 3 (ex_round ?_)
 refine gg ?_
 refine call hC1 ?_
 refine gg ?_
 refine call hE1 ?_
 refine gg ?_
 refine ⟨by rfl,?_⟩
 refine gg ?_
 refine ex_round ?_
 refine kp [0,1,2,3,8,9,10,11,15,16,17,18] [8,16,970] ?_
 refine gg ?_
 refine call hC2 ?_
 refine gg ?_
 refine call hE2 ?_
 refine gg ?_
 refine ⟨by rfl,?_⟩
 refine gg ?_
 refine ex_round ?_
 refine kp [0,1,2,3,8,9,10,11,15,16,17,18] [8,16,970] ?_
 refine gg ?_
 refine ⟨by rfl,?_⟩
 refine gg ?_
 exact enC28
theorem call38_2_e (cc:List (List PV)) (l e:Nat) (he:0<e) (v1 v2:List PV) (sv1:∃ k m s q,v1=[.int k,.int m,s,q]∧s.one=true∧q.one=true) (sv2:∃ k m s q,v2=[.int k,.int m,s,q]∧s.one=true∧q.one=true) (hG:AC Tryz.prog gl 58 [.pv (.slice cc),.pv (.slice [v1,v2]),.pv (.int l),.pv (.bool false)] [] (.ret (.pv (.tuple [.agg zC,.int 0,.int 0,.int e]))) []) :
  AC Tryz.prog gl 22 [.pv (.slice cc),.pv (.slice [v1,v2]),.pv (.int l)] [] (.ret (.pv (.tuple [.agg [.int 0,.int 0,.nils,.nils],.int 0,.int e]))) []:=by
 have he':¬ (e:Int)=0:=by omega
 obtain ⟨kv1,mv1,sv1,qv1,rfl,ov1,ov1'⟩:=sv1
 have wv1:=vcells_one ov1
 have wv1':=vcells_one ov1'
 have zv1:=onC28 ov1
 have zv1':=onC28 ov1'
 obtain ⟨kv2,mv2,sv2,qv2,rfl,ov2,ov2'⟩:=sv2
 have wv2:=vcells_one ov2
 have wv2':=vcells_one ov2'
 have zv2:=onC28 ov2
 have zv2':=onC28 ov2'
 simp only [zC] at hG
 refine body [] Tryz.func22 Tryz.ntmps22 ?_
 refine gg ?_
 refine call hG ?_
 refine gg ?_
 exact enC28
theorem call38_2_f (cc:List (List PV)) (l s:Nat) (v1 v2:List PV) (sv1:∃ k m s q,v1=[.int k,.int m,s,q]∧s.one=true∧q.one=true) (sv2:∃ k m s q,v2=[.int k,.int m,s,q]∧s.one=true∧q.one=true) (x w:List PV) (sx:∃ (k n a:Nat) (s t:List (List PV)),x=[.int k,.int n,.int a,.slice s,.slice t]) (sw:∃ k m s q,w=[.int k,.int m,s,q]∧s.one=true∧q.one=true) (hG:AC Tryz.prog gl 58 [.pv (.slice cc),.pv (.slice [v1,v2]),.pv (.int l),.pv (.bool false)] [] (.ret (.pv (.tuple [.agg x,.int s,.int 0,.int 0]))) []) (hV:AC Tryz.prog gl 34 [.pv (.agg x)] [] (.ret (.pv (.tuple [.agg w,.bool true]))) []) :
  AC Tryz.prog gl 22 [.pv (.slice cc),.pv (.slice [v1,v2]),.pv (.int l)] [] (.ret (.pv (.tuple [.agg w,.int s,.int 0]))) []:=by
 obtain ⟨kv1,mv1,sv1,qv1,rfl,ov1,ov1'⟩:=sv1
 have wv1:=vcells_one ov1
 have wv1':=vcells_one ov1'
 have zv1:=onC28 ov1
 have zv1':=onC28 ov1'
 obtain ⟨kv2,mv2,sv2,qv2,rfl,ov2,ov2'⟩:=sv2
 have wv2:=vcells_one ov2
 have wv2':=vcells_one ov2'
 have zv2:=onC28 ov2
 have zv2':=onC28 ov2'
 obtain ⟨kw,mw,sw,qw,rfl,ow,ow'⟩:=sw
 have ww:=vcells_one ow
 have ww':=vcells_one ow'
 have zw:=onC28 ow
 have zw':=onC28 ow'
 obtain ⟨kx,nx,ax,tx,ux,rfl⟩:=sx
 refine body [] Tryz.func22 Tryz.ntmps22 ?_
 refine gg ?_
 refine call hG ?_
 refine gg ?_
 refine call hV ?_
 refine gg ?_
 exact enC28
theorem vck_ok {B:Nat} (hB:B≤100000) {r:Rs} {t:Ty} (h:RsT B r t) (hp:t.plain):AC Tryz.prog gl 44 [.pv (.agg (valW r))] [] (.ret (.pv (.int 0))) []:=by
 rcases plain_cases hp with hb | ⟨s,hb,rfl⟩
 ·exact vcheck_of _ 1 (by omega) (valW_shape2 h hp) (nodes_base hB h hb)
 ·have hb2:s = .nat∨s = .list∨s = .unit:=by rcases hb with rfl | rfl <;> simp
  have hsh:=valW_shape2 h hp
  cases h with
  | pair ha hb'=>exact vcheck_of _ 3 (by omega) hsh (nodes_pair hB ha hb' (.inl rfl) hb2)
theorem Bd_itOf {B:Nat} (hB:B≤1000) {r:Rs} {t:Ty} (h:RsT B r t) (hp:t.plain):Bd B (itOf r):=by
 have base:∀ {r:Rs} {t:Ty},RsT B r t→(t = .nat∨t = .list∨t = .unit)→Bd B (itOf r)∧(itOf r).more=0:=by
  intro r t h hb
  rcases hb with rfl | rfl | rfl <;> cases h
  ·exact ⟨by simpa [itOf,Bd] using ‹_›,rfl⟩
  ·rename_i l h1 h2
   exact ⟨⟨by omega,h2⟩,rfl⟩
  ·exact ⟨trivial,rfl⟩
 rcases plain_cases hp with hb | ⟨s,hb,rfl⟩
 ·exact (base h hb).1
 ·cases h with
  | pair ha hb' =>
   have h1:=base ha (.inl rfl)
   have h2:=base hb' (by rcases hb with rfl | rfl <;> simp)
   simp only [itOf,Bd,h1.2,h2.2]
   exact ⟨h1.1,h2.1,by omega⟩
theorem VT_itOf {B:Nat} {c:List Ins} {r:Rs} {t:Ty} (h:RsT B r t) (hp:t.plain):VT c (itOf r) t:=by
 have base:∀ {r:Rs} {t:Ty},RsT B r t→(t = .nat∨t = .list∨t = .unit)→VT c (itOf r) t:=by
  intro r t h hb
  rcases hb with rfl | rfl | rfl <;> cases h
  ·exact .num
  ·exact .list
  ·exact .unit
 rcases plain_cases hp with hb | ⟨s,hb,rfl⟩
 ·exact base h hb
 ·cases h with
  | pair ha hb'=>exact .pair (base ha (.inl rfl)) (base hb' (by rcases hb with rfl | rfl <;> simp))
theorem VT_back {b:Nat} (hb:1024≤b) {c:List Ins} {y:It} {t:Ty} (h:VT c y t) (hp:t.plain) (hy:Bd b y):∃ q,y=itOf q∧RsT b q t∧SameD y q:=by
 have base:∀ {y:It} {t:Ty},VT c y t→Bd b y→(t = .nat∨t = .list∨t = .unit)→∃ q,y=itOf q∧RsT b q t∧SameD y q:=by
  intro y t h hy ht
  rcases ht with rfl | rfl | rfl <;> cases h
  ·rename_i n
   exact ⟨.num n,rfl,.num (by simpa [Bd] using hy),.num n⟩
  ·rename_i l
   simp only [Bd] at hy
   exact ⟨.list l,rfl,.list (by omega) hy.2,.list l⟩
  ·exact ⟨.unit,rfl,.unit,.unit⟩
 rcases plain_cases hp with hb' | ⟨s,hs,rfl⟩
 ·exact base h hy hb'
 ·cases h with
  | pair h1 h2 =>
   simp only [Bd] at hy
   obtain ⟨q1,rfl,a1,b1⟩:=base h1 hy.1 (.inl rfl)
   obtain ⟨q2,rfl,a2,b2⟩:=base h2 hy.2.1 (by rcases hs with rfl | rfl <;> simp)
   exact ⟨.pair q1 q2,rfl,.pair a1 a2,.pair b1 b2⟩
theorem okc_code {c:List Ins} (h:Okc c):∀ (p op a:Nat),c[p]? = some (op,a)→p≤1000000∧a≤1000000:=fun p op a hc=>⟨(h p op a hc).1,(h p op a hc).2.1⟩
theorem start38 {tm:Tm} {τ:Ty} (hT:HasTy [] tm τ) (hO:Okc (finC tm).code):∃ o,BlC (finC tm).code 20000 0 [] 0 0 o∧GoodR (finC tm).code 20000 0 0 τ 10 (.blk 0 [] []) o:=by
 obtain ⟨h1,h2⟩:=fin_TA tm
 have hct:CT (finC tm).code [] 0 [] τ:=by
  have:=TA_CT hT (s:=[]) (r:=τ) h1 (.ret h2)
  simpa using this
 obtain ⟨o,g1,g2⟩:=blk_all (c:=(finC tm).code) (l:=20000) (B:=10) (by omega) (okc_code hO) 20000 0 [] [] 0 0 [] [] τ (by omega) (by omega) (by omega) hct .nil trivial (by simp) .nil trivial (Nat.zero_le _)
 exact ⟨o,block_of _ 20000 (fun p op a h=>(okc_code hO p op a h).1) (by omega) [] 0 0 0 o (by omega) g1,g2⟩
theorem call38 {tm:Tm} (hO:Okc (finC tm).code) {f x:It} {a t:Ty} {s:Nat} (hs:s≤20000) (hf:VT (finC tm).code f (.fn a t)) (hx:VT (finC tm).code x a) (bf:Bd (10+s) f) (bx:Bd 10 x) :
  ∃ o,EnC (finC tm).code 20000 f x s 0 o∧GoodR (finC tm).code 20000 s 0 t 10 (.cal f x) o :=
 call_T (c:=(finC tm).code) (l:=20000) (B:=10) (by omega) (okc_code hO) (N:=20000) (blk_all (by omega) (okc_code hO) 20000) (by omega) hs (by omega) hf hx bf (bx.mono (by omega))
structure Ref (c:List Ins) (zs:List It) (q:Rs) (τ:Ty) (n:Nat):Prop where
 val:RsT 30000 q τ
 bd:Bd 30000 (itOf q)
 same:SameD (itOf q) q
 steps:n≤20000
 big:∃ f0 k0 d0,BB c (.blk 0 [] []) f0 k0 d0 true∧d0≤1024∧match zs with
  | [z] => ∃ k1 d1,BB c (.cal f0 z) (itOf q) k1 d1 true∧d1≤1024∧n=k0+k1
  | [z,z'] => ∃ k1 d1 f1 k2 d2,BB c (.cal f0 z) f1 k1 d1 true∧d1≤1024∧BB c (.cal f1 z') (itOf q) k2 d2 true∧d2≤1024∧n=k0+k1+k2
  | _=>False
def End22 (tm:Tm) (vs:List (List PV)) (zs:List It) (τ:Ty):Prop :=
 (∃ e:Nat,(e=4∨e=5)∧AC Tryz.prog gl 22 [.pv (.slice ((finC tm).code.map insP)),.pv (.slice vs),.pv (.int (20000:Nat))] [] (.ret (.pv (.tuple [.agg [.int 0,.int 0,.nils,.nils],.int 0,.int e]))) []) ∨
 ∃ q n,Ref (finC tm).code zs q τ n∧AC Tryz.prog gl 22 [.pv (.slice ((finC tm).code.map insP)),.pv (.slice vs),.pv (.int (20000:Nat))] [] (.ret (.pv (.tuple [.agg (valW q),.int n,.int 0]))) []
theorem end22_1 {tm:Tm} {s τ:Ty} {r:Rs} (hd:FunD tm [s] τ [r]) (hc:(finC tm).code.length≤4096):End22 tm [valM r] [itOf r] τ:=by
 obtain ⟨hr,hs⟩:=hd.each 0 r s rfl rfl
 have hz:=hd.size
 have hG:=goodC hd.ty hc (by omega)
 have hO:=fin_okc hd.ty hc (by omega)
 obtain ⟨t1,t2⟩:=fin_TA tm
 have sv:=valM_shape2 hr hs
 have hF:=fault_ok hG t1 t2 20000 (by omega)
 have hK:=ac_M hr hs (chk_ok (by omega) hr hs)
 have hC:=ac_M hr hs (cell38_ok (by omega) hr hs)
 have hb:=Bd_itOf (by omega) hr hs
 obtain ⟨o0,hB,g0⟩:=start38 hd.ty hO
 cases o0 with
 | err e s=>exact .inl ⟨e,g0,call38_1_e _ 20000 e (by rcases g0 with rfl | rfl <;> omega) _ sv (go38_1_0 _ 20000 _ sv hF hK e s (by rcases g0 with rfl | rfl <;> omega) hB)⟩
 | ok f0 s0 =>
  obtain ⟨v0,b0,l0,k0,d0,e0,e0',BB0⟩:=g0
  obtain ⟨o1,hE,g1⟩:=call38 hO l0 v0 (VT_itOf hr hs) b0 hb
  cases o1 with
  | err e s=>exact .inl ⟨e,g1,call38_1_e _ 20000 e (by rcases g1 with rfl | rfl <;> omega) _ sv (go38_1_1 _ 20000 _ sv hF hK f0 s0 hB _ hC e s (by rcases g1 with rfl | rfl <;> omega) hE)⟩
  | ok f1 s1 =>
   obtain ⟨v1,b1,l1,k1,d1,e1,e1',BB1⟩:=g1
   obtain ⟨q,rfl,hq,hsm⟩:=VT_back (b:=30000) (by omega) v1 hd.plain (b1.mono (by omega))
   have hV:=Value38_ok (by omega) hq hd.plain
   exact .inr ⟨q,s1,⟨hq,b1.mono (by omega),hsm,l1,f0,k0,d0,BB0,by omega,k1,d1,BB1,by omega,by omega⟩,call38_1_f _ 20000 s1 _ sv _ _ (rcC_shape _) (valW_shape2 hq hd.plain) (go38_1_f _ 20000 _ sv hF hK f0 s0 hB _ hC _ s1 hE) hV⟩
theorem end22_2 {tm:Tm} {s s' τ:Ty} {r r':Rs} (hd:FunD tm [s,s'] τ [r,r']) (hc:(finC tm).code.length≤4096):End22 tm [valM r,valM r'] [itOf r,itOf r'] τ:=by
 obtain ⟨hr,hs⟩:=hd.each 0 r s rfl rfl
 obtain ⟨hr',hs'⟩:=hd.each 1 r' s' rfl rfl
 have hz:=hd.size
 have hG:=goodC hd.ty hc (by omega)
 have hO:=fin_okc hd.ty hc (by omega)
 obtain ⟨t1,t2⟩:=fin_TA tm
 have sv:=valM_shape2 hr hs
 have sv':=valM_shape2 hr' hs'
 have hF:=fault_ok hG t1 t2 20000 (by omega)
 have hK:=ac_M hr hs (chk_ok (by omega) hr hs)
 have hC:=ac_M hr hs (cell38_ok (by omega) hr hs)
 have hb:=Bd_itOf (by omega) hr hs
 have hK':=ac_M hr' hs' (chk_ok (by omega) hr' hs')
 have hC':=ac_M hr' hs' (cell38_ok (by omega) hr' hs')
 have hb':=Bd_itOf (by omega) hr' hs'
 obtain ⟨o0,hB,g0⟩:=start38 hd.ty hO
 cases o0 with
 | err e s=>exact .inl ⟨e,g0,call38_2_e _ 20000 e (by rcases g0 with rfl | rfl <;> omega) _ _ sv sv' (go38_2_0 _ 20000 _ _ sv sv' hF hK hK' e s (by rcases g0 with rfl | rfl <;> omega) hB)⟩
 | ok f0 s0 =>
  obtain ⟨v0,b0,l0,k0,d0,e0,e0',BB0⟩:=g0
  obtain ⟨o1,hE,g1⟩:=call38 hO l0 v0 (VT_itOf hr hs) b0 hb
  cases o1 with
  | err e s=>exact .inl ⟨e,g1,call38_2_e _ 20000 e (by rcases g1 with rfl | rfl <;> omega) _ _ sv sv' (go38_2_1 _ 20000 _ _ sv sv' hF hK hK' f0 s0 hB _ hC e s (by rcases g1 with rfl | rfl <;> omega) hE)⟩
  | ok f1 s1 =>
   obtain ⟨v1,b1,l1,k1,d1,e1,e1',BB1⟩:=g1
   obtain ⟨o2,hE2,g2⟩:=call38 hO l1 v1 (VT_itOf hr' hs') b1 hb'
   cases o2 with
   | err e s=>exact .inl ⟨e,g2,call38_2_e _ 20000 e (by rcases g2 with rfl | rfl <;> omega) _ _ sv sv' (go38_2_2 _ 20000 _ _ sv sv' hF hK hK' f0 s0 hB _ hC f1 s1 hE _ hC' e s (by rcases g2 with rfl | rfl <;> omega) hE2)⟩
   | ok f2 s2 =>
    obtain ⟨v2,b2,l2,k2,d2,e2,e2',BB2⟩:=g2
    obtain ⟨q,rfl,hq,hsm⟩:=VT_back (b:=30000) (by omega) v2 hd.plain (b2.mono (by omega))
    have hV:=Value38_ok (by omega) hq hd.plain
    exact .inr ⟨q,s2,⟨hq,b2.mono (by omega),hsm,l2,f0,k0,d0,BB0,by omega,k1,d1,f1,k2,d2,BB1,by omega,BB2,by omega,by omega⟩,call38_2_f _ 20000 s2 _ _ sv sv' _ _ (rcC_shape _) (valW_shape2 hq hd.plain) (go38_2_f _ 20000 _ _ sv sv' hF hK hK' f0 s0 hB _ hC f1 s1 hE _ hC' _ s2 hE2) hV⟩
open Go.Lg
set_option maxHeartbeats 4000000
theorem fine_M {c:List Ins} (hO:Okc c) {zs:List It} {q:Rs} {τ:Ty} (hp:τ.plain) (hz:zs.length≤10) (hb:∀ a∈zs,Bd 10 a) {m m1:Mm} (h1:RunsM c 20000 mm0 (.stop m)) (h2:EntsM c 20000 m zs (.stop m1)) (h3:m1.stack=[itOf q]) (hq:RsT 30000 q τ) (hbd:Bd 30000 (itOf q)) (hs:SameD (itOf q) q) :
  AC Tryz.prog gl 84 [.loc 901 0,.pv (.slice (zs.map itC))] (gO0 c 20000) (.ret (.pv (.tuple [itP (itOf q),.int 0]))) [(901,mE c 20000 m1.steps),(980,tE m1.tab.hits)] ∧
  AC Tryz.prog gl 65 [.pv (itP (itOf q))] [] (.ret (.pv (.agg (itCell (itOf q))))) []∧AC Tryz.prog gl 15 [.pv (.agg (itCell (itOf q)))] [] (.ret (.pv (.tuple [.agg (valW q),.bool true]))) []:=by
 have hd:Dat (itOf q):=VT_dat (c:=c) hp (VT_itOf hq hp)
 exact ⟨go_args c 20000 10 hO zs (by omega) (by omega) hb m m1 _ (itOf q) h1 h2 (popM_eq (s:=[]) (by simpa using h3)),outside_ok hd hbd,value_ok (by omega) hq hs hp⟩
def End23 (tm:Tm) (vs:List (List PV)) (q:Rs) (n:Nat):Prop :=
 ∃ m h:Nat,AC Tryz.prog gl 23 [.pv (.slice ((finC tm).code.map insP)),.pv (.slice vs),.pv (.int (20000:Nat))] [] (.ret (.pv (.tuple [.agg (valW q),.int m,.int h,.int 0]))) []∧m≤n∧(h=0→m=n)
theorem end23_1 {tm:Tm} {s τ:Ty} {r q:Rs} {n:Nat} (hd:FunD tm [s] τ [r]) (hc:(finC tm).code.length≤4096) (hR:Ref (finC tm).code [itOf r] q τ n):End23 tm [valM r] q n:=by
 obtain ⟨hr,hs⟩:=hd.each 0 r s rfl rfl
 have hz:=hd.size
 have hG:=goodC hd.ty hc (by omega)
 have hO:=fin_okc hd.ty hc (by omega)
 have sv:=valM_shape2 hr hs
 have hF:=ac_M hr hs (from_ok (by omega) hr hs)
 have hb:∀ a∈[itOf r],Bd 10 a:=by intro a ha;simp at ha;subst ha;exact Bd_itOf (by omega) hr hs
 have hK:=rchk_1 _ 20000 (by omega) _ sv (codecheck_ok _ _ rfl (starts_ok _ hG)) (ac_M hr hs (vck_ok (by omega) hr hs))
 have hn:=hR.steps
 obtain ⟨f0,k0,d0,B0,hd0,k1,d1,B1,hd1,hnk⟩:=hR.big
 rcases start_M (l:=20000) B0 with ⟨e,-,-,hx⟩ | ⟨m,r1,r2,r3,g⟩
 ·exact absurd ⟨rfl,by omega,hd0⟩ hx
 ·have ghi:=g.hi
  have h0:mm0.steps=0:=rfl
  have h00:mm0.tab.hits=0:=rfl
  obtain ⟨m1,m2,m3,p1,p2,p3,p4,p5,g'⟩:=ent_M (l:=20000) B1 m r2 r3 g.ti (by omega) hd1
  obtain ⟨a1,a2,a3⟩:=fine_M hO hd.plain (zs:=[itOf r]) (by simp) hb r1 (.cons p1 p2 p3 .nil) p4 hR.val hR.bd hR.same
  have sw:=valW_shape2 hR.val hd.plain
  have ghi':=g'.hi
  have gg:=g.trans g'
  refine ⟨m3.steps,m3.tab.hits,mcall_1_f _ 20000 _ sv hK _ _ _ sw (mretd_1_f _ 20000 _ _ sv hF _ _ _ _ sw a1 a2 a3),by omega,fun hh => ?_⟩
  have:=gg.eq (by omega)
  omega
theorem end23_2 {tm:Tm} {s s' τ:Ty} {r r' q:Rs} {n:Nat} (hd:FunD tm [s,s'] τ [r,r']) (hc:(finC tm).code.length≤4096) (hR:Ref (finC tm).code [itOf r,itOf r'] q τ n):End23 tm [valM r,valM r'] q n:=by
 obtain ⟨hr,hs⟩:=hd.each 0 r s rfl rfl
 obtain ⟨hr',hs'⟩:=hd.each 1 r' s' rfl rfl
 have hz:=hd.size
 have hG:=goodC hd.ty hc (by omega)
 have hO:=fin_okc hd.ty hc (by omega)
 have sv:=valM_shape2 hr hs
 have hF:=ac_M hr hs (from_ok (by omega) hr hs)
 have sv':=valM_shape2 hr' hs'
 have hF':=ac_M hr' hs' (from_ok (by omega) hr' hs')
 have hb:∀ a∈[itOf r,itOf r'],Bd 10 a:=by
  intro a ha
  simp at ha
  rcases ha with rfl | rfl
  ·exact Bd_itOf (by omega) hr hs
  ·exact Bd_itOf (by omega) hr' hs'
 have hK:=rchk_2 _ 20000 (by omega) _ _ sv sv' (codecheck_ok _ _ rfl (starts_ok _ hG)) (ac_M hr hs (vck_ok (by omega) hr hs)) (ac_M hr' hs' (vck_ok (by omega) hr' hs'))
 have hn:=hR.steps
 obtain ⟨f0,k0,d0,B0,hd0,k1,d1,f1,k2,d2,B1,hd1,B2,hd2,hnk⟩:=hR.big
 rcases start_M (l:=20000) B0 with ⟨e,-,-,hx⟩ | ⟨m,r1,r2,r3,g⟩
 ·exact absurd ⟨rfl,by omega,hd0⟩ hx
 ·have ghi:=g.hi
  have h0:mm0.steps=0:=rfl
  have h00:mm0.tab.hits=0:=rfl
  obtain ⟨m1,m2,m3,p1,p2,p3,p4,p5,g'⟩:=ent_M (l:=20000) B1 m r2 r3 g.ti (by omega) hd1
  have ghi':=g'.hi
  obtain ⟨n1,n2,n3,q1,q2,q3,q4,q5,g''⟩:=ent_M (l:=20000) B2 m3 p4 p5 g'.ti (by omega) hd2
  obtain ⟨a1,a2,a3⟩:=fine_M hO hd.plain (zs:=[itOf r,itOf r']) (by simp) hb r1 (.cons p1 p2 p3 (.cons q1 q2 q3 .nil)) q4 hR.val hR.bd hR.same
  have sw:=valW_shape2 hR.val hd.plain
  have ghi'':=g''.hi
  have gg:=(g.trans g').trans g''
  refine ⟨n3.steps,n3.tab.hits,mcall_2_f _ 20000 _ _ sv sv' hK _ _ _ sw (mretd_2_f _ 20000 _ _ _ _ sv sv' hF hF' _ _ _ _ sw a1 a2 a3),by omega,fun hh => ?_⟩
  have:=gg.eq (by omega)
  omega
set_option maxRecDepth 10000
theorem vsameW_num (n:Nat):AC Tryz.prog gl 16 [.pv (.agg (valW (.num n))),.pv (.agg (valW (.num n)))] [] (.ret (.pv (.bool true))) []:=by
 have h:=ints_same [] (by simp)
 simp only [numsR,List.map_nil] at h
 simp only [valW]
 refine body [] Tryz.func16 Tryz.ntmps16 ?_
 refine gg ?_
 refine call h ?_
 refine gg ?_
 refine ex_loop 1 (ex_round ?_)
 refine gg ?_
 exact enC28
theorem vsameW_unit:AC Tryz.prog gl 16 [.pv (.agg (valW .unit)),.pv (.agg (valW .unit))] [] (.ret (.pv (.bool true))) []:=by
 have h:=ints_same [] (by simp)
 simp only [numsR,List.map_nil] at h
 simp only [valW]
 refine body [] Tryz.func16 Tryz.ntmps16 ?_
 refine gg ?_
 refine call h ?_
 refine gg ?_
 refine ex_loop 1 (ex_round ?_)
 refine gg ?_
 exact enC28
theorem vsameW_list (l:List Nat) (hl:l.length≤100000):AC Tryz.prog gl 16 [.pv (.agg (valW (.list l))),.pv (.agg (valW (.list l)))] [] (.ret (.pv (.bool true))) []:=by
 have h:=ints_same l hl
 simp only [valW]
 generalize numsR l=cc at *
 refine body [] Tryz.func16 Tryz.ntmps16 ?_
 refine gg ?_
 refine call h ?_
 refine gg ?_
 refine ex_loop 1 (ex_round ?_)
 refine gg ?_
 exact enC28
theorem vsameW_base {B:Nat} (hB:B≤100000) {r:Rs} {t:Ty} (h:RsT B r t) (hp:t = .nat∨t = .list∨t = .unit):AC Tryz.prog gl 16 [.pv (.agg (valW r)),.pv (.agg (valW r))] [] (.ret (.pv (.bool true))) []:=by
 rcases hp with rfl | rfl | rfl
 ·cases h;exact vsameW_num _
 ·cases h with
  | list h1 h2=>exact vsameW_list _ (by omega)
 ·cases h;exact vsameW_unit
theorem vsameW_pair {B:Nat} (hB:B≤100000) {a b:Rs} {s t:Ty} (ha:RsT B a s) (hb:RsT B b t) (hs:s = .nat∨s = .list∨s = .unit) (ht:t = .nat∨t = .list∨t = .unit) :
  AC Tryz.prog gl 16 [.pv (.agg (valW (.pair a b))),.pv (.agg (valW (.pair a b)))] [] (.ret (.pv (.bool true))) []:=by
 have h0:=ints_same [] (by simp)
 simp only [numsR,List.map_nil] at h0
 have h1:=vsameW_base hB ha hs
 have h2:=vsameW_base hB hb ht
 obtain ⟨k3,n3,s3,e3,o3⟩:=valW_shape ha hs
 obtain ⟨k4,n4,s4,e4,o4⟩:=valW_shape hb ht
 have w3:=vcells_one o3
 have w4:=vcells_one o4
 have v3:=onC28 o3
 have v4:=onC28 o4
 simp only [valW,e3,e4] at h1 h2 ⊢
 clear e3 e4
 refine body [] Tryz.func16 Tryz.ntmps16 ?_
 refine gg ?_
 refine call h0 ?_
 refine gg ?_
 refine ex_loop 3 (ex_round ?_)
 refine gg ?_
 refine call h1 ?_
 refine gg ?_
 refine ⟨by rfl,?_⟩
 refine gg ?_
 refine ex_round ?_
 refine gg ?_
 refine call h2 ?_
 refine gg ?_
 refine ⟨by rfl,?_⟩
 refine gg ?_
 refine ex_round ?_
 refine gg ?_
 exact enC28
theorem vsameW_ok {B:Nat} (hB:B≤100000) {r:Rs} {t:Ty} (h:RsT B r t) (hp:t.plain):AC Tryz.prog gl 16 [.pv (.agg (valW r)),.pv (.agg (valW r))] [] (.ret (.pv (.bool true))) []:=by
 rcases plain_cases hp with hp | ⟨s,hs,rfl⟩
 ·exact vsameW_base hB h hp
 ·cases h with
  | pair ha hb =>
   refine vsameW_pair hB ha hb (.inl rfl) ?_
   rcases hs with rfl | rfl
   ·exact .inr (.inl rfl)
   ·exact .inl rfl
theorem limits39_4:AC Tryz.prog gl 21 [.pv (.int 4)] [] (.ret (.pv (.bool true))) []:=by
 refine body [] Tryz.func21 Tryz.ntmps21 ?_
 refine gg ?_
 exact enC28
theorem limits39_5:AC Tryz.prog gl 21 [.pv (.int 5)] [] (.ret (.pv (.bool true))) []:=by
 refine body [] Tryz.func21 Tryz.ntmps21 ?_
 refine gg ?_
 exact enC28
end Go.Proofs.YtodjpfpmhjdhbaaGreatDoor
