/- Part of the proof: contracts of the types, terms, the generator and the compiler; no conditions. -/
import Derived.Test.YtodjpfpmhjdhbaaGreatDoorSameC28
import Derived.Test.YtodjpfpmhjdhbaaGreatDoorSameC26
import Derived.Test.YtodjpfpmhjdhbaaGreatDoorSameC23
set_option linter.unusedVariables false
set_option linter.unusedSimpArgs false
set_option linter.unusedSectionVars false
theorem Go.Proofs.YtodjpfpmhjdhbaaGreatDoor.onC29 {s : Go.Lg.PV} (h : s.one = true) : (Go.Lg.V.pv s).one = true := by rw [Go.Lg.one_pv]; exact h
namespace Go.Proofs.YtodjpfpmhjdhbaaGreatDoor
open Go.Lg
theorem enC29 {P Q : Prop} (h : P := by simp [retIs,resV,resL,resOne,mkTup,getS,getO,rdV,mkAgg,unL,V.un,TI.isAgg,XX_T,tt41,Tryz.f5,tt30,Tryz.f28,Tryz.f29,tt27,Tryz.f32,Tryz.f57,tt47,Tryz.f20]) (k : Q := by simp [subO,getO,tt41,Tryz.f5,tt30,Tryz.f28,Tryz.f29,tt27,Tryz.f32,Tryz.f57,tt47,Tryz.f20]) : P ∧ Q := ⟨h,k⟩
end Go.Proofs.YtodjpfpmhjdhbaaGreatDoor
/- The law MemoSame. -/
namespace Go.Proofs.YtodjpfpmhjdhbaaGreatDoor
open Go.Lg
set_option maxRecDepth 10000
set_option maxHeartbeats 4000000
theorem many39 (h1:AC Tryz.prog gl 20 [] [] (.ret (.pv (.bool true))) []) (L:List Int) (hL:¬ L.length≤500):AC Tryz.prog gl 5 [.pv (.slice (ints L))] [] (.ret (.pv (.bool true))) []:=by
 have h2:=few_ok L
 have e:decide (L.length≤500)=false:=by simp [hL]
 rw [e] at h2
 generalize ints L=cc at *
 refine body [] Tryz.func5 Tryz.ntmps5 ?_
 refine gg ?_
 refine call h1 ?_
 refine gg ?_
 refine call h2 ?_
 refine gg ?_
 refine call h1 ?_
 refine gg ?_
 exact enC29
theorem slong (h1:AC Tryz.prog gl 20 [] [] (.ret (.pv (.bool true))) []) (L:List Int) (hL:L.length≤500) (tm:Tm) (vs:List (List PV)) (at':Nat) (h4:AC Tryz.prog gl 17 [.loc 900 0] (deck L 0) (.ret (.pv (.tuple [.agg tm.cells,.slice vs]))) (deck L at')) (h5:AC Tryz.prog gl 11 [.pv (.agg tm.cells)] [] (.ret (.pv (.tuple [.slice [],.int 4]))) []):AC Tryz.prog gl 5 [.pv (.slice (ints L))] [] (.ret (.pv (.bool true))) []:=by
 have h2:=few_ok L
 have h3:=new_ok L
 have l4:=limits39_4
 have ed:decide (L.length≤500)=true:=by simp [hL]
 rw [ed] at h2
 rw [tm.cells_eq] at h4 h5
 unfold deck at *
 generalize ints L=cc at *
 generalize tm.kind=tk at *
 generalize tm.idx=ti at *
 generalize tm.ty.kind=tyk at *
 generalize tm.ty.args.map Ty.cells=tya at *
 generalize tm.args.map Tm.cells=tma at *
 refine body [] Tryz.func5 Tryz.ntmps5 ?_
 refine gg ?_
 refine call h1 ?_
 refine gg ?_
 refine call h2 ?_
 refine gg ?_
 refine call h3 ?_
 refine gg ?_
 refine call h4 ?_
 refine gg ?_
 refine call h5 ?_
 refine gg ?_
 refine call l4 ?_
 refine gg ?_
 exact enC29
theorem sfails (h1:AC Tryz.prog gl 20 [] [] (.ret (.pv (.bool true))) []) (L:List Int) (hL:L.length≤500) (tm:Tm) (vs:List (List PV)) (at':Nat) (h4:AC Tryz.prog gl 17 [.loc 900 0] (deck L 0) (.ret (.pv (.tuple [.agg tm.cells,.slice vs]))) (deck L at')) (pc:List (List PV)) (h5:AC Tryz.prog gl 11 [.pv (.agg tm.cells)] [] (.ret (.pv (.tuple [.slice pc,.int 0]))) [])
  (e:Nat) (he:e=4∨e=5) (h6:AC Tryz.prog gl 22 [.pv (.slice pc),.pv (.slice vs),.pv (.int 20000)] [] (.ret (.pv (.tuple [.agg [.int 0,.int 0,.nils,.nils],.int 0,.int e]))) []):AC Tryz.prog gl 5 [.pv (.slice (ints L))] [] (.ret (.pv (.bool true))) []:=by
 have h2:=few_ok L
 have h3:=new_ok L
 have l4:AC Tryz.prog gl 21 [.pv (.int e)] [] (.ret (.pv (.bool true))) []:=by
  rcases he with rfl | rfl
  ·exact limits39_4
  ·exact limits39_5
 have e0:¬ (e:Int)=0:=by omega
 have ed:decide (L.length≤500)=true:=by simp [hL]
 rw [ed] at h2
 rw [tm.cells_eq] at h4 h5
 unfold deck at *
 generalize ints L=cc at *
 generalize tm.kind=tk at *
 generalize tm.idx=ti at *
 generalize tm.ty.kind=tyk at *
 generalize tm.ty.args.map Ty.cells=tya at *
 generalize tm.args.map Tm.cells=tma at *
 clear he
 refine body [] Tryz.func5 Tryz.ntmps5 ?_
 refine gg ?_
 refine call h1 ?_
 refine gg ?_
 refine call h2 ?_
 refine gg ?_
 refine call h3 ?_
 refine gg ?_
 refine call h4 ?_
 refine gg ?_
 refine call h5 ?_
 refine gg ?_
 refine call h6 ?_
 refine gg ?_
 refine call l4 ?_
 refine gg ?_
 exact enC29
theorem sfine (h1:AC Tryz.prog gl 20 [] [] (.ret (.pv (.bool true))) []) (L:List Int) (hL:L.length≤500) (tm:Tm) (vs:List (List PV)) (at':Nat) (h4:AC Tryz.prog gl 17 [.loc 900 0] (deck L 0) (.ret (.pv (.tuple [.agg tm.cells,.slice vs]))) (deck L at')) (pc:List (List PV)) (h5:AC Tryz.prog gl 11 [.pv (.agg tm.cells)] [] (.ret (.pv (.tuple [.slice pc,.int 0]))) [])
  (v:List PV) (n:Nat) (sv:∃ k m s q,v=[.int k,.int m,s,q]∧s.one=true∧q.one=true) (h6:AC Tryz.prog gl 22 [.pv (.slice pc),.pv (.slice vs),.pv (.int 20000)] [] (.ret (.pv (.tuple [.agg v,.int n,.int 0]))) [])
  (m h:Nat) (hmn:m≤n) (hh:h=0→m=n) (h7:AC Tryz.prog gl 23 [.pv (.slice pc),.pv (.slice vs),.pv (.int 20000)] [] (.ret (.pv (.tuple [.agg v,.int m,.int h,.int 0]))) [])
  (h9:AC Tryz.prog gl 16 [.pv (.agg v),.pv (.agg v)] [] (.ret (.pv (.bool true))) []):AC Tryz.prog gl 5 [.pv (.slice (ints L))] [] (.ret (.pv (.bool true))) []:=by
 have h2:=few_ok L
 have h3:=new_ok L
 have ed:decide (L.length≤500)=true:=by simp [hL]
 rw [ed] at h2
 obtain ⟨k,j,s,q,rfl,o1,o2⟩:=sv
 have w1:=vcells_one o1
 have w2:=vcells_one o2
 have v1:=onC29 o1
 have v2:=onC29 o2
 have x1:(m:Int)≤(n:Int):=by omega
 have x2:(0:Int)≤(h:Int):=by omega
 rw [tm.cells_eq] at h4 h5
 unfold deck at *
 generalize ints L=cc at *
 generalize tm.kind=tk at *
 generalize tm.idx=ti at *
 generalize tm.ty.kind=tyk at *
 generalize tm.ty.args.map Ty.cells=tya at *
 generalize tm.args.map Tm.cells=tma at *
 by_cases h0:h=0
 ·obtain rfl:=hh h0
  subst h0
  clear hh hmn
  simp only [Int.natCast_zero] at *
  refine body [] Tryz.func5 Tryz.ntmps5 ?_
  refine gg ?_
  refine call h1 ?_
  refine gg ?_
  refine call h2 ?_
  refine gg ?_
  refine call h3 ?_
  refine gg ?_
  refine call h4 ?_
  refine gg ?_
  refine call h5 ?_
  refine gg ?_
  refine call h6 ?_
  refine gg ?_
  refine call h7 ?_
  refine gg ?_
  refine call h9 ?_
  refine gg ?_
  exact enC29
 ·have x3:(0:Int)<(h:Int):=by omega
  clear hh hmn h0
  refine body [] Tryz.func5 Tryz.ntmps5 ?_
  refine gg ?_
  refine call h1 ?_
  refine gg ?_
  refine call h2 ?_
  refine gg ?_
  refine call h3 ?_
  refine gg ?_
  refine call h4 ?_
  refine gg ?_
  refine call h5 ?_
  refine gg ?_
  refine call h6 ?_
  refine gg ?_
  refine call h7 ?_
  refine gg ?_
  refine call h9 ?_
  refine gg ?_
  exact enC29
theorem same_law (h1:AC Tryz.prog gl 20 [] [] (.ret (.pv (.bool true))) []) (L:List Int) (hL:L.length≤500) {tm:Tm} {ss:List Ty} {τ:Ty} {rs:List Rs} (hd:FunD tm ss τ rs) (vs:List (List PV)) (zs:List It) (at':Nat) (h4:AC Tryz.prog gl 17 [.loc 900 0] (deck L 0) (.ret (.pv (.tuple [.agg tm.cells,.slice vs]))) (deck L at'))
  (h6:(finC tm).code.length≤4096→End22 tm vs zs τ) (h7:∀ q n,(finC tm).code.length≤4096→Ref (finC tm).code zs q τ n→End23 tm vs q n):AC Tryz.prog gl 5 [.pv (.slice (ints L))] [] (.ret (.pv (.bool true))) []:=by
 have hz:=hd.size
 have h5:=compile_ok tm hd.wf (by omega)
 by_cases hc:(finC tm).code.length≤4096
 ·rw [if_pos hc,if_pos hc] at h5
  rcases h6 hc with ⟨e,he,h⟩ | ⟨q,n,hR,h⟩
  ·exact sfails h1 L hL tm vs at' h4 _ h5 e he h
  ·obtain ⟨m,hits,g,g1,g2⟩:=h7 q n hc hR
   exact sfine h1 L hL tm vs at' h4 _ h5 _ n (valW_shape2 hR.val hd.plain) h m hits g1 g2 g (vsameW_ok (by omega) hR.val hd.plain)
 ·rw [if_neg hc,if_neg hc] at h5
  exact slong h1 L hL tm vs at' h4 h5
theorem law_same (h1:AC Tryz.prog gl 20 [] [] (.ret (.pv (.bool true))) []) (L:List Int):AC Tryz.prog gl 5 [.pv (.slice (ints L))] [] (.ret (.pv (.bool true))) []:=by
 by_cases hL:L.length≤500
 ·have hn:=nxv_lt L 0 2 (by omega)
  have:nxv L 0 2=0∨nxv L 0 2=1:=by omega
  rcases this with e | e
  ·obtain ⟨tm,s,τ,r,at',hd,h4⟩:=fun_1 L hL 0 e
   exact same_law h1 L hL hd _ _ at' h4 (fun hc=>end22_1 hd hc) (fun q n hc hR=>end23_1 hd hc hR)
  ·obtain ⟨tm,s,s',τ,r,r',at',hd,h4⟩:=fun_2 L hL 0 e
   exact same_law h1 L hL hd _ _ at' h4 (fun hc=>end22_2 hd hc) (fun q n hc hR=>end23_2 hd hc hR)
 ·exact many39 h1 L hL
def twT:Tm:=.app (.lam (.fn .nat .nat) (.pair (.app (.var 0) (numT 3)) (.app (.var 0) (numT 3)))) (.lam .nat (.succ (.var 0)))
def twC:List Ins:=[(2,4),(2,18),(3,0),(14,0),(1,0),(4,0),(5,0),(5,0),(5,0),(3,0),(1,0),(4,0),(5,0),(5,0),
 (5,0),(3,0),(10,0),(14,0),(1,0),(5,0),(14,0)]
theorem tw_code:(finC twT).code=twC:=by decide
theorem tw_run:∃ m,RunsM twC 100 mm0 (.stop m)∧m.stack=[.pair (.num 4) (.num 4)]∧m.steps=21∧m.tab.hits=1 :=
 ⟨_,.go rfl (.go rfl (.go rfl (.go rfl (.go rfl (.go rfl (.go rfl (.go rfl (.go rfl (.go rfl (.go rfl (.go rfl (.go rfl (.go rfl (.go rfl (.go rfl (.go rfl (.go rfl (.go rfl (.go rfl (.stop rfl)))))))))))))))))))),rfl,rfl,rfl⟩
theorem tw_typed:HasTy [] twT (.pair .nat .nat) :=
 .app (.lam (.pair (.app (.var rfl) (.succ (.succ (.succ .zero)))) (.app (.var rfl) (.succ (.succ (.succ .zero)))))) (.lam (.succ (.var rfl)))
theorem tw_wf:twT.wf=true:=by decide
theorem tw_size:twT.size≤30:=by decide
theorem tw_good:GoodC twC:=by
 have:=goodC tw_typed (by rw [tw_code];decide) (by have:=tw_size;omega)
 rw [tw_code] at this
 exact this
theorem tw_okc:Okc twC:=by
 have:=fin_okc tw_typed (by rw [tw_code];decide) (by have:=tw_size;omega)
 rw [tw_code] at this
 exact this
theorem tw_p (p op a:Nat) (h:twC[p]? = some (op,a)):p≤1000000:=(tw_okc p op a h).1
theorem nx {vs:List It} {d p:Nat} {st:List It} {s:Nat} {o:Oc} (stk args:List It) (op a:Nat) (y:It) (s':Nat) (hc:twC[p]? = some (op,a)) (hst:st=stk++args) (hs:s<100) (h1:1≤op) (h2:op≤13) (h3:takesP op=args.length)
  (hd:DoC twC 100 op a args vs (s+1) d (.ok y s')) (hle:s+1≤s') (h:BlS twC 100 vs d (p+1) (stk++[y]) s' o):BlS twC 100 vs d p st s o:=by
 subst hst
 exact .next hs hc h1 h2 h3 hd hle h
theorem b18 (n s d:Nat) (hs:s+3≤100) (hn:n≤1000):BlS twC 100 [.num n] d 18 [] s (.ok (.num (n+1)) (s+3)):=by
 refine nx [] [] 1 0 (.num n) (s+1) rfl rfl (by omega) (by omega) (by omega) rfl (do_var _ _ _ _ _ 0 _ rfl (by simp) (by omega)) (by omega) ?_
 refine nx [] [.num n] 5 0 (.num (n+1)) (s+2) rfl rfl (by omega) (by omega) (by omega) rfl (do_succ _ _ _ _ _ n (by omega)) (by omega) ?_
 exact .ret (stk:=[]) (s:=s+2) (by omega) rfl
theorem e18 (n s d:Nat) (hs:s+3≤100) (hn:n≤1000) (hd:d<1000):EnC twC 100 (.fn 18 []) (.num n) s d (.ok (.num (n+1)) (s+3)) :=
 enter_ok twC 100 18 [] _ _ s _ d (by omega) (by decide) (block_of twC 100 tw_p (by omega) _ _ _ _ _ (by omega) (b18 n s (d+1) hs hn))
theorem b4:BlS twC 100 [.fn 18 []] 1 4 [] 3 (.ok (.pair (.num 4) (.num 4)) 23):=by
 refine nx [] [] 1 0 (.fn 18 []) 4 rfl rfl (by omega) (by omega) (by omega) rfl (do_var _ _ _ _ _ 0 _ rfl (by decide) (by omega)) (by omega) ?_
 refine nx [.fn 18 []] [] 4 0 (.num 0) 5 rfl rfl (by omega) (by omega) (by omega) rfl (do_zero _ _ _ _ _) (by omega) ?_
 refine nx [.fn 18 []] [.num 0] 5 0 (.num 1) 6 rfl rfl (by omega) (by omega) (by omega) rfl (do_succ _ _ _ _ _ _ (by omega)) (by omega) ?_
 refine nx [.fn 18 []] [.num 1] 5 0 (.num 2) 7 rfl rfl (by omega) (by omega) (by omega) rfl (do_succ _ _ _ _ _ _ (by omega)) (by omega) ?_
 refine nx [.fn 18 []] [.num 2] 5 0 (.num 3) 8 rfl rfl (by omega) (by omega) (by omega) rfl (do_succ _ _ _ _ _ _ (by omega)) (by omega) ?_
 refine nx [] [.fn 18 [],.num 3] 3 0 (.num 4) 12 rfl rfl (by omega) (by omega) (by omega) rfl (do_app _ _ _ _ _ _ _ _ (e18 3 9 1 (by omega) (by omega) (by omega))) (by omega) ?_
 refine nx [.num 4] [] 1 0 (.fn 18 []) 13 rfl rfl (by omega) (by omega) (by omega) rfl (do_var _ _ _ _ _ 0 _ rfl (by decide) (by omega)) (by omega) ?_
 refine nx [.num 4,.fn 18 []] [] 4 0 (.num 0) 14 rfl rfl (by omega) (by omega) (by omega) rfl (do_zero _ _ _ _ _) (by omega) ?_
 refine nx [.num 4,.fn 18 []] [.num 0] 5 0 (.num 1) 15 rfl rfl (by omega) (by omega) (by omega) rfl (do_succ _ _ _ _ _ _ (by omega)) (by omega) ?_
 refine nx [.num 4,.fn 18 []] [.num 1] 5 0 (.num 2) 16 rfl rfl (by omega) (by omega) (by omega) rfl (do_succ _ _ _ _ _ _ (by omega)) (by omega) ?_
 refine nx [.num 4,.fn 18 []] [.num 2] 5 0 (.num 3) 17 rfl rfl (by omega) (by omega) (by omega) rfl (do_succ _ _ _ _ _ _ (by omega)) (by omega) ?_
 refine nx [.num 4] [.fn 18 [],.num 3] 3 0 (.num 4) 21 rfl rfl (by omega) (by omega) (by omega) rfl (do_app _ _ _ _ _ _ _ _ (e18 3 18 1 (by omega) (by omega) (by omega))) (by omega) ?_
 refine nx [] [.num 4,.num 4] 10 0 (.pair (.num 4) (.num 4)) 22 rfl rfl (by omega) (by omega) (by omega) rfl (do_pair (b:=10) _ _ _ _ _ _ _ (by simp [Bd]) (by simp [Bd]) (by simp [It.more])) (by omega) ?_
 exact .ret (stk:=[]) (s:=22) (by omega) rfl
theorem tw38:BlC twC 100 0 [] 0 0 (.ok (.pair (.num 4) (.num 4)) 24):=by
 refine block_of twC 100 tw_p (by omega) _ _ _ _ _ (by omega) ?_
 refine nx [] [] 2 4 (.fn 4 []) 1 rfl rfl (by omega) (by omega) (by omega) rfl (do_fun (b:=10) _ _ _ _ _ _ trivial (by decide) (by decide)) (by omega) ?_
 refine nx [.fn 4 []] [] 2 18 (.fn 18 []) 2 rfl rfl (by omega) (by omega) (by omega) rfl (do_fun (b:=10) _ _ _ _ _ _ trivial (by decide) (by decide)) (by omega) ?_
 refine nx [] [.fn 4 [],.fn 18 []] 3 0 (.pair (.num 4) (.num 4)) 23 rfl rfl (by omega) (by omega) (by omega) rfl (do_app _ _ _ _ _ _ _ _ (enter_ok twC 100 4 [] _ _ 3 _ 0 (by omega) (by decide) (block_of twC 100 tw_p (by omega) _ _ _ _ _ (by omega) b4))) (by omega) ?_
 exact .ret (stk:=[]) (s:=23) (by omega) rfl
def twV:It:=.pair (.num 4) (.num 4)
def twQ:Rs:=.pair (.num 4) (.num 4)
theorem run38_tw:AC Tryz.prog gl 56 [.pv (.slice (twC.map insP)),.pv (.int 100)] [] (.ret (.pv (.tuple [.agg (rcC twV),.int 24,.int 0]))) []:=by
 have hF:AC Tryz.prog gl 91 [.pv (.slice (twC.map insP)),.pv (.int (100:Nat))] [] (.ret (.pv (.int 0))) []:=by
  have h:=fin_TA twT
  rw [tw_code] at h
  exact fault_ok tw_good h.1 h.2 100 (by omega)
 exact run38_f _ 100 24 _ (rcC_shape _) (go38_0_f twC 100 hF _ 24 tw38)
theorem tw_go:∃ m:Mm,m.steps=21∧m.tab.hits=1∧AC Tryz.prog gl 84 [.loc 901 0,.pv (.slice [])] (gO0 twC 100) (.ret (.pv (.tuple [itP twV,.int 0]))) [(901,mE twC 100 21),(980,tE 1)]:=by
 obtain ⟨m,h1,h2,h3,h4⟩:=tw_run
 have:=go_args twC 100 10 tw_okc [] (by simp) (by simp) (by simp) m m _ twV h1 .nil (popM_eq (s:=[]) (by simpa [twV] using h2))
 rw [h3,h4] at this
 exact ⟨m,h3,h4,this⟩
theorem tw_check:AC Tryz.prog gl 41 [.pv (.slice (twC.map insP)),.pv (.slice []),.pv (.int (100:Nat))] [] (.ret (.pv (.int 0))) []:=runcheck_ok _ 100 (by omega) (codecheck_ok _ _ rfl (starts_ok twC tw_good))
theorem tw_dat:Dat twV:=.pair (.num _) (.num _)
theorem tw_bd:Bd 10 twV:=by simp [twV,Bd,It.more]
theorem tw_out:AC Tryz.prog gl 65 [.pv (itP twV)] [] (.ret (.pv (.agg (itCell twV)))) []:=outside_ok tw_dat tw_bd
theorem tw_rs:RsT 10 twQ (.pair .nat .nat):=.pair (.num (by omega)) (.num (by omega))
theorem runM_tw:AC Tryz.prog gl 33 [.pv (.slice (twC.map insP)),.pv (.int 100)] [] (.ret (.pv (.tuple [.agg (itCell twV),.int 21,.int 1,.int 0]))) []:=by
 obtain ⟨m,-,-,h⟩:=tw_go
 exact mrun_fine twC 100 21 1 twV tw_check (mresult_fine twC 100 21 1 twV h tw_out)
theorem callM_tw:AC Tryz.prog gl 23 [.pv (.slice (twC.map insP)),.pv (.slice []),.pv (.int 100)] [] (.ret (.pv (.tuple [.agg (valW twQ),.int 21,.int 1,.int 0]))) []:=by
 obtain ⟨m,-,-,h⟩:=tw_go
 have hp:(Ty.pair .nat .nat).plain:=.inr (.inr rfl)
 have sw:=valW_shape2 tw_rs hp
 exact mcall_0_f twC 100 tw_check 21 1 _ sw (mretd_0_f twC 100 twV 21 1 _ sw h tw_out (value_ok (by omega) tw_rs (.pair (.num _) (.num _)) hp))
open Go.Lg
set_option maxRecDepth 10000
set_option maxHeartbeats 4000000
theorem node5_ok (b:Tm):AC Tryz.prog gl 28 [.pv (.int 5),.pv (.slice [b.cells])] [] (.ret (.pv (.agg (Tm.succ b).cells))) []:=by
 rw [Tm.cells_eq (.succ b)]
 simp only [Tm.kind,Tm.idx,Tm.ty,Tm.args,Ty.cells,List.map_cons,List.map_nil]
 simp only [Ty.kind,Ty.args,List.map_nil]
 generalize b.cells=cb at *
 refine body [] Tryz.func28 Tryz.ntmps28 ?_
 refine gg ?_
 exact enC29
theorem node3_ok (a b:Tm):AC Tryz.prog gl 28 [.pv (.int 3),.pv (.slice [a.cells,b.cells])] [] (.ret (.pv (.agg (Tm.app a b).cells))) []:=by
 rw [Tm.cells_eq (.app a b)]
 simp only [Tm.kind,Tm.idx,Tm.ty,Tm.args,Ty.cells,List.map_cons,List.map_nil]
 simp only [Ty.kind,Ty.args,List.map_nil]
 generalize a.cells=ca at *
 generalize b.cells=cb at *
 refine body [] Tryz.func28 Tryz.ntmps28 ?_
 refine gg ?_
 exact enC29
theorem app24_ok (a b:Tm):AC Tryz.prog gl 29 [.pv (.agg a.cells),.pv (.agg b.cells)] [] (.ret (.pv (.agg (Tm.app a b).cells))) []:=by
 have h:=node3_ok a b
 rw [Tm.cells_eq (.app a b)] at *
 simp only [Tm.kind,Tm.idx,Tm.ty,Tm.args,List.map_cons,List.map_nil] at *
 rw [Tm.cells_eq a,Tm.cells_eq b] at *
 generalize a.args.map Tm.cells=aa at *
 generalize b.args.map Tm.cells=ba at *
 generalize a.ty.args.map Ty.cells=at' at *
 generalize b.ty.args.map Ty.cells=bt at *
 refine body [] Tryz.func29 Tryz.ntmps29 ?_
 refine gg ?_
 refine call h ?_
 refine gg ?_
 exact enC29
theorem fun23_ok (s t:Ty):AC Tryz.prog gl 32 [.pv (.agg s.cells),.pv (.agg t.cells)] [] (.ret (.pv (.agg (Ty.fn s t).cells))) []:=by
 rw [Ty.cells_eq (.fn s t)]
 simp only [Ty.kind,Ty.args,List.map_cons,List.map_nil]
 rw [Ty.cells_eq s,Ty.cells_eq t]
 generalize s.args.map Ty.cells=sa at *
 generalize t.args.map Ty.cells=ta at *
 refine body [] Tryz.func32 Tryz.ntmps32 ?_
 refine gg ?_
 exact enC29
theorem same38_num (n:Nat):AC Tryz.prog gl 57 [.pv (.agg (itCell (.num n))),.pv (.agg (rcC (.num n)))] [] (.ret (.pv (.bool true))) []:=by
 simp only [itCell,rcC]
 refine body [] Tryz.func57 Tryz.ntmps57 ?_
 refine gg ?_
 refine ex_loop 1 (ex_round ?_)
 refine gg ?_
 refine ex_loop 1 (ex_round ?_)
 refine gg ?_
 exact enC29
theorem same38_tw:AC Tryz.prog gl 57 [.pv (.agg (itCell twV)),.pv (.agg (rcC twV))] [] (.ret (.pv (.bool true))) []:=by
 have h:=same38_num 4
 simp only [twV,itCell,rcC,Int.cast_ofNat_Int] at h ⊢
 refine body [] Tryz.func57 Tryz.ntmps57 ?_
 refine gg ?_
 refine ex_loop 1 (ex_round ?_)
 refine gg ?_
 refine ex_loop 3 (ex_round ?_)
 refine gg ?_
 refine call h ?_
 refine gg ?_
 refine ⟨by rfl,?_⟩
 refine gg ?_
 refine ex_round ?_
 refine gg ?_
 refine call h ?_
 refine gg ?_
 refine ⟨by rfl,?_⟩
 refine gg ?_
 refine ex_round ?_
 refine gg ?_
 exact enC29
theorem awake39_ok:AC Tryz.prog gl 20 [] [] (.ret (.pv (.bool true))) []:=by
 have v0:=var24_ok 0
 have n5:=node5_ok (.var 0)
 have l1:=lam24_ok .nat (.succ (.var 0))
 have n3:=num_ok 3 (by omega)
 have a1:=app24_ok (.var 0) (numT 3)
 have n10:=node_ok (.app (.var 0) (numT 3)) (.app (.var 0) (numT 3))
 have f1:=fun23_ok .nat .nat
 have l2:=lam24_ok (.fn .nat .nat) (.pair (.app (.var 0) (numT 3)) (.app (.var 0) (numT 3)))
 have a2:=app24_ok (.lam (.fn .nat .nat) (.pair (.app (.var 0) (numT 3)) (.app (.var 0) (numT 3)))) (.lam .nat (.succ (.var 0)))
 have c1:=compile_ok twT tw_wf (by have:=tw_size;omega)
 have hle:twC.length≤4096:=by decide
 rw [tw_code,if_pos hle,if_pos hle] at c1
 have r1:=runM_tw
 have r2:=callM_tw
 have r3:=run38_tw
 have s1:=same38_tw
 clear hle
 generalize twC.map insP=cc at *
 simp only [twT,twV,twQ,itCell,rcC,valW,Tm.cells,Tm.node,Tm.kind,Tm.idx,Tm.ty,Tm.args,Ty.cells,Ty.kind,Ty.args,List.map_cons,List.map_nil,Int.cast_ofNat_Int,Int.natCast_zero] at *
 obtain ⟨ca,e3⟩:∃ ca,(numT 3).cells=[.int 5,.int 0,.int 0,.slice [],.slice ca]:=⟨_,rfl⟩
 simp only [e3] at *
 clear e3
 refine body [] Tryz.func20 Tryz.ntmps20 ?_
 refine gg ?_
 refine call v0 ?_
 refine gg ?_
 refine call n5 ?_
 refine gg ?_
 refine call l1 ?_
 refine gg ?_
 refine ⟨by rfl,?_⟩
 refine gg ?_
 refine call v0 ?_
 refine gg ?_
 refine call n3 ?_
 refine gg ?_
 refine call a1 ?_
 refine gg ?_
 refine call v0 ?_
 refine gg ?_
 refine call n3 ?_
 refine gg ?_
 refine call a1 ?_
 refine gg ?_
 refine call n10 ?_
 refine gg ?_
 refine call f1 ?_
 refine gg ?_
 refine call l2 ?_
 refine gg ?_
 refine call a2 ?_
 refine gg ?_
 refine call c1 ?_
 refine gg ?_
 refine ⟨by rfl,?_⟩
 refine gg ?_
 refine call r1 ?_
 refine gg ?_
 refine call r2 ?_
 refine gg ?_
 refine call r3 ?_
 refine gg ?_
 refine call s1 ?_
 refine gg ?_
 exact enC29
theorem law_memo (L:List Int):AC Tryz.prog gl 5 [.pv (.slice (ints L))] [] (.ret (.pv (.bool true))) []:=law_same awake39_ok L
end Go.Proofs.YtodjpfpmhjdhbaaGreatDoor
