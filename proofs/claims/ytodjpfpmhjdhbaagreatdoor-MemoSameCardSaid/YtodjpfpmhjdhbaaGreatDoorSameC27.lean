/- Part of the proof: contracts of the types, terms, the generator and the compiler; no conditions. -/
import Derived.Test.YtodjpfpmhjdhbaaGreatDoorSameC19
import Derived.Test.YtodjpfpmhjdhbaaGreatDoorSameC24
import Derived.Test.YtodjpfpmhjdhbaaGreatDoorSameC26
import Derived.Test.YtodjpfpmhjdhbaaGreatDoorSameC22
set_option linter.unusedVariables false
set_option linter.unusedSimpArgs false
set_option linter.unusedSectionVars false
theorem Go.Proofs.YtodjpfpmhjdhbaaGreatDoor.onC27 {s : Go.Lg.PV} (h : s.one = true) : (Go.Lg.V.pv s).one = true := by rw [Go.Lg.one_pv]; exact h
namespace Go.Proofs.YtodjpfpmhjdhbaaGreatDoor
open Go.Lg
theorem enC27 {P Q : Prop} (h : P := by simp [retIs,resV,resL,resOne,mkTup,getS,getO,rdV,mkAgg,unL,V.un,TI.isAgg,XX_T,tt84,Tryz.f59,tt47,Tryz.f42,Tryz.f33,tt41,Tryz.f55,Tryz.f23,tt30,Tryz.f41,Tryz.f94,Tryz.f63,Tryz.f34]) (k : Q := by simp [subO,getO,tt84,Tryz.f59,tt47,Tryz.f42,Tryz.f33,tt41,Tryz.f55,Tryz.f23,tt30,Tryz.f41,Tryz.f94,Tryz.f63,Tryz.f34]) : P ∧ Q := ⟨h,k⟩
end Go.Proofs.YtodjpfpmhjdhbaaGreatDoor
/- memo: a machine with an empty table; its result. -/
namespace Go.Proofs.YtodjpfpmhjdhbaaGreatDoor
open Go.Lg
set_option maxRecDepth 10000
set_option maxHeartbeats 4000000
theorem vc_bfn (f:Nat) (l:List V):vcells (.bfn f l)=some [.bfn f l]:=rfl
theorem vo_bfn (f:Nat) (l:List V):(V.bfn f l).one=true:=rfl
theorem un_bfn (f:Nat) (l:List V):V.un (.bfn f l)=none:=rfl
theorem gO0_ex (c:List Ins) (l:Nat):gO0 c l=[(901,mB0 c l),(980,tB 0),(981,.imap []),(982,.cache (DI []) (FI [])),(983,.cache (DL []) (FL [])),(984,.cache (DV []) (FV [])),(985,.imap [])]:=rfl
theorem machine_ok (c:List Ins) (l:Nat):AC Tryz.prog gl 59 [.pv (.slice (c.map insP)),.pv (.int l)] [] (.ret (.tuple [.loc 901 0,.loc 980 0])) (gO0 c l):=by
 rw [gO0_ex]
 have hI:=cohI []
 have hL:=cohL []
 have hV:=cohV []
 unfold mB0 tB
 generalize DI []=D1 at *
 generalize FI []=F1 at *
 generalize DL []=D2 at *
 generalize FL []=F2 at *
 generalize DV []=D3 at *
 generalize FV []=F3 at *
 generalize c.map insP=cc at *
 refine body [(7,.imap 981),(8,.cache 982 D1 F1),(9,.cache 983 D2 F2),(10,.cache 984 D3 F3),(11,.imap 985),(13,.box 980),(21,.box 901)] Tryz.func59 Tryz.ntmps59 ?_
 refine gg ?_
 refine runOps_ev rfl (by simp only [↓evalSeq,↓evalR_some,↓evalO_call,↓evalO_none,↓evalO_some,↓evalG_tt,↓evalG_ff,↓evalG_tf,↓evalG_ft,↓evalG_sk,isCall,↓cond_true,↓cond_false,gv,stepOp,stepMove,stepLoad,stepStore,stepIndex,stepLen,stepAppend,stepSlice,stepBin,stepInt,stepEq,srcOf,addrOff,TK.isIface,stepRow,stepUpdate,stepUpdateI,stepLookI,stepLenM,intsOf,oneZ,zeroPV,placesA,PV.nonint,List.any_cons,List.any_nil,Bool.or_true,Bool.true_or,Bool.or_false,Bool.false_or,rdP,rdV,TI.isAgg,boolR,mkAgg,mkSlice,unL,unE,V.un,vc_int,vo_int,po_int,vc_bool,vo_bool,po_bool,vc_nil,vo_nil,po_nil,vc_nils,vo_nils,po_nils,vc_nilfn,vo_nilfn,po_nilfn,vc_nilm,vo_nilm,po_nilm,vc_nilif,vo_nilif,po_nilif,vc_ptr,vo_ptr,po_ptr,vc_slice,vo_slice,po_slice,vc_iface,vo_iface,po_iface,vc_loc,vo_loc,vc_eloc,vo_eloc,vc_arr,vo_arr,vc_map,vo_map,vc_vsl,vo_vsl,vc_fn,vo_fn,vc_agg,vc_aggv,pc_int,pc_bool,pc_nil,pc_nils,pc_nilfn,pc_nilm,pc_nilif,pc_ptr,pc_slice,pc_iface,pc_agg,fillV,sliceParts,putL,St.val,getS,getO,setO,delO,updAll,updO,St.eff,R.eff,R.of,R.ofIf,Env1.note,cst,putS,dstOK,freshL,zipArgs,pvL,skipE,↓reduceIte,Nat.reduceEqDiff,Nat.reduceLT,Nat.reduceLeDiff,Nat.reduceAdd,Nat.reduceSub,Nat.reduceMul,Int.reduceToNat,Int.toNat_natCast,and_true,true_and,false_and,and_self,forall_const,true_implies,implies_true,not_false_eq_true,not_true_eq_false,List.mem_cons,List.not_mem_nil,or_false,or_self,false_or,List.length_cons,List.length_nil,List.map_cons,List.map_nil,List.nil_append,List.cons_append,List.append_nil,List.take_zero,List.take_succ_cons,List.drop_zero,List.drop_succ_cons,List.take_nil,List.drop_nil,List.getElem?_cons_zero,List.getElem?_cons_succ,List.getElem?_nil,Option.map_some,Option.map_none,Bool.not_true,Bool.not_false,List.all_cons,List.all_nil,Bool.and_self,Bool.true_and,Bool.and_true,reduceCtorEq,Option.some.injEq,List.getD_cons_zero,List.getD_cons_succ,decide_true,decide_false,Nat.succ_ne_self,Nat.zero_add,Nat.add_zero,pvE_take,pvE_get,pvE_app,pvE_len,pvE_all,pvE_one,unE_pvE,List.forall_mem_cons,List.mem_singleton,forall_eq,List.mem_nil_iff,false_implies,XX_T,XX_gl,XX_nm,XX_nt,noteD,noteOf,tt91,tt35,tt3,tt118,tt84,tt85,tt86,List.size_toArray,List.toList_toArray,Nat.reduceEqDiff,vc_bfn,vo_bfn,un_bfn,Nat.add_one_ne_zero];rfl) ?_ ?_
 ·simp only [buildC,and_true,true_and,implies_true,true_implies,and_self]
 refine gg ?_
 exact enC27
theorem mresult_fine (c:List Ins) (l n h:Nat) (x:It) (hg:AC Tryz.prog gl 84 [.loc 901 0,.pv (.slice [])] (gO0 c l) (.ret (.pv (.tuple [itP x,.int 0]))) [(901,mE c l n),(980,tE h)]) (ho:AC Tryz.prog gl 65 [.pv (itP x)] [] (.ret (.pv (.agg (itCell x)))) []) :
  AC Tryz.prog gl 42 [.loc 901 0] (gO0 c l) (.ret (.pv (.tuple [.agg (itCell x),.int 0]))) [(901,mE c l n),(980,tE h)]:=by
 obtain ⟨xk,xn,xa,xs,xt,ex,h5,h6⟩:=itCell_shape x
 have ax:=vcells_one (itP_one x)
 have bx:(V.pv (itP x)).one=true:=by rw [one_pv];exact itP_one x
 have c5:=vcells_one h5
 have c6:=vcells_one h6
 have d5:=onC27 h5
 have d6:=onC27 h6
 rw [ex] at ho ⊢
 clear ex
 refine body [] Tryz.func42 Tryz.ntmps42 ?_ (hna:=by rw [gO0_ex];unfold mB0 tB;simp [subL,namesL,V.names,namesOb,Ob.names,keysO]) (hno:=by simp [subL,Out.names,V.names,namesOb,Ob.names,namesL,mE,tE,keysO])
 unfold mE tE at *
 rw [gO0_ex] at *
 unfold mB0 tB at *
 simp only [Int.natCast_zero] at *
 generalize c.map insP=cc at *
 generalize DI []=D1 at *
 generalize FI []=F1 at *
 generalize DL []=D2 at *
 generalize FL []=F2 at *
 generalize DV []=D3 at *
 generalize FV []=F3 at *
 generalize itP x=px at *
 refine gg ?_
 refine call hg ?_
 refine gg ?_
 refine call ho ?_
 refine gg ?_
 exact enC27
theorem mrun_fine (c:List Ins) (l n h:Nat) (x:It) (hck:AC Tryz.prog gl 41 [.pv (.slice (c.map insP)),.pv (.slice []),.pv (.int l)] [] (.ret (.pv (.int 0))) []) (hg:AC Tryz.prog gl 42 [.loc 901 0] (gO0 c l) (.ret (.pv (.tuple [.agg (itCell x),.int 0]))) [(901,mE c l n),(980,tE h)]) :
  AC Tryz.prog gl 33 [.pv (.slice (c.map insP)),.pv (.int l)] [] (.ret (.pv (.tuple [.agg (itCell x),.int n,.int h,.int 0]))) []:=by
 obtain ⟨xk,xn,xa,xs,xt,ex,h5,h6⟩:=itCell_shape x
 have ax:=vcells_one (itP_one x)
 have bx:(V.pv (itP x)).one=true:=by rw [one_pv];exact itP_one x
 have c5:=vcells_one h5
 have c6:=vcells_one h6
 have d5:=onC27 h5
 have d6:=onC27 h6
 rw [ex] at hg ⊢
 clear ex
 have hm:=machine_ok c l
 unfold mE tE at *
 rw [gO0_ex] at *
 unfold mB0 tB at *
 simp only [Int.natCast_zero] at *
 generalize c.map insP=cc at *
 generalize DI []=D1 at *
 generalize FI []=F1 at *
 generalize DL []=D2 at *
 generalize FL []=F2 at *
 generalize DV []=D3 at *
 generalize FV []=F3 at *
 refine body [] Tryz.func33 Tryz.ntmps33 ?_
 refine gg ?_
 refine call hck ?_
 refine gg ?_
 refine call hm ?_
 refine gg ?_
 refine call hg ?_
 refine gg ?_
 refine ⟨by rfl,?_⟩
 refine gg ?_
 exact enC27
theorem mretd_0_f (c:List Ins) (l:Nat)  (x:It) (n h:Nat) (w:List PV) (sw:∃ k m s q,w=[.int k,.int m,s,q]∧s.one=true∧q.one=true) (hg:AC Tryz.prog gl 84 [.loc 901 0,.pv (.slice [])] (gO0 c l) (.ret (.pv (.tuple [itP x,.int 0]))) [(901,mE c l n),(980,tE h)])
  (ho:AC Tryz.prog gl 65 [.pv (itP x)] [] (.ret (.pv (.agg (itCell x)))) []) (hv:AC Tryz.prog gl 15 [.pv (.agg (itCell x))] [] (.ret (.pv (.tuple [.agg w,.bool true]))) []) :
  AC Tryz.prog gl 55 [.loc 901 0,.pv (.slice [])] (gO0 c l) (.ret (.pv (.tuple [.agg w,.int 0]))) [(901,mE c l n),(980,tE h)]:=by
 obtain ⟨kw,mw,sw,qw,rfl,ow,ow'⟩:=sw
 have ww:=vcells_one ow
 have ww':=vcells_one ow'
 have zw:=onC27 ow
 have zw':=onC27 ow'
 obtain ⟨xk,xn,xa,xs,xt,ex,h5,h6⟩:=itCell_shape x
 have ax:=vcells_one (itP_one x)
 have bx:(V.pv (itP x)).one=true:=by rw [one_pv];exact itP_one x
 have c5:=vcells_one h5
 have c6:=vcells_one h6
 have d5:=onC27 h5
 have d6:=onC27 h6
 rw [ex] at ho hv
 clear ex
 refine body [(6,.arr 908 1 132)] Tryz.func55 Tryz.ntmps55 ?_ (hna:=by rw [gO0_ex];unfold mB0 tB;simp [subL,namesL,V.names,namesOb,Ob.names,keysO]) (hno:=by simp [subL,Out.names,V.names,namesOb,Ob.names,namesL,mE,tE,keysO])
 unfold mE tE at *
 rw [gO0_ex] at *
 unfold mB0 tB at *
 simp only [Int.natCast_zero] at *
 generalize c.map insP=cc at *
 generalize DI []=D1 at *
 generalize FI []=F1 at *
 generalize DL []=D2 at *
 generalize FL []=F2 at *
 generalize DV []=D3 at *
 generalize FV []=F3 at *
 generalize itP x=px at *
 refine gg ?_
 refine frz 908 (es:=[]) ?_
 refine ex_loop 1 (ex_round ?_)
 refine gg ?_
 refine call hg ?_
 refine gg ?_
 refine call ho ?_
 refine gg ?_
 refine call hv ?_
 refine gg ?_
 exact enC27
theorem mcall_0_f (c:List Ins) (l:Nat)  (hK:AC Tryz.prog gl 41 [.pv (.slice (c.map insP)),.pv (.slice []),.pv (.int l)] [] (.ret (.pv (.int 0))) []) (n h:Nat) (w:List PV) (sw:∃ k m s q,w=[.int k,.int m,s,q]∧s.one=true∧q.one=true) (hR:AC Tryz.prog gl 55 [.loc 901 0,.pv (.slice [])] (gO0 c l) (.ret (.pv (.tuple [.agg w,.int 0]))) [(901,mE c l n),(980,tE h)]) :
  AC Tryz.prog gl 23 [.pv (.slice (c.map insP)),.pv (.slice []),.pv (.int l)] [] (.ret (.pv (.tuple [.agg w,.int n,.int h,.int 0]))) []:=by
 obtain ⟨kw,mw,sw,qw,rfl,ow,ow'⟩:=sw
 have ww:=vcells_one ow
 have ww':=vcells_one ow'
 have zw:=onC27 ow
 have zw':=onC27 ow'
 have hm:=machine_ok c l
 unfold mE tE at *
 rw [gO0_ex] at *
 unfold mB0 tB at *
 simp only [Int.natCast_zero] at *
 generalize c.map insP=cc at *
 generalize DI []=D1 at *
 generalize FI []=F1 at *
 generalize DL []=D2 at *
 generalize FL []=F2 at *
 generalize DV []=D3 at *
 generalize FV []=F3 at *
 refine body [] Tryz.func23 Tryz.ntmps23 ?_
 refine gg ?_
 refine call hK ?_
 refine gg ?_
 refine call hm ?_
 refine gg ?_
 refine call hR ?_
 refine gg ?_
 refine ⟨by rfl,?_⟩
 refine gg ?_
 exact enC27
theorem rchk_1 (cc:List (List PV)) (l:Nat) (hl:l≤65536) (v1:List PV) (sv1:∃ k m s q,v1=[.int k,.int m,s,q]∧s.one=true∧q.one=true) (h:AC Tryz.prog gl 83 [.pv (.slice cc)] [] (.ret (.pv (.int 0))) []) (hK1:AC Tryz.prog gl 44 [.pv (.agg v1)] [] (.ret (.pv (.int 0))) []):AC Tryz.prog gl 41 [.pv (.slice cc),.pv (.slice [v1]),.pv (.int l)] [] (.ret (.pv (.int 0))) []:=by
 have g1:¬ (l:Int)<0:=by omega
 have g2:¬ (65536:Int)<l:=by omega
 obtain ⟨kv1,mv1,sv1,qv1,rfl,ov1,ov1'⟩:=sv1
 have wv1:=vcells_one ov1
 have wv1':=vcells_one ov1'
 have zv1:=onC27 ov1
 have zv1':=onC27 ov1'
 refine body [] Tryz.func41 Tryz.ntmps41 ?_
 refine gg ?_
 refine call h ?_
 refine gg ?_
 refine ex_loop 2 (ex_round ?_)
 refine gg ?_
 refine call hK1 ?_
 refine gg ?_
 refine ex_round ?_
 refine kp [0,1,2,6,22,23,24] [] ?_
 refine gg ?_
 exact enC27
theorem mretd_1_f (c:List Ins) (l:Nat) (z1:It) (v1:List PV) (sv1:∃ k m s q,v1=[.int k,.int m,s,q]∧s.one=true∧q.one=true) (hF1:AC Tryz.prog gl 66 [.pv (.agg v1)] [] (.ret (.pv (itP z1))) []) (x:It) (n h:Nat) (w:List PV) (sw:∃ k m s q,w=[.int k,.int m,s,q]∧s.one=true∧q.one=true) (hg:AC Tryz.prog gl 84 [.loc 901 0,.pv (.slice ([z1].map itC))] (gO0 c l) (.ret (.pv (.tuple [itP x,.int 0]))) [(901,mE c l n),(980,tE h)])
  (ho:AC Tryz.prog gl 65 [.pv (itP x)] [] (.ret (.pv (.agg (itCell x)))) []) (hv:AC Tryz.prog gl 15 [.pv (.agg (itCell x))] [] (.ret (.pv (.tuple [.agg w,.bool true]))) []) :
  AC Tryz.prog gl 55 [.loc 901 0,.pv (.slice [v1])] (gO0 c l) (.ret (.pv (.tuple [.agg w,.int 0]))) [(901,mE c l n),(980,tE h)]:=by
 obtain ⟨kv1,mv1,sv1,qv1,rfl,ov1,ov1'⟩:=sv1
 have wv1:=vcells_one ov1
 have wv1':=vcells_one ov1'
 have zv1:=onC27 ov1
 have zv1':=onC27 ov1'
 obtain ⟨kw,mw,sw,qw,rfl,ow,ow'⟩:=sw
 have ww:=vcells_one ow
 have ww':=vcells_one ow'
 have zw:=onC27 ow
 have zw':=onC27 ow'
 have e1:=itP_one z1
 have a1:=vcells_one (itP_one z1)
 have b1:(V.pv (itP z1)).one=true:=by rw [one_pv];exact itP_one z1
 obtain ⟨xk,xn,xa,xs,xt,ex,h5,h6⟩:=itCell_shape x
 have ax:=vcells_one (itP_one x)
 have bx:(V.pv (itP x)).one=true:=by rw [one_pv];exact itP_one x
 have c5:=vcells_one h5
 have c6:=vcells_one h6
 have d5:=onC27 h5
 have d6:=onC27 h6
 rw [ex] at ho hv
 clear ex
 simp only [List.map_cons,List.map_nil,itC] at hg
 refine body [(6,.arr 908 1 132)] Tryz.func55 Tryz.ntmps55 ?_ (hna:=by rw [gO0_ex];unfold mB0 tB;simp [subL,namesL,V.names,namesOb,Ob.names,keysO]) (hno:=by simp [subL,Out.names,V.names,namesOb,Ob.names,namesL,mE,tE,keysO])
 unfold mE tE at *
 rw [gO0_ex] at *
 unfold mB0 tB at *
 simp only [Int.natCast_zero] at *
 generalize c.map insP=cc at *
 generalize DI []=D1 at *
 generalize FI []=F1 at *
 generalize DL []=D2 at *
 generalize FL []=F2 at *
 generalize DV []=D3 at *
 generalize FV []=F3 at *
 generalize itP z1=y1 at *
 generalize itP x=px at *
 refine gg ?_
 refine ex_loop 2 (ex_round ?_)
 refine gg ?_
 refine call hF1 ?_
 refine gg ?_
 refine ex_round ?_
 refine kp [0,1,4,5,6,13,14,15] [4,901,908,980,981,982,983,984,985] ?_
 refine frz 908 (es:=[[y1]]) ?_
 refine gg ?_
 refine call hg ?_
 refine gg ?_
 refine call ho ?_
 refine gg ?_
 refine call hv ?_
 refine gg ?_
 exact enC27
theorem mcall_1_f (c:List Ins) (l:Nat) (v1:List PV) (sv1:∃ k m s q,v1=[.int k,.int m,s,q]∧s.one=true∧q.one=true) (hK:AC Tryz.prog gl 41 [.pv (.slice (c.map insP)),.pv (.slice [v1]),.pv (.int l)] [] (.ret (.pv (.int 0))) []) (n h:Nat) (w:List PV) (sw:∃ k m s q,w=[.int k,.int m,s,q]∧s.one=true∧q.one=true) (hR:AC Tryz.prog gl 55 [.loc 901 0,.pv (.slice [v1])] (gO0 c l) (.ret (.pv (.tuple [.agg w,.int 0]))) [(901,mE c l n),(980,tE h)]) :
  AC Tryz.prog gl 23 [.pv (.slice (c.map insP)),.pv (.slice [v1]),.pv (.int l)] [] (.ret (.pv (.tuple [.agg w,.int n,.int h,.int 0]))) []:=by
 obtain ⟨kv1,mv1,sv1,qv1,rfl,ov1,ov1'⟩:=sv1
 have wv1:=vcells_one ov1
 have wv1':=vcells_one ov1'
 have zv1:=onC27 ov1
 have zv1':=onC27 ov1'
 obtain ⟨kw,mw,sw,qw,rfl,ow,ow'⟩:=sw
 have ww:=vcells_one ow
 have ww':=vcells_one ow'
 have zw:=onC27 ow
 have zw':=onC27 ow'
 have hm:=machine_ok c l
 unfold mE tE at *
 rw [gO0_ex] at *
 unfold mB0 tB at *
 simp only [Int.natCast_zero] at *
 generalize c.map insP=cc at *
 generalize DI []=D1 at *
 generalize FI []=F1 at *
 generalize DL []=D2 at *
 generalize FL []=F2 at *
 generalize DV []=D3 at *
 generalize FV []=F3 at *
 refine body [] Tryz.func23 Tryz.ntmps23 ?_
 refine gg ?_
 refine call hK ?_
 refine gg ?_
 refine call hm ?_
 refine gg ?_
 refine call hR ?_
 refine gg ?_
 refine ⟨by rfl,?_⟩
 refine gg ?_
 exact enC27
theorem rchk_2 (cc:List (List PV)) (l:Nat) (hl:l≤65536) (v1 v2:List PV) (sv1:∃ k m s q,v1=[.int k,.int m,s,q]∧s.one=true∧q.one=true) (sv2:∃ k m s q,v2=[.int k,.int m,s,q]∧s.one=true∧q.one=true) (h:AC Tryz.prog gl 83 [.pv (.slice cc)] [] (.ret (.pv (.int 0))) []) (hK1:AC Tryz.prog gl 44 [.pv (.agg v1)] [] (.ret (.pv (.int 0))) []) (hK2:AC Tryz.prog gl 44 [.pv (.agg v2)] [] (.ret (.pv (.int 0))) []):AC Tryz.prog gl 41 [.pv (.slice cc),.pv (.slice [v1,v2]),.pv (.int l)] [] (.ret (.pv (.int 0))) []:=by
 have g1:¬ (l:Int)<0:=by omega
 have g2:¬ (65536:Int)<l:=by omega
 obtain ⟨kv1,mv1,sv1,qv1,rfl,ov1,ov1'⟩:=sv1
 have wv1:=vcells_one ov1
 have wv1':=vcells_one ov1'
 have zv1:=onC27 ov1
 have zv1':=onC27 ov1'
 obtain ⟨kv2,mv2,sv2,qv2,rfl,ov2,ov2'⟩:=sv2
 have wv2:=vcells_one ov2
 have wv2':=vcells_one ov2'
 have zv2:=onC27 ov2
 have zv2':=onC27 ov2'
 refine body [] Tryz.func41 Tryz.ntmps41 ?_
 refine gg ?_
 refine call h ?_
 refine gg ?_
 refine ex_loop 3 (ex_round ?_)
 refine gg ?_
 refine call hK1 ?_
 refine gg ?_
 refine ex_round ?_
 refine kp [0,1,2,6,22,23,24] [] ?_
 refine gg ?_
 refine call hK2 ?_
 refine gg ?_
 refine ex_round ?_
 refine kp [0,1,2,6,22,23,24] [] ?_
 refine gg ?_
 exact enC27
theorem mretd_2_f (c:List Ins) (l:Nat) (z1 z2:It) (v1 v2:List PV) (sv1:∃ k m s q,v1=[.int k,.int m,s,q]∧s.one=true∧q.one=true) (sv2:∃ k m s q,v2=[.int k,.int m,s,q]∧s.one=true∧q.one=true) (hF1:AC Tryz.prog gl 66 [.pv (.agg v1)] [] (.ret (.pv (itP z1))) []) (hF2:AC Tryz.prog gl 66 [.pv (.agg v2)] [] (.ret (.pv (itP z2))) []) (x:It) (n h:Nat) (w:List PV) (sw:∃ k m s q,w=[.int k,.int m,s,q]∧s.one=true∧q.one=true) (hg:AC Tryz.prog gl 84 [.loc 901 0,.pv (.slice ([z1,z2].map itC))] (gO0 c l) (.ret (.pv (.tuple [itP x,.int 0]))) [(901,mE c l n),(980,tE h)])
  (ho:AC Tryz.prog gl 65 [.pv (itP x)] [] (.ret (.pv (.agg (itCell x)))) []) (hv:AC Tryz.prog gl 15 [.pv (.agg (itCell x))] [] (.ret (.pv (.tuple [.agg w,.bool true]))) []) :
  AC Tryz.prog gl 55 [.loc 901 0,.pv (.slice [v1,v2])] (gO0 c l) (.ret (.pv (.tuple [.agg w,.int 0]))) [(901,mE c l n),(980,tE h)]:=by
 obtain ⟨kv1,mv1,sv1,qv1,rfl,ov1,ov1'⟩:=sv1
 have wv1:=vcells_one ov1
 have wv1':=vcells_one ov1'
 have zv1:=onC27 ov1
 have zv1':=onC27 ov1'
 obtain ⟨kv2,mv2,sv2,qv2,rfl,ov2,ov2'⟩:=sv2
 have wv2:=vcells_one ov2
 have wv2':=vcells_one ov2'
 have zv2:=onC27 ov2
 have zv2':=onC27 ov2'
 obtain ⟨kw,mw,sw,qw,rfl,ow,ow'⟩:=sw
 have ww:=vcells_one ow
 have ww':=vcells_one ow'
 have zw:=onC27 ow
 have zw':=onC27 ow'
 have e1:=itP_one z1
 have a1:=vcells_one (itP_one z1)
 have b1:(V.pv (itP z1)).one=true:=by rw [one_pv];exact itP_one z1
 have e2:=itP_one z2
 have a2:=vcells_one (itP_one z2)
 have b2:(V.pv (itP z2)).one=true:=by rw [one_pv];exact itP_one z2
 obtain ⟨xk,xn,xa,xs,xt,ex,h5,h6⟩:=itCell_shape x
 have ax:=vcells_one (itP_one x)
 have bx:(V.pv (itP x)).one=true:=by rw [one_pv];exact itP_one x
 have c5:=vcells_one h5
 have c6:=vcells_one h6
 have d5:=onC27 h5
 have d6:=onC27 h6
 rw [ex] at ho hv
 clear ex
 simp only [List.map_cons,List.map_nil,itC] at hg
 refine body [(6,.arr 908 1 132)] Tryz.func55 Tryz.ntmps55 ?_ (hna:=by rw [gO0_ex];unfold mB0 tB;simp [subL,namesL,V.names,namesOb,Ob.names,keysO]) (hno:=by simp [subL,Out.names,V.names,namesOb,Ob.names,namesL,mE,tE,keysO])
 unfold mE tE at *
 rw [gO0_ex] at *
 unfold mB0 tB at *
 simp only [Int.natCast_zero] at *
 generalize c.map insP=cc at *
 generalize DI []=D1 at *
 generalize FI []=F1 at *
 generalize DL []=D2 at *
 generalize FL []=F2 at *
 generalize DV []=D3 at *
 generalize FV []=F3 at *
 generalize itP z1=y1 at *
 generalize itP z2=y2 at *
 generalize itP x=px at *
 refine gg ?_
 refine ex_loop 3 (ex_round ?_)
 refine gg ?_
 refine call hF1 ?_
 refine gg ?_
 refine ex_round ?_
 refine kp [0,1,4,5,6,13,14,15] [4,901,908,980,981,982,983,984,985] ?_
 refine gg ?_
 refine call hF2 ?_
 refine gg ?_
 refine ex_round ?_
 refine kp [0,1,4,5,6,13,14,15] [4,901,908,980,981,982,983,984,985] ?_
 refine frz 908 (es:=[[y1],[y2]]) ?_
 refine gg ?_
 refine call hg ?_
 refine gg ?_
 refine call ho ?_
 refine gg ?_
 refine call hv ?_
 refine gg ?_
 exact enC27
theorem mcall_2_f (c:List Ins) (l:Nat) (v1 v2:List PV) (sv1:∃ k m s q,v1=[.int k,.int m,s,q]∧s.one=true∧q.one=true) (sv2:∃ k m s q,v2=[.int k,.int m,s,q]∧s.one=true∧q.one=true) (hK:AC Tryz.prog gl 41 [.pv (.slice (c.map insP)),.pv (.slice [v1,v2]),.pv (.int l)] [] (.ret (.pv (.int 0))) []) (n h:Nat) (w:List PV) (sw:∃ k m s q,w=[.int k,.int m,s,q]∧s.one=true∧q.one=true) (hR:AC Tryz.prog gl 55 [.loc 901 0,.pv (.slice [v1,v2])] (gO0 c l) (.ret (.pv (.tuple [.agg w,.int 0]))) [(901,mE c l n),(980,tE h)]) :
  AC Tryz.prog gl 23 [.pv (.slice (c.map insP)),.pv (.slice [v1,v2]),.pv (.int l)] [] (.ret (.pv (.tuple [.agg w,.int n,.int h,.int 0]))) []:=by
 obtain ⟨kv1,mv1,sv1,qv1,rfl,ov1,ov1'⟩:=sv1
 have wv1:=vcells_one ov1
 have wv1':=vcells_one ov1'
 have zv1:=onC27 ov1
 have zv1':=onC27 ov1'
 obtain ⟨kv2,mv2,sv2,qv2,rfl,ov2,ov2'⟩:=sv2
 have wv2:=vcells_one ov2
 have wv2':=vcells_one ov2'
 have zv2:=onC27 ov2
 have zv2':=onC27 ov2'
 obtain ⟨kw,mw,sw,qw,rfl,ow,ow'⟩:=sw
 have ww:=vcells_one ow
 have ww':=vcells_one ow'
 have zw:=onC27 ow
 have zw':=onC27 ow'
 have hm:=machine_ok c l
 unfold mE tE at *
 rw [gO0_ex] at *
 unfold mB0 tB at *
 simp only [Int.natCast_zero] at *
 generalize c.map insP=cc at *
 generalize DI []=D1 at *
 generalize FI []=F1 at *
 generalize DL []=D2 at *
 generalize FL []=F2 at *
 generalize DV []=D3 at *
 generalize FV []=F3 at *
 refine body [] Tryz.func23 Tryz.ntmps23 ?_
 refine gg ?_
 refine call hK ?_
 refine gg ?_
 refine call hm ?_
 refine gg ?_
 refine call hR ?_
 refine gg ?_
 refine ⟨by rfl,?_⟩
 refine gg ?_
 exact enC27
open Go.Lg
set_option maxRecDepth 10000
set_option maxHeartbeats 4000000
theorem cell_flat (k n:Nat) (s:List (List PV)) (hs:∀ q∈s,q.length=1) (hl:s.length≤100000):AC Tryz.prog gl 94 [.pv (.agg [.int k,.int n,.slice s,.nils])] [] (.ret (.pv (.agg [.int k,.int n,.int 0,.slice s,.slice []]))) []:=by
 refine AC.leO (p:=.agg [.int k,.int n,.int 0,.slice s,.nils]) ?_ (fun H v h=>rep_sn v h)
 refine body [] Tryz.func94 Tryz.ntmps94 ?_
 refine gg ?_
 refine ⟨by rfl,?_⟩
 refine gg ?_
 refine ex_loop 1 (ex_round ?_)
 refine gg ?_
 exact enC27
theorem cell_two (a b x y:List PV) (sa:∃ (k n:Nat) (s:List (List PV)),a=[.int k,.int n,.slice s,.nils]) (sb:∃ (k n:Nat) (s:List (List PV)),b=[.int k,.int n,.slice s,.nils])
  (sx:∃ (k n a:Nat) (s t:List (List PV)),x=[.int k,.int n,.int a,.slice s,.slice t]) (sy:∃ (k n a:Nat) (s t:List (List PV)),y=[.int k,.int n,.int a,.slice s,.slice t])
  (h1:AC Tryz.prog gl 94 [.pv (.agg a)] [] (.ret (.pv (.agg x))) []) (h2:AC Tryz.prog gl 94 [.pv (.agg b)] [] (.ret (.pv (.agg y))) []) :
  AC Tryz.prog gl 94 [.pv (.agg [.int 3,.int 0,.slice [],.slice [a,b]])] [] (.ret (.pv (.agg [.int 3,.int 0,.int 0,.slice [],.slice [x,y]]))) []:=by
 obtain ⟨ka,na,s1,rfl⟩:=sa
 obtain ⟨kb,nb,s2,rfl⟩:=sb
 obtain ⟨kx,nx,ax,sx,tx,rfl⟩:=sx
 obtain ⟨ky,ny,ay,sy,ty,rfl⟩:=sy
 refine body [] Tryz.func94 Tryz.ntmps94 ?_
 refine gg ?_
 refine ⟨by rfl,?_⟩
 refine gg ?_
 refine th 3 4 983 5 47 ?_
 refine ex_loop 3 (ex_round ?_)
 refine gg ?_
 refine call h1 ?_
 refine gg ?_
 refine ⟨by rfl,?_⟩
 refine gg ?_
 refine ex_round ?_
 refine kp [1,2,3,4] [2,3,983] ?_
 refine gg ?_
 refine call h2 ?_
 refine gg ?_
 refine ⟨by rfl,?_⟩
 refine gg ?_
 refine ex_round ?_
 refine kp [1,2,3,4] [2,3,983] ?_
 refine frz 983 (es:=[[.int kx,.int nx,.int ax,.slice sx,.slice tx],[.int ky,.int ny,.int ay,.slice sy,.slice ty]]) ?_
 refine gg ?_
 exact enC27
theorem value_flat (k n:Nat) (s:List (List PV)) (hk:¬ k=5) (hs:∀ q∈s,q.length=1) (hl:s.length≤100000):AC Tryz.prog gl 63 [.pv (.agg [.int k,.int n,.int 0,.slice s,.slice []])] [] (.ret (.pv (.tuple [.agg [.int k,.int n,.slice s,.nils],.bool true]))) []:=by
 have k1:¬ (k:Int)=5:=by omega
 refine body [] Tryz.func63 Tryz.ntmps63 ?_
 refine gg ?_
 refine ⟨by rfl,?_⟩
 refine gg ?_
 refine ex_loop 1 (ex_round ?_)
 refine gg ?_
 exact enC27
theorem value_two (a b x y:List PV) (sa:∃ (k n:Nat) (s:List (List PV)),a=[.int k,.int n,.slice s,.nils]) (sb:∃ (k n:Nat) (s:List (List PV)),b=[.int k,.int n,.slice s,.nils])
  (sx:∃ (k n a:Nat) (s t:List (List PV)),x=[.int k,.int n,.int a,.slice s,.slice t]) (sy:∃ (k n a:Nat) (s t:List (List PV)),y=[.int k,.int n,.int a,.slice s,.slice t])
  (h1:AC Tryz.prog gl 63 [.pv (.agg x)] [] (.ret (.pv (.tuple [.agg a,.bool true]))) []) (h2:AC Tryz.prog gl 63 [.pv (.agg y)] [] (.ret (.pv (.tuple [.agg b,.bool true]))) []) :
  AC Tryz.prog gl 63 [.pv (.agg [.int 3,.int 0,.int 0,.slice [],.slice [x,y]])] [] (.ret (.pv (.tuple [.agg [.int 3,.int 0,.slice [],.slice [a,b]],.bool true]))) []:=by
 obtain ⟨ka,na,s1,rfl⟩:=sa
 obtain ⟨kb,nb,s2,rfl⟩:=sb
 obtain ⟨kx,nx,ax,sx,tx,rfl⟩:=sx
 obtain ⟨ky,ny,ay,sy,ty,rfl⟩:=sy
 refine body [] Tryz.func63 Tryz.ntmps63 ?_
 refine gg ?_
 refine ⟨by rfl,?_⟩
 refine gg ?_
 refine th 4 3 984 4 41 ?_
 refine ex_loop 3 (ex_round ?_)
 refine gg ?_
 refine call h1 ?_
 refine gg ?_
 refine ex_round ?_
 refine kp [1,2,3,4,5] [2,4,984] ?_
 refine gg ?_
 refine call h2 ?_
 refine gg ?_
 refine ex_round ?_
 refine kp [1,2,3,4,5] [2,4,984] ?_
 refine frz 984 (es:=[[.int ka,.int na,.slice s1,.nils],[.int kb,.int nb,.slice s2,.nils]]) ?_
 refine gg ?_
 exact enC27
theorem base_facts {B:Nat} (hB:B≤100000) {r:Rs} {t:Ty} (h:RsT B r t) (hp:t = .nat∨t = .list∨t = .unit):∃ (k n:Nat) (s:List (List PV)),valW r=[.int k,.int n,.slice s,.nils]∧rcC (itOf r)=[.int k,.int n,.int 0,.slice s,.slice []] ∧ ¬ k=5∧(∀ q∈s,q.length=1)∧s.length≤100000:=by
 rcases hp with rfl | rfl | rfl <;> cases h
 ·exact ⟨1,_,[],rfl,rfl,by decide,by simp,by simp⟩
 ·rename_i l hl _
  exact ⟨2,0,numsR l,rfl,rfl,by decide,numsR_all l,by simp [numsR];omega⟩
 ·exact ⟨4,0,[],rfl,rfl,by decide,by simp,by simp⟩
theorem cell38_ok {B:Nat} (hB:B≤100000) {r:Rs} {t:Ty} (h:RsT B r t) (hp:t.plain):AC Tryz.prog gl 94 [.pv (.agg (valW r))] [] (.ret (.pv (.agg (rcC (itOf r))))) []:=by
 have base:∀ {r:Rs} {t:Ty},RsT B r t→(t = .nat∨t = .list∨t = .unit)→AC Tryz.prog gl 94 [.pv (.agg (valW r))] [] (.ret (.pv (.agg (rcC (itOf r))))) []:=by
  intro r t h hp
  obtain ⟨k,n,s,e1,e2,-,h1,h2⟩:=base_facts hB h hp
  rw [e1,e2]
  exact cell_flat k n s h1 h2
 rcases plain_cases hp with hb | ⟨s,hb,rfl⟩
 ·exact base h hb
 ·cases h with
  | @pair a b _ _ ha hb' =>
   have hb2:s = .nat∨s = .list∨s = .unit:=by rcases hb with rfl | rfl <;> simp
   obtain ⟨k1,n1,s1,e1,-⟩:=base_facts hB ha (.inl rfl)
   obtain ⟨k2,n2,s2,e2,-⟩:=base_facts hB hb' hb2
   exact cell_two _ _ _ _ ⟨k1,n1,s1,e1⟩ ⟨k2,n2,s2,e2⟩ (rcC_shape _) (rcC_shape _) (base ha (.inl rfl)) (base hb' hb2)
theorem value38_ok {B:Nat} (hB:B≤100000) {r:Rs} {t:Ty} (h:RsT B r t) (hp:t.plain):AC Tryz.prog gl 63 [.pv (.agg (rcC (itOf r)))] [] (.ret (.pv (.tuple [.agg (valW r),.bool true]))) []:=by
 have base:∀ {r:Rs} {t:Ty},RsT B r t→(t = .nat∨t = .list∨t = .unit)→AC Tryz.prog gl 63 [.pv (.agg (rcC (itOf r)))] [] (.ret (.pv (.tuple [.agg (valW r),.bool true]))) []:=by
  intro r t h hp
  obtain ⟨k,n,s,e1,e2,h0,h1,h2⟩:=base_facts hB h hp
  rw [e1,e2]
  exact value_flat k n s h0 h1 h2
 rcases plain_cases hp with hb | ⟨s,hb,rfl⟩
 ·exact base h hb
 ·cases h with
  | @pair a b _ _ ha hb' =>
   have hb2:s = .nat∨s = .list∨s = .unit:=by rcases hb with rfl | rfl <;> simp
   obtain ⟨k1,n1,s1,e1,-⟩:=base_facts hB ha (.inl rfl)
   obtain ⟨k2,n2,s2,e2,-⟩:=base_facts hB hb' hb2
   exact value_two _ _ _ _ ⟨k1,n1,s1,e1⟩ ⟨k2,n2,s2,e2⟩ (rcC_shape _) (rcC_shape _) (base ha (.inl rfl)) (base hb' hb2)
theorem Value38_ok {B:Nat} (hB:B≤100000) {r:Rs} {t:Ty} (h:RsT B r t) (hp:t.plain):AC Tryz.prog gl 34 [.pv (.agg (rcC (itOf r)))] [] (.ret (.pv (.tuple [.agg (valW r),.bool true]))) []:=by
 have h1:=value38_ok hB h hp
 have h2:=chk_ok hB h hp
 obtain ⟨k,m,s,q,e,o1,o2⟩:=valW_shape2 h hp
 obtain ⟨kx,nx,ax,sx,tx,ex⟩:=rcC_shape (itOf r)
 have w1:=vcells_one o1
 have w2:=vcells_one o2
 have v1:=onC27 o1
 have v2:=onC27 o2
 rw [e] at h1 h2 ⊢
 rw [ex] at h1 ⊢
 refine body [] Tryz.func34 Tryz.ntmps34 ?_
 refine gg ?_
 refine call h1 ?_
 refine gg ?_
 refine call h2 ?_
 refine gg ?_
 exact enC27
end Go.Proofs.YtodjpfpmhjdhbaaGreatDoor
