/- Contracts of functions; no conditions. -/
import Derived.Test.YtodjpfpmhjdhbaaGreatDoorTwiceC27
import Derived.Test.YtodjpfpmhjdhbaaGreatDoorTwiceC21
import Derived.Test.YtodjpfpmhjdhbaaGreatDoorTwiceC22
import Derived.Test.YtodjpfpmhjdhbaaGreatDoorTwiceC20
import Derived.Test.YtodjpfpmhjdhbaaGreatDoorTwiceC23
import Derived.Test.YtodjpfpmhjdhbaaGreatDoorTwiceC25
set_option linter.all false
theorem Go.Proofs.YtodjpfpmhjdhbaaGreatDoor.onC28 {s : Go.Lg.PV} (h : s.one = true) : (Go.Lg.V.pv s).one = true := by rw [Go.Lg.one_pv]; exact h
namespace Go.Proofs.YtodjpfpmhjdhbaaGreatDoor
open Go.Lg
theorem enC28 {P Q : Prop} (h : P := by simp [retIs,resV,resL,resOne,mkTup,getS,getO,rdV,mkAgg,unL,V.un,TI.isAgg,XX_T,tt47,Tryz.f42,Tryz.f33,tt41,Tryz.f55,Tryz.f23,Tryz.f63,Tryz.f34,Tryz.f58,Tryz.f56,Tryz.f16,Tryz.f21,tt30,Tryz.f28,Tryz.f29,tt27,Tryz.f32,Tryz.f57,Tryz.f20]) (k : Q := by simp [subO,getO,tt47,Tryz.f42,Tryz.f33,tt41,Tryz.f55,Tryz.f23,Tryz.f63,Tryz.f34,Tryz.f58,Tryz.f56,Tryz.f16,Tryz.f21,tt30,Tryz.f28,Tryz.f29,tt27,Tryz.f32,Tryz.f57,Tryz.f20]) : P ∧ Q := ⟨h,k⟩
end Go.Proofs.YtodjpfpmhjdhbaaGreatDoor
namespace Go.Proofs.YtodjpfpmhjdhbaaGreatDoor
open Go.Lg
set_option maxRecDepth 10000
set_option maxHeartbeats 4000000
theorem mresult_err (c:List Ins) (l e:Nat) (he:¬ e=0) (hg:AC Tryz.prog gl 84 [.loc 901 0,.pv (.slice [])] (gO0 c l) (.ret (.pv (.tuple [.nil,.int e]))) []) :
  AC Tryz.prog gl 42 [.loc 901 0] (gO0 c l) (.ret (.pv (.tuple [.agg [.int 0,.int 0,.int 0,.nils,.nils],.int e]))) []:=by
 have he':¬ (e:Int)=0:=by omega
 refine body [] Tryz.func42 Tryz.ntmps42 ?_ (hna:=by rw [gO0_ex];unfold mB0 tB;simp [subL,namesL,V.names,namesOb,Ob.names,keysO])
 rw [gO0_ex] at *
 unfold mB0 tB at *
 simp only [Int.natCast_zero] at *
 generalize c.map insP=cc at *
 generalize DI []=D1 at *
 generalize FI []=F1 at *
 generalize DL []=D2 at *
 generalize FL []=F2 at *
 generalize DV []=D3 at *
 generalize FV []=F3 at *
 refine gg ?_
 refine call hg ?_
 refine gg ?_
 exact enC28
theorem mresult_fine (c:List Ins) (l n h:Nat) (x:It) (hg:AC Tryz.prog gl 84 [.loc 901 0,.pv (.slice [])] (gO0 c l) (.ret (.pv (.tuple [itP x,.int 0]))) [(901,mE c l n),(980,tE h)]) (ho:AC Tryz.prog gl 65 [.pv (itP x)] [] (.ret (.pv (.agg (itCell x)))) []) :
  AC Tryz.prog gl 42 [.loc 901 0] (gO0 c l) (.ret (.pv (.tuple [.agg (itCell x),.int 0]))) [(901,mE c l n),(980,tE h)]:=by
 obtain⟨xk,xn,xa,xs,xt,ex,h5,h6⟩:=itCell_shape x
 have ax:=vcells_one (itP_one x)
 have bx:(V.pv (itP x)).one=true:=by rw [one_pv];exact itP_one x
 have c5:=vcells_one h5
 have c6:=vcells_one h6
 have d5:=onC28 h5
 have d6:=onC28 h6
 rw [ex] at ho ⊢
 clear ex
 refine body [] Tryz.func42 Tryz.ntmps42 ?_ (hna:=by rw [gO0_ex];unfold mB0 tB;simp [subL,namesL,V.names,namesOb,Ob.names,keysO]) (hno:=by simp [subL,Out.names,V.names,namesOb,Ob.names,namesL,mE,tE,keysO])
 unfold mE tE at *
 rw [gO0_ex] at *
 unfold mB0 tB at *
 simp only [Int.natCast_zero] at *
 generalize c.map insP=cc at *
 generalize DI []=D1 at *
 generalize FI []=F1 at *
 generalize DL []=D2 at *
 generalize FL []=F2 at *
 generalize DV []=D3 at *
 generalize FV []=F3 at *
 generalize itP x=px at *
 refine gg ?_
 refine call hg ?_
 refine gg ?_
 refine call ho ?_
 refine gg ?_
 exact enC28
theorem mrun_err (c:List Ins) (l e:Nat) (he:¬ e=0) (hck:AC Tryz.prog gl 41 [.pv (.slice (c.map insP)),.pv (.slice []),.pv (.int l)] [] (.ret (.pv (.int 0))) []) (hg:AC Tryz.prog gl 42 [.loc 901 0] (gO0 c l) (.ret (.pv (.tuple [.agg [.int 0,.int 0,.int 0,.nils,.nils],.int e]))) []) :
  AC Tryz.prog gl 33 [.pv (.slice (c.map insP)),.pv (.int l)] [] (.ret (.pv (.tuple [.agg [.int 0,.int 0,.int 0,.nils,.nils],.int 0,.int 0,.int e]))) []:=by
 have he':¬ (e:Int)=0:=by omega
 have hm:=machine_ok c l
 rw [gO0_ex] at *
 unfold mB0 tB at *
 simp only [Int.natCast_zero] at *
 generalize c.map insP=cc at *
 generalize DI []=D1 at *
 generalize FI []=F1 at *
 generalize DL []=D2 at *
 generalize FL []=F2 at *
 generalize DV []=D3 at *
 generalize FV []=F3 at *
 refine body [] Tryz.func33 Tryz.ntmps33 ?_
 refine gg ?_
 refine call hck ?_
 refine gg ?_
 refine call hm ?_
 refine gg ?_
 refine call hg ?_
 refine gg ?_
 exact enC28
theorem mrun_fine (c:List Ins) (l n h:Nat) (x:It) (hck:AC Tryz.prog gl 41 [.pv (.slice (c.map insP)),.pv (.slice []),.pv (.int l)] [] (.ret (.pv (.int 0))) []) (hg:AC Tryz.prog gl 42 [.loc 901 0] (gO0 c l) (.ret (.pv (.tuple [.agg (itCell x),.int 0]))) [(901,mE c l n),(980,tE h)]) :
  AC Tryz.prog gl 33 [.pv (.slice (c.map insP)),.pv (.int l)] [] (.ret (.pv (.tuple [.agg (itCell x),.int n,.int h,.int 0]))) []:=by
 obtain⟨xk,xn,xa,xs,xt,ex,h5,h6⟩:=itCell_shape x
 have ax:=vcells_one (itP_one x)
 have bx:(V.pv (itP x)).one=true:=by rw [one_pv];exact itP_one x
 have c5:=vcells_one h5
 have c6:=vcells_one h6
 have d5:=onC28 h5
 have d6:=onC28 h6
 rw [ex] at hg ⊢
 clear ex
 have hm:=machine_ok c l
 unfold mE tE at *
 rw [gO0_ex] at *
 unfold mB0 tB at *
 simp only [Int.natCast_zero] at *
 generalize c.map insP=cc at *
 generalize DI []=D1 at *
 generalize FI []=F1 at *
 generalize DL []=D2 at *
 generalize FL []=F2 at *
 generalize DV []=D3 at *
 generalize FV []=F3 at *
 refine body [] Tryz.func33 Tryz.ntmps33 ?_
 refine gg ?_
 refine call hck ?_
 refine gg ?_
 refine call hm ?_
 refine gg ?_
 refine call hg ?_
 refine gg ?_
 refine⟨by rfl,?_⟩
 refine gg ?_
 exact enC28
theorem mretd_0_f (c:List Ins) (l:Nat)  (x:It) (n h:Nat) (w:List PV) (sw:∃ k m s q,w=[.int k,.int m,s,q]∧s.one=true∧q.one=true) (hg:AC Tryz.prog gl 84 [.loc 901 0,.pv (.slice [])] (gO0 c l) (.ret (.pv (.tuple [itP x,.int 0]))) [(901,mE c l n),(980,tE h)])
  (ho:AC Tryz.prog gl 65 [.pv (itP x)] [] (.ret (.pv (.agg (itCell x)))) []) (hv:AC Tryz.prog gl 15 [.pv (.agg (itCell x))] [] (.ret (.pv (.tuple [.agg w,.bool true]))) []) :
  AC Tryz.prog gl 55 [.loc 901 0,.pv (.slice [])] (gO0 c l) (.ret (.pv (.tuple [.agg w,.int 0]))) [(901,mE c l n),(980,tE h)]:=by
 obtain⟨kw,mw,sw,qw,rfl,ow,ow'⟩:=sw
 have ww:=vcells_one ow
 have ww':=vcells_one ow'
 have zw:=onC28 ow
 have zw':=onC28 ow'
 obtain⟨xk,xn,xa,xs,xt,ex,h5,h6⟩:=itCell_shape x
 have ax:=vcells_one (itP_one x)
 have bx:(V.pv (itP x)).one=true:=by rw [one_pv];exact itP_one x
 have c5:=vcells_one h5
 have c6:=vcells_one h6
 have d5:=onC28 h5
 have d6:=onC28 h6
 rw [ex] at ho hv
 clear ex
 refine body [(6,.arr 908 1 132)] Tryz.func55 Tryz.ntmps55 ?_ (hna:=by rw [gO0_ex];unfold mB0 tB;simp [subL,namesL,V.names,namesOb,Ob.names,keysO]) (hno:=by simp [subL,Out.names,V.names,namesOb,Ob.names,namesL,mE,tE,keysO])
 unfold mE tE at *
 rw [gO0_ex] at *
 unfold mB0 tB at *
 simp only [Int.natCast_zero] at *
 generalize c.map insP=cc at *
 generalize DI []=D1 at *
 generalize FI []=F1 at *
 generalize DL []=D2 at *
 generalize FL []=F2 at *
 generalize DV []=D3 at *
 generalize FV []=F3 at *
 generalize itP x=px at *
 refine gg ?_
 refine frz 908 (es:=[]) ?_
 refine ex_loop 1 (ex_round ?_)
 refine gg ?_
 refine call hg ?_
 refine gg ?_
 refine call ho ?_
 refine gg ?_
 refine call hv ?_
 refine gg ?_
 exact enC28
theorem mcall_0_f (c:List Ins) (l:Nat)  (hK:AC Tryz.prog gl 41 [.pv (.slice (c.map insP)),.pv (.slice []),.pv (.int l)] [] (.ret (.pv (.int 0))) []) (n h:Nat) (w:List PV) (sw:∃ k m s q,w=[.int k,.int m,s,q]∧s.one=true∧q.one=true) (hR:AC Tryz.prog gl 55 [.loc 901 0,.pv (.slice [])] (gO0 c l) (.ret (.pv (.tuple [.agg w,.int 0]))) [(901,mE c l n),(980,tE h)]) :
  AC Tryz.prog gl 23 [.pv (.slice (c.map insP)),.pv (.slice []),.pv (.int l)] [] (.ret (.pv (.tuple [.agg w,.int n,.int h,.int 0]))) []:=by
 obtain⟨kw,mw,sw,qw,rfl,ow,ow'⟩:=sw
 have ww:=vcells_one ow
 have ww':=vcells_one ow'
 have zw:=onC28 ow
 have zw':=onC28 ow'
 have hm:=machine_ok c l
 unfold mE tE at *
 rw [gO0_ex] at *
 unfold mB0 tB at *
 simp only [Int.natCast_zero] at *
 generalize c.map insP=cc at *
 generalize DI []=D1 at *
 generalize FI []=F1 at *
 generalize DL []=D2 at *
 generalize FL []=F2 at *
 generalize DV []=D3 at *
 generalize FV []=F3 at *
 refine body [] Tryz.func23 Tryz.ntmps23 ?_
 refine gg ?_
 refine call hK ?_
 refine gg ?_
 refine call hm ?_
 refine gg ?_
 refine call hR ?_
 refine gg ?_
 refine⟨by rfl,?_⟩
 refine gg ?_
 exact enC28
theorem value_flat (k n:Nat) (s:List (List PV)) (hk:¬ k=5) (hs:∀ q∈s,q.length=1) (hl:s.length≤100000):AC Tryz.prog gl 63 [.pv (.agg [.int k,.int n,.int 0,.slice s,.slice []])] [] (.ret (.pv (.tuple [.agg [.int k,.int n,.slice s,.nils],.bool true]))) []:=by
 have k1:¬ (k:Int)=5:=by omega
 refine body [] Tryz.func63 Tryz.ntmps63 ?_
 refine gg ?_
 refine⟨by rfl,?_⟩
 refine gg ?_
 refine ex_loop 1 (ex_round ?_)
 refine gg ?_
 exact enC28
theorem value_two (a b x y:List PV) (sa:∃ (k n:Nat) (s:List (List PV)),a=[.int k,.int n,.slice s,.nils]) (sb:∃ (k n:Nat) (s:List (List PV)),b=[.int k,.int n,.slice s,.nils])
  (sx:∃ (k n a:Nat) (s t:List (List PV)),x=[.int k,.int n,.int a,.slice s,.slice t]) (sy:∃ (k n a:Nat) (s t:List (List PV)),y=[.int k,.int n,.int a,.slice s,.slice t])
  (h1:AC Tryz.prog gl 63 [.pv (.agg x)] [] (.ret (.pv (.tuple [.agg a,.bool true]))) []) (h2:AC Tryz.prog gl 63 [.pv (.agg y)] [] (.ret (.pv (.tuple [.agg b,.bool true]))) []) :
  AC Tryz.prog gl 63 [.pv (.agg [.int 3,.int 0,.int 0,.slice [],.slice [x,y]])] [] (.ret (.pv (.tuple [.agg [.int 3,.int 0,.slice [],.slice [a,b]],.bool true]))) []:=by
 obtain⟨ka,na,s1,rfl⟩:=sa
 obtain⟨kb,nb,s2,rfl⟩:=sb
 obtain⟨kx,nx,ax,sx,tx,rfl⟩:=sx
 obtain⟨ky,ny,ay,sy,ty,rfl⟩:=sy
 refine body [] Tryz.func63 Tryz.ntmps63 ?_
 refine gg ?_
 refine⟨by rfl,?_⟩
 refine gg ?_
 refine th 4 3 984 4 41 ?_
 refine ex_loop 3 (ex_round ?_)
 refine gg ?_
 refine call h1 ?_
 refine gg ?_
 refine ex_round ?_
 refine kp [1,2,3,4,5] [2,4,984] ?_
 refine gg ?_
 refine call h2 ?_
 refine gg ?_
 refine ex_round ?_
 refine kp [1,2,3,4,5] [2,4,984] ?_
 refine frz 984 (es:=[[.int ka,.int na,.slice s1,.nils],[.int kb,.int nb,.slice s2,.nils]]) ?_
 refine gg ?_
 exact enC28
theorem base_facts {B:Nat} (hB:B≤100000) {r:Rs} {t:Ty} (h:RsT B r t) (hp:t = .nat∨t = .list∨t = .unit):∃ (k n:Nat) (s:List (List PV)),valW r=[.int k,.int n,.slice s,.nils]∧rcC (itOf r)=[.int k,.int n,.int 0,.slice s,.slice []] ∧ ¬ k=5∧(∀ q∈s,q.length=1)∧s.length≤100000:=by
 rcases hp with rfl|rfl|rfl<;>cases h
 ·exact⟨1,_,[],rfl,rfl,by decide,by simp,by simp⟩
 ·rename_i l hl _
  exact⟨2,0,numsR l,rfl,rfl,by decide,numsR_all l,by simp [numsR];omega⟩
 ·exact⟨4,0,[],rfl,rfl,by decide,by simp,by simp⟩
theorem value38_ok {B:Nat} (hB:B≤100000) {r:Rs} {t:Ty} (h:RsT B r t) (hp:t.plain):AC Tryz.prog gl 63 [.pv (.agg (rcC (itOf r)))] [] (.ret (.pv (.tuple [.agg (valW r),.bool true]))) []:=by
 have base:∀ {r:Rs} {t:Ty},RsT B r t→(t = .nat∨t = .list∨t = .unit)→AC Tryz.prog gl 63 [.pv (.agg (rcC (itOf r)))] [] (.ret (.pv (.tuple [.agg (valW r),.bool true]))) []:=by
  intro r t h hp
  obtain⟨k,n,s,e1,e2,h0,h1,h2⟩:=base_facts hB h hp
  rw [e1,e2]
  exact value_flat k n s h0 h1 h2
 rcases plain_cases hp with hb|⟨s,hb,rfl⟩
 ·exact base h hb
 ·cases h with
  | @pair a b _ _ ha hb' =>
   have hb2:s = .nat∨s = .list∨s = .unit:=by rcases hb with rfl|rfl<;>simp
   obtain⟨k1,n1,s1,e1,-⟩:=base_facts hB ha (.inl rfl)
   obtain⟨k2,n2,s2,e2,-⟩:=base_facts hB hb' hb2
   exact value_two _ _ _ _ ⟨k1,n1,s1,e1⟩ ⟨k2,n2,s2,e2⟩ (rcC_shape _) (rcC_shape _) (base ha (.inl rfl)) (base hb' hb2)
theorem Value38_ok {B:Nat} (hB:B≤100000) {r:Rs} {t:Ty} (h:RsT B r t) (hp:t.plain):AC Tryz.prog gl 34 [.pv (.agg (rcC (itOf r)))] [] (.ret (.pv (.tuple [.agg (valW r),.bool true]))) []:=by
 have h1:=value38_ok hB h hp
 have h2:=chk_ok hB h hp
 obtain⟨k,m,s,q,e,o1,o2⟩:=valW_shape2 h hp
 obtain⟨kx,nx,ax,sx,tx,ex⟩:=rcC_shape (itOf r)
 have w1:=vcells_one o1
 have w2:=vcells_one o2
 have v1:=onC28 o1
 have v2:=onC28 o2
 rw [e] at h1 h2 ⊢
 rw [ex] at h1 ⊢
 refine body [] Tryz.func34 Tryz.ntmps34 ?_
 refine gg ?_
 refine call h1 ?_
 refine gg ?_
 refine call h2 ?_
 refine gg ?_
 exact enC28
open Go.Lg
set_option maxRecDepth 10000
set_option maxHeartbeats 4000000
theorem go38_0_f (c:List Ins) (l:Nat)  (hF:AC Tryz.prog gl 91 [.pv (.slice (c.map insP)),.pv (.int l)] [] (.ret (.pv (.int 0))) []) (f0:It) (s0:Nat) (hB:BlC c l 0 [] 0 0 (.ok f0 s0)) :
  AC Tryz.prog gl 58 [.pv (.slice (c.map insP)),.pv (.slice []),.pv (.int l),.pv (.bool false)] [] (.ret (.pv (.tuple [.agg (rcC f0),.int s0,.int 0,.int 0]))) []:=by
 obtain⟨k0,n0,a0,t0,u0,e0⟩:=rcC_shape f0
 simp only [BlC,EnC,ocV,ocM,mR,zC,rcL,e0,Int.natCast_zero] at hB ⊢
 generalize c.map insP=cd at *
 clear e0
 refine body [(45,.box 970)] Tryz.func58 Tryz.ntmps58 ?_
 refine gg ?_
 refine call hF ?_
 refine gg ?_
 refine ex_loop 1 (ex_round ?_)
 refine gg ?_
 refine call hB ?_
 refine gg ?_
 refine ex_loop 1 (ex_round ?_)
 refine gg ?_
 refine⟨by rfl,?_⟩
 refine gg ?_
 exact enC28
theorem run38_f (cc:List (List PV)) (l s:Nat) (x:List PV) (sx:∃ (k n a:Nat) (s t:List (List PV)),x=[.int k,.int n,.int a,.slice s,.slice t]) (hG:AC Tryz.prog gl 58 [.pv (.slice cc),.pv (.slice []),.pv (.int l),.pv (.bool false)] [] (.ret (.pv (.tuple [.agg x,.int s,.int 0,.int 0]))) []) :
  AC Tryz.prog gl 56 [.pv (.slice cc),.pv (.int l)] [] (.ret (.pv (.tuple [.agg x,.int s,.int 0]))) []:=by
 obtain⟨kx,nx,ax,tx,ux,rfl⟩:=sx
 refine body [] Tryz.func56 Tryz.ntmps56 ?_
 refine gg ?_
 refine call hG ?_
 refine gg ?_
 exact enC28
end Go.Proofs.YtodjpfpmhjdhbaaGreatDoor
namespace Go.Proofs.YtodjpfpmhjdhbaaGreatDoor
open Go.Lg
set_option maxHeartbeats 4000000
set_option maxRecDepth 10000
theorem vsameW_num (n:Nat):AC Tryz.prog gl 16 [.pv (.agg (valW (.num n))),.pv (.agg (valW (.num n)))] [] (.ret (.pv (.bool true))) []:=by
 have h:=ints_same [] (by simp)
 simp only [numsR,List.map_nil] at h
 simp only [valW]
 refine body [] Tryz.func16 Tryz.ntmps16 ?_
 refine gg ?_
 refine call h ?_
 refine gg ?_
 refine ex_loop 1 (ex_round ?_)
 refine gg ?_
 exact enC28
theorem vsameW_unit:AC Tryz.prog gl 16 [.pv (.agg (valW .unit)),.pv (.agg (valW .unit))] [] (.ret (.pv (.bool true))) []:=by
 have h:=ints_same [] (by simp)
 simp only [numsR,List.map_nil] at h
 simp only [valW]
 refine body [] Tryz.func16 Tryz.ntmps16 ?_
 refine gg ?_
 refine call h ?_
 refine gg ?_
 refine ex_loop 1 (ex_round ?_)
 refine gg ?_
 exact enC28
theorem vsameW_list (l:List Nat) (hl:l.length≤100000):AC Tryz.prog gl 16 [.pv (.agg (valW (.list l))),.pv (.agg (valW (.list l)))] [] (.ret (.pv (.bool true))) []:=by
 have h:=ints_same l hl
 simp only [valW]
 generalize numsR l=cc at *
 refine body [] Tryz.func16 Tryz.ntmps16 ?_
 refine gg ?_
 refine call h ?_
 refine gg ?_
 refine ex_loop 1 (ex_round ?_)
 refine gg ?_
 exact enC28
theorem vsameW_base {B:Nat} (hB:B≤100000) {r:Rs} {t:Ty} (h:RsT B r t) (hp:t = .nat∨t = .list∨t = .unit):AC Tryz.prog gl 16 [.pv (.agg (valW r)),.pv (.agg (valW r))] [] (.ret (.pv (.bool true))) []:=by
 rcases hp with rfl|rfl|rfl
 ·cases h;exact vsameW_num _
 ·cases h with
  | list h1 h2=>exact vsameW_list _ (by omega)
 ·cases h;exact vsameW_unit
theorem vsameW_pair {B:Nat} (hB:B≤100000) {a b:Rs} {s t:Ty} (ha:RsT B a s) (hb:RsT B b t) (hs:s = .nat∨s = .list∨s = .unit) (ht:t = .nat∨t = .list∨t = .unit) :
  AC Tryz.prog gl 16 [.pv (.agg (valW (.pair a b))),.pv (.agg (valW (.pair a b)))] [] (.ret (.pv (.bool true))) []:=by
 have h0:=ints_same [] (by simp)
 simp only [numsR,List.map_nil] at h0
 have h1:=vsameW_base hB ha hs
 have h2:=vsameW_base hB hb ht
 obtain⟨k3,n3,s3,e3,o3⟩:=valW_shape ha hs
 obtain⟨k4,n4,s4,e4,o4⟩:=valW_shape hb ht
 have w3:=vcells_one o3
 have w4:=vcells_one o4
 have v3:=onC28 o3
 have v4:=onC28 o4
 simp only [valW,e3,e4] at h1 h2 ⊢
 clear e3 e4
 refine body [] Tryz.func16 Tryz.ntmps16 ?_
 refine gg ?_
 refine call h0 ?_
 refine gg ?_
 refine ex_loop 3 (ex_round ?_)
 refine gg ?_
 refine call h1 ?_
 refine gg ?_
 refine⟨by rfl,?_⟩
 refine gg ?_
 refine ex_round ?_
 refine gg ?_
 refine call h2 ?_
 refine gg ?_
 refine⟨by rfl,?_⟩
 refine gg ?_
 refine ex_round ?_
 refine gg ?_
 exact enC28
theorem vsameW_ok {B:Nat} (hB:B≤100000) {r:Rs} {t:Ty} (h:RsT B r t) (hp:t.plain):AC Tryz.prog gl 16 [.pv (.agg (valW r)),.pv (.agg (valW r))] [] (.ret (.pv (.bool true))) []:=by
 rcases plain_cases hp with hp|⟨s,hs,rfl⟩
 ·exact vsameW_base hB h hp
 ·cases h with
  | pair ha hb =>
   refine vsameW_pair hB ha hb (.inl rfl) ?_
   rcases hs with rfl|rfl
   ·exact .inr (.inl rfl)
   ·exact .inl rfl
theorem limits39_0:AC Tryz.prog gl 21 [.pv (.int 0)] [] (.ret (.pv (.bool false))) []:=by
 refine body [] Tryz.func21 Tryz.ntmps21 ?_
 refine gg ?_
 exact enC28
theorem limits39_4:AC Tryz.prog gl 21 [.pv (.int 4)] [] (.ret (.pv (.bool true))) []:=by
 refine body [] Tryz.func21 Tryz.ntmps21 ?_
 refine gg ?_
 exact enC28
theorem limits39_5:AC Tryz.prog gl 21 [.pv (.int 5)] [] (.ret (.pv (.bool true))) []:=by
 refine body [] Tryz.func21 Tryz.ntmps21 ?_
 refine gg ?_
 exact enC28
open Go.Lg
set_option maxHeartbeats 4000000
def twT:Tm:=.app (.lam (.fn .nat .nat) (.pair (.app (.var 0) (numT 3)) (.app (.var 0) (numT 3)))) (.lam .nat (.succ (.var 0)))
def twC:List Ins:=[(2,4),(2,18),(3,0),(14,0),(1,0),(4,0),(5,0),(5,0),(5,0),(3,0),(1,0),(4,0),(5,0),(5,0),
 (5,0),(3,0),(10,0),(14,0),(1,0),(5,0),(14,0)]
theorem tw_code:(finC twT).code=twC:=by decide
theorem tw_run:∃ m,RunsM twC 100 mm0 (.stop m)∧m.stack=[.pair (.num 4) (.num 4)]∧m.steps=21∧m.tab.hits=1 :=
 ⟨_,.go rfl (.go rfl (.go rfl (.go rfl (.go rfl (.go rfl (.go rfl (.go rfl (.go rfl (.go rfl (.go rfl (.go rfl (.go rfl (.go rfl (.go rfl (.go rfl (.go rfl (.go rfl (.go rfl (.go rfl (.stop rfl)))))))))))))))))))),rfl,rfl,rfl⟩
theorem tw_typed:HasTy [] twT (.pair .nat .nat) :=
 .app (.lam (.pair (.app (.var rfl) (.succ (.succ (.succ .zero)))) (.app (.var rfl) (.succ (.succ (.succ .zero)))))) (.lam (.succ (.var rfl)))
theorem tw_wf:twT.wf=true:=by decide
theorem tw_size:twT.size≤30:=by decide
theorem tw_good:GoodC twC:=by
 have:=goodC tw_typed (by rw [tw_code];decide) (by have:=tw_size;omega)
 rw [tw_code] at this
 exact this
theorem tw_okc:Okc twC:=by
 have:=fin_okc tw_typed (by rw [tw_code];decide) (by have:=tw_size;omega)
 rw [tw_code] at this
 exact this
theorem tw_p (p op a:Nat) (h:twC[p]? = some (op,a)):p≤1000000:=(tw_okc p op a h).1
theorem nx {vs:List It} {d p:Nat} {st:List It} {s:Nat} {o:Oc} (stk args:List It) (op a:Nat) (y:It) (s':Nat) (hc:twC[p]? = some (op,a)) (hst:st=stk++args) (hs:s<100) (h1:1≤op) (h2:op≤13) (h3:takesP op=args.length)
  (hd:DoC twC 100 op a args vs (s+1) d (.ok y s')) (hle:s+1≤s') (h:BlS twC 100 vs d (p+1) (stk++[y]) s' o):BlS twC 100 vs d p st s o:=by
 subst hst
 exact .next hs hc h1 h2 h3 hd hle h
theorem b18 (n s d:Nat) (hs:s+3≤100) (hn:n≤1000):BlS twC 100 [.num n] d 18 [] s (.ok (.num (n+1)) (s+3)):=by
 refine nx [] [] 1 0 (.num n) (s+1) rfl rfl (by omega) (by omega) (by omega) rfl (do_var _ _ _ _ _ 0 _ rfl (by simp) (by omega)) (by omega) ?_
 refine nx [] [.num n] 5 0 (.num (n+1)) (s+2) rfl rfl (by omega) (by omega) (by omega) rfl (do_succ _ _ _ _ _ n (by omega)) (by omega) ?_
 exact .ret (stk:=[]) (s:=s+2) (by omega) rfl
theorem e18 (n s d:Nat) (hs:s+3≤100) (hn:n≤1000) (hd:d<1000):EnC twC 100 (.fn 18 []) (.num n) s d (.ok (.num (n+1)) (s+3)) :=
 enter_ok twC 100 18 [] _ _ s _ d (by omega) (by decide) (block_of twC 100 tw_p (by omega) _ _ _ _ _ (by omega) (b18 n s (d+1) hs hn))
theorem b4:BlS twC 100 [.fn 18 []] 1 4 [] 3 (.ok (.pair (.num 4) (.num 4)) 23):=by
 refine nx [] [] 1 0 (.fn 18 []) 4 rfl rfl (by omega) (by omega) (by omega) rfl (do_var _ _ _ _ _ 0 _ rfl (by decide) (by omega)) (by omega) ?_
 refine nx [.fn 18 []] [] 4 0 (.num 0) 5 rfl rfl (by omega) (by omega) (by omega) rfl (do_zero _ _ _ _ _) (by omega) ?_
 refine nx [.fn 18 []] [.num 0] 5 0 (.num 1) 6 rfl rfl (by omega) (by omega) (by omega) rfl (do_succ _ _ _ _ _ _ (by omega)) (by omega) ?_
 refine nx [.fn 18 []] [.num 1] 5 0 (.num 2) 7 rfl rfl (by omega) (by omega) (by omega) rfl (do_succ _ _ _ _ _ _ (by omega)) (by omega) ?_
 refine nx [.fn 18 []] [.num 2] 5 0 (.num 3) 8 rfl rfl (by omega) (by omega) (by omega) rfl (do_succ _ _ _ _ _ _ (by omega)) (by omega) ?_
 refine nx [] [.fn 18 [],.num 3] 3 0 (.num 4) 12 rfl rfl (by omega) (by omega) (by omega) rfl (do_app _ _ _ _ _ _ _ _ (e18 3 9 1 (by omega) (by omega) (by omega))) (by omega) ?_
 refine nx [.num 4] [] 1 0 (.fn 18 []) 13 rfl rfl (by omega) (by omega) (by omega) rfl (do_var _ _ _ _ _ 0 _ rfl (by decide) (by omega)) (by omega) ?_
 refine nx [.num 4,.fn 18 []] [] 4 0 (.num 0) 14 rfl rfl (by omega) (by omega) (by omega) rfl (do_zero _ _ _ _ _) (by omega) ?_
 refine nx [.num 4,.fn 18 []] [.num 0] 5 0 (.num 1) 15 rfl rfl (by omega) (by omega) (by omega) rfl (do_succ _ _ _ _ _ _ (by omega)) (by omega) ?_
 refine nx [.num 4,.fn 18 []] [.num 1] 5 0 (.num 2) 16 rfl rfl (by omega) (by omega) (by omega) rfl (do_succ _ _ _ _ _ _ (by omega)) (by omega) ?_
 refine nx [.num 4,.fn 18 []] [.num 2] 5 0 (.num 3) 17 rfl rfl (by omega) (by omega) (by omega) rfl (do_succ _ _ _ _ _ _ (by omega)) (by omega) ?_
 refine nx [.num 4] [.fn 18 [],.num 3] 3 0 (.num 4) 21 rfl rfl (by omega) (by omega) (by omega) rfl (do_app _ _ _ _ _ _ _ _ (e18 3 18 1 (by omega) (by omega) (by omega))) (by omega) ?_
 refine nx [] [.num 4,.num 4] 10 0 (.pair (.num 4) (.num 4)) 22 rfl rfl (by omega) (by omega) (by omega) rfl (do_pair (b:=10) _ _ _ _ _ _ _ (by simp [Bd]) (by simp [Bd]) (by simp [It.more])) (by omega) ?_
 exact .ret (stk:=[]) (s:=22) (by omega) rfl
theorem tw38:BlC twC 100 0 [] 0 0 (.ok (.pair (.num 4) (.num 4)) 24):=by
 refine block_of twC 100 tw_p (by omega) _ _ _ _ _ (by omega) ?_
 refine nx [] [] 2 4 (.fn 4 []) 1 rfl rfl (by omega) (by omega) (by omega) rfl (do_fun (b:=10) _ _ _ _ _ _ trivial (by decide) (by decide)) (by omega) ?_
 refine nx [.fn 4 []] [] 2 18 (.fn 18 []) 2 rfl rfl (by omega) (by omega) (by omega) rfl (do_fun (b:=10) _ _ _ _ _ _ trivial (by decide) (by decide)) (by omega) ?_
 refine nx [] [.fn 4 [],.fn 18 []] 3 0 (.pair (.num 4) (.num 4)) 23 rfl rfl (by omega) (by omega) (by omega) rfl (do_app _ _ _ _ _ _ _ _ (enter_ok twC 100 4 [] _ _ 3 _ 0 (by omega) (by decide) (block_of twC 100 tw_p (by omega) _ _ _ _ _ (by omega) b4))) (by omega) ?_
 exact .ret (stk:=[]) (s:=23) (by omega) rfl
def twV:It:=.pair (.num 4) (.num 4)
def twQ:Rs:=.pair (.num 4) (.num 4)
theorem run38_tw:AC Tryz.prog gl 56 [.pv (.slice (twC.map insP)),.pv (.int 100)] [] (.ret (.pv (.tuple [.agg (rcC twV),.int 24,.int 0]))) []:=by
 have hF:AC Tryz.prog gl 91 [.pv (.slice (twC.map insP)),.pv (.int (100:Nat))] [] (.ret (.pv (.int 0))) []:=by
  have h:=fin_TA twT
  rw [tw_code] at h
  exact fault_ok tw_good h.1 h.2 100 (by omega)
 exact run38_f _ 100 24 _ (rcC_shape _) (go38_0_f twC 100 hF _ 24 tw38)
theorem tw_go:∃ m:Mm,m.steps=21∧m.tab.hits=1∧AC Tryz.prog gl 84 [.loc 901 0,.pv (.slice [])] (gO0 twC 100) (.ret (.pv (.tuple [itP twV,.int 0]))) [(901,mE twC 100 21),(980,tE 1)]:=by
 obtain⟨m,h1,h2,h3,h4⟩:=tw_run
 have:=go_args twC 100 10 tw_okc [] (by simp) (by simp) (by simp) m m _ twV h1 .nil (popM_eq (s:=[]) (by simpa [twV] using h2))
 rw [h3,h4] at this
 exact⟨m,h3,h4,this⟩
theorem tw_check:AC Tryz.prog gl 41 [.pv (.slice (twC.map insP)),.pv (.slice []),.pv (.int (100:Nat))] [] (.ret (.pv (.int 0))) []:=runcheck_ok _ 100 (by omega) (codecheck_ok _ _ rfl (starts_ok twC tw_good))
theorem tw_dat:Dat twV:=.pair (.num _) (.num _)
theorem tw_bd:Bd 10 twV:=by simp [twV,Bd,It.more]
theorem tw_out:AC Tryz.prog gl 65 [.pv (itP twV)] [] (.ret (.pv (.agg (itCell twV)))) []:=outside_ok tw_dat tw_bd
theorem tw_rs:RsT 10 twQ (.pair .nat .nat):=.pair (.num (by omega)) (.num (by omega))
theorem runM_tw:AC Tryz.prog gl 33 [.pv (.slice (twC.map insP)),.pv (.int 100)] [] (.ret (.pv (.tuple [.agg (itCell twV),.int 21,.int 1,.int 0]))) []:=by
 obtain⟨m,-,-,h⟩:=tw_go
 exact mrun_fine twC 100 21 1 twV tw_check (mresult_fine twC 100 21 1 twV h tw_out)
theorem callM_tw:AC Tryz.prog gl 23 [.pv (.slice (twC.map insP)),.pv (.slice []),.pv (.int 100)] [] (.ret (.pv (.tuple [.agg (valW twQ),.int 21,.int 1,.int 0]))) []:=by
 obtain⟨m,-,-,h⟩:=tw_go
 have hp:(Ty.pair .nat .nat).plain:=.inr (.inr rfl)
 have sw:=valW_shape2 tw_rs hp
 exact mcall_0_f twC 100 tw_check 21 1 _ sw (mretd_0_f twC 100 twV 21 1 _ sw h tw_out (value_ok (by omega) tw_rs (.pair (.num _) (.num _)) hp))
set_option maxRecDepth 10000
theorem node5_ok (b:Tm):AC Tryz.prog gl 28 [.pv (.int 5),.pv (.slice [b.cells])] [] (.ret (.pv (.agg (Tm.succ b).cells))) []:=by
 rw [Tm.cells_eq (.succ b)]
 simp only [Tm.kind,Tm.idx,Tm.ty,Tm.args,Ty.cells,List.map_cons,List.map_nil]
 simp only [Ty.kind,Ty.args,List.map_nil]
 generalize b.cells=cb at *
 refine body [] Tryz.func28 Tryz.ntmps28 ?_
 refine gg ?_
 exact enC28
theorem node3_ok (a b:Tm):AC Tryz.prog gl 28 [.pv (.int 3),.pv (.slice [a.cells,b.cells])] [] (.ret (.pv (.agg (Tm.app a b).cells))) []:=by
 rw [Tm.cells_eq (.app a b)]
 simp only [Tm.kind,Tm.idx,Tm.ty,Tm.args,Ty.cells,List.map_cons,List.map_nil]
 simp only [Ty.kind,Ty.args,List.map_nil]
 generalize a.cells=ca at *
 generalize b.cells=cb at *
 refine body [] Tryz.func28 Tryz.ntmps28 ?_
 refine gg ?_
 exact enC28
theorem app24_ok (a b:Tm):AC Tryz.prog gl 29 [.pv (.agg a.cells),.pv (.agg b.cells)] [] (.ret (.pv (.agg (Tm.app a b).cells))) []:=by
 have h:=node3_ok a b
 rw [Tm.cells_eq (.app a b)] at *
 simp only [Tm.kind,Tm.idx,Tm.ty,Tm.args,List.map_cons,List.map_nil] at *
 rw [Tm.cells_eq a,Tm.cells_eq b] at *
 generalize a.args.map Tm.cells=aa at *
 generalize b.args.map Tm.cells=ba at *
 generalize a.ty.args.map Ty.cells=at' at *
 generalize b.ty.args.map Ty.cells=bt at *
 refine body [] Tryz.func29 Tryz.ntmps29 ?_
 refine gg ?_
 refine call h ?_
 refine gg ?_
 exact enC28
theorem fun23_ok (s t:Ty):AC Tryz.prog gl 32 [.pv (.agg s.cells),.pv (.agg t.cells)] [] (.ret (.pv (.agg (Ty.fn s t).cells))) []:=by
 rw [Ty.cells_eq (.fn s t)]
 simp only [Ty.kind,Ty.args,List.map_cons,List.map_nil]
 rw [Ty.cells_eq s,Ty.cells_eq t]
 generalize s.args.map Ty.cells=sa at *
 generalize t.args.map Ty.cells=ta at *
 refine body [] Tryz.func32 Tryz.ntmps32 ?_
 refine gg ?_
 exact enC28
theorem same38_num (n:Nat):AC Tryz.prog gl 57 [.pv (.agg (itCell (.num n))),.pv (.agg (rcC (.num n)))] [] (.ret (.pv (.bool true))) []:=by
 simp only [itCell,rcC]
 refine body [] Tryz.func57 Tryz.ntmps57 ?_
 refine gg ?_
 refine ex_loop 1 (ex_round ?_)
 refine gg ?_
 refine ex_loop 1 (ex_round ?_)
 refine gg ?_
 exact enC28
theorem same38_tw:AC Tryz.prog gl 57 [.pv (.agg (itCell twV)),.pv (.agg (rcC twV))] [] (.ret (.pv (.bool true))) []:=by
 have h:=same38_num 4
 simp only [twV,itCell,rcC,Int.cast_ofNat_Int] at h ⊢
 refine body [] Tryz.func57 Tryz.ntmps57 ?_
 refine gg ?_
 refine ex_loop 1 (ex_round ?_)
 refine gg ?_
 refine ex_loop 3 (ex_round ?_)
 refine gg ?_
 refine call h ?_
 refine gg ?_
 refine⟨by rfl,?_⟩
 refine gg ?_
 refine ex_round ?_
 refine gg ?_
 refine call h ?_
 refine gg ?_
 refine⟨by rfl,?_⟩
 refine gg ?_
 refine ex_round ?_
 refine gg ?_
 exact enC28
theorem awake39_ok:AC Tryz.prog gl 20 [] [] (.ret (.pv (.bool true))) []:=by
 have v0:=var24_ok 0
 have n5:=node5_ok (.var 0)
 have l1:=lam24_ok .nat (.succ (.var 0))
 have n3:=num_ok 3 (by omega)
 have a1:=app24_ok (.var 0) (numT 3)
 have n10:=node_ok (.app (.var 0) (numT 3)) (.app (.var 0) (numT 3))
 have f1:=fun23_ok .nat .nat
 have l2:=lam24_ok (.fn .nat .nat) (.pair (.app (.var 0) (numT 3)) (.app (.var 0) (numT 3)))
 have a2:=app24_ok (.lam (.fn .nat .nat) (.pair (.app (.var 0) (numT 3)) (.app (.var 0) (numT 3)))) (.lam .nat (.succ (.var 0)))
 have c1:=compile_ok twT tw_wf (by have:=tw_size;omega)
 have hle:twC.length≤4096:=by decide
 rw [tw_code,if_pos hle,if_pos hle] at c1
 have r1:=runM_tw
 have r2:=callM_tw
 have r3:=run38_tw
 have s1:=same38_tw
 clear hle
 generalize twC.map insP=cc at *
 simp only [twT,twV,twQ,itCell,rcC,valW,Tm.cells,Tm.node,Tm.kind,Tm.idx,Tm.ty,Tm.args,Ty.cells,Ty.kind,Ty.args,List.map_cons,List.map_nil,Int.cast_ofNat_Int,Int.natCast_zero] at *
 obtain⟨ca,e3⟩:∃ ca,(numT 3).cells=[.int 5,.int 0,.int 0,.slice [],.slice ca]:=⟨_,rfl⟩
 simp only [e3] at *
 clear e3
 refine body [] Tryz.func20 Tryz.ntmps20 ?_
 refine gg ?_
 refine call v0 ?_
 refine gg ?_
 refine call n5 ?_
 refine gg ?_
 refine call l1 ?_
 refine gg ?_
 refine⟨by rfl,?_⟩
 refine gg ?_
 refine call v0 ?_
 refine gg ?_
 refine call n3 ?_
 refine gg ?_
 refine call a1 ?_
 refine gg ?_
 refine call v0 ?_
 refine gg ?_
 refine call n3 ?_
 refine gg ?_
 refine call a1 ?_
 refine gg ?_
 refine call n10 ?_
 refine gg ?_
 refine call f1 ?_
 refine gg ?_
 refine call l2 ?_
 refine gg ?_
 refine call a2 ?_
 refine gg ?_
 refine call c1 ?_
 refine gg ?_
 refine⟨by rfl,?_⟩
 refine gg ?_
 refine call r1 ?_
 refine gg ?_
 refine call r2 ?_
 refine gg ?_
 refine call r3 ?_
 refine gg ?_
 refine call s1 ?_
 refine gg ?_
 exact enC28
end Go.Proofs.YtodjpfpmhjdhbaaGreatDoor
