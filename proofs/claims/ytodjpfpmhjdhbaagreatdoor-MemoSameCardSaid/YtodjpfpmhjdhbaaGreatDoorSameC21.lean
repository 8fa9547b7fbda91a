/- Part of the proof: contracts of the types, terms, the generator and the compiler; no conditions. -/
import Derived.Test.YtodjpfpmhjdhbaaGreatDoorSameC20
import Derived.Test.YtodjpfpmhjdhbaaGreatDoorSameC4
import Derived.Test.YtodjpfpmhjdhbaaGreatDoorSameA14
set_option linter.unusedVariables false
set_option linter.unusedSimpArgs false
set_option linter.unusedSectionVars false
namespace Go.Proofs.YtodjpfpmhjdhbaaGreatDoor
open Go.Lg
theorem enC21 {P Q : Prop} (h : P := by simp [retIs,resV,resL,resOne,mkTup,getS,getO,rdV,mkAgg,unL,V.un,TI.isAgg,XX_T,tt47,Tryz.f123,Tryz.f93,Tryz.f92,Tryz.f143]) (k : Q := by simp [subO,getO,tt47,Tryz.f123,Tryz.f93,Tryz.f92,Tryz.f143]) : P ∧ Q := ⟨h,k⟩
end Go.Proofs.YtodjpfpmhjdhbaaGreatDoor
/- The machine of ref38: an operation that calls no function. -/
namespace Go.Proofs.YtodjpfpmhjdhbaaGreatDoor
open Go.Lg
set_option maxRecDepth 10000
set_option maxHeartbeats 4000000
theorem pvE_cons (p:List PV) (l:List (List PV)):pvE (p::l)=pvL p::pvE l:=rfl
theorem rep_tup {H:Hp} {ps qs:List PV} (hl:ps.length=qs.length) (h:∀ vs,RepL H ps vs→RepL H qs vs):∀ v,RepP H (.tuple ps) v→RepP H (.tuple qs) v:=by
 intro v hr
 simp only [RepP] at hr ⊢
 obtain ⟨vs,e1,e2,e3⟩:=hr
 exact ⟨vs,e1,by omega,h vs e3⟩
def mR (c:List Ins) (l s d:Nat):Ob:=.box [.pv (.slice (c.map insP)),.pv (.int l),.pv (.int s),.pv (.int d),.pv (.bool false),.pv .nils,.pv (.int 0)]
inductive Oc where
 | ok (x:It) (s:Nat)
 | err (e s:Nat)
def zC:List PV:=[.int 0,.int 0,.int 0,.nils,.nils]
def ocV:Oc→PV
 | .ok x _ => .tuple [.agg (rcC x),.int 0]
 | .err e _ => .tuple [.agg zC,.int e]
def ocM (c:List Ins) (l d:Nat):Oc→Ob
 | .ok _ s=>mR c l s d
 | .err _ s=>mR c l s d
def DoC (c:List Ins) (l op a:Nat) (args vs:List It) (s d:Nat) (o:Oc):Prop :=
 AC Tryz.prog gl 123 [.loc 970 0,.pv (.agg [.int op,.int a]),.pv (.slice (args.map rcC)),.pv (.slice (rcL vs))] [(970,mR c l s d)] (.ret (.pv (ocV o))) [(970,ocM c l d o)]
section
variable (c:List Ins) (l s d:Nat) (vs:List It)
theorem do_var (a:Nat) (x:It) (h:vs[a]? = some x) (hl:vs.length≤100000) (ha:a≤1000000):DoC c l 1 a [] vs s d (.ok x s):=by
 obtain ⟨kx,nx,ax,sx,tx,ex⟩:=rcC_shape x
 have hal:∀ q∈rcL vs,q.length=5:=by
  intro e he
  rw [rcL_map] at he
  obtain ⟨x,-,rfl⟩:=List.mem_map.1 he
  obtain ⟨k,n,a,s,t,e⟩:=rcC_shape x
  rw [e];rfl
 have hlt:a<vs.length:=(List.getElem?_eq_some_iff.1 h).1
 have hlen:(rcL vs).length=vs.length:=by rw [rcL_map];simp
 have hg:(rcL vs).getD ((((rcL vs).length:Int)-1-(a:Int)).toNat) []=[.int kx,.int nx,.int ax,.slice sx,.slice tx]:=by
  have e:(((rcL vs).length:Int)-1-(a:Int)).toNat=vs.length-1-a:=by omega
  rw [e,rcL_map,← ex]
  have hr:vs.reverse[vs.length-1-a]? = some x:=by
   rw [List.getElem?_reverse (by omega)]
   rw [show vs.length-1-(vs.length-1-a)=a by omega]
   exact h
  simp only [List.getD_eq_getElem?_getD,List.getElem?_map,hr,Option.map_some,Option.getD_some]
 simp only [DoC,ocV,ocM]
 rw [ex]
 rw [← hlen] at hl hlt
 simp only [mR,List.map_nil]
 generalize rcL vs=cc at *
 generalize c.map insP=cd
 clear hlen h ex
 have k1:¬ (cc.length:Int)≤(a:Int):=by omega
 have k2:(0:Int)≤(cc.length:Int)-1-(a:Int):=by omega
 have k3:(cc.length:Int)-1-(a:Int)<(cc.length:Int):=by omega
 clear hlt
 refine body [] Tryz.func123 Tryz.ntmps123 ?_
 refine gg ?_
 exact enC21
theorem do_zero:DoC c l 4 0 [] vs s d (.ok (.num 0) s):=by
 have h1:=num38_ok 0
 simp only [DoC,ocV,ocM]
 simp only [mR,List.map_nil,rcC,Int.cast_ofNat_Int] at *
 generalize rcL vs=cc at *
 generalize c.map insP=cd
 refine body [] Tryz.func123 Tryz.ntmps123 ?_
 refine gg ?_
 refine call h1 ?_
 refine gg ?_
 exact enC21
theorem do_succ (n:Nat) (hn:n≤1000000):DoC c l 5 0 [.num n] vs s d (.ok (.num (n+1)) s):=by
 have h1:=num38_ok (n+1)
 have e1:((n+1:Nat):Int)=(n:Int)+1:=by omega
 simp only [rcC,e1] at h1
 simp only [DoC,ocV,ocM,zC]
 simp only [mR,e1,List.map_cons,List.map_nil,rcC,Int.cast_ofNat_Int] at *
 generalize rcL vs=cc at *
 generalize c.map insP=cd
 refine body [] Tryz.func123 Tryz.ntmps123 ?_
 refine gg ?_
 refine call h1 ?_
 refine gg ?_
 exact enC21
theorem do_nil  : DoC c l 7 0 [] vs s d (.ok (.list []) s):=by
 have h1:=lst38_ok []
 simp only [nuC,List.map_nil,rcC] at h1
 simp only [DoC,ocV,ocM,zC]
 simp only [mR,List.map_cons,List.map_nil,rcC,nuC,Int.cast_ofNat_Int] at *
 generalize rcL vs=cc at *
 generalize c.map insP=cd
 refine body [] Tryz.func123 Tryz.ntmps123 ?_
 refine gg ?_
 refine call h1 ?_
 refine gg ?_
 exact enC21
theorem do_cons (n:Nat) (L:List Nat) (hL:L.length<1024):DoC c l 8 0 [.num n,.list L] vs s d (.ok (.list (n::L)) s):=by
 have h0:=lst38_ok (n::L)
 have hlen:(nuC L).length=L.length:=by simp [nuC]
 have hcons:nuC (n::L)=[.int n]::nuC L:=rfl
 have hall:∀ q∈nuC L,q.length=1:=by
  intro q hq
  simp only [nuC,List.mem_map] at hq
  obtain ⟨k,_,rfl⟩:=hq
  rfl
 have hone:∀ q∈nuC L,q.all PV.one=true:=by
  intro q hq
  simp only [nuC,List.mem_map] at hq
  obtain ⟨k,_,rfl⟩:=hq
  rfl
 rw [← hlen] at hL
 simp only [rcC,hcons] at h0
 simp only [DoC,ocV,ocM,zC]
 simp only [mR,List.map_cons,List.map_nil,rcC,hcons,Int.cast_ofNat_Int] at *
 generalize rcL vs=cc at *
 generalize c.map insP=cd
 generalize nuC L=nc at *
 clear hlen hcons
 have k1:¬ (1024:Int)≤(nc.length:Int):=by omega
 have h1:=AC.frz (pre:=[]) (post:=[]) (n:=975) (ver:=1) (sz:=1) (ty:=3) h0 (by simp [keysO]) (by simp [keysO])
 have e1:([PV.int n]::nc).length=1+nc.length:=by simp only [List.length_cons];omega
 rw [e1] at h1
 simp only [List.nil_append,pvE_cons] at h1
 clear e1 h0
 refine body [(96,.arr 975 1 3)] Tryz.func123 Tryz.ntmps123 ?_
 refine gg ?_
 refine go ?_ (hc:=by simp only [buildC,and_true,true_and,implies_true,true_implies,and_self];exact ⟨by intro y h;rcases h with rfl | rfl <;> rfl,by intro y h;rcases h with rfl | rfl <;> rfl,hall,hone,by unfold maxLen;omega,by omega⟩)
 refine gg ?_
 refine call h1 ?_
 refine gg ?_
 refine ⟨by rfl,?_⟩
 refine gg ?_
 exact enC21
theorem do_cons_no (n:Nat) (L:List Nat) (hL:1024≤L.length) (hL2:L.length≤1000000):DoC c l 8 0 [.num n,.list L] vs s d (.err 4 s):=by
 have hlen:(nuC L).length=L.length:=by simp [nuC]
 rw [← hlen] at hL hL2
 simp only [DoC,ocV,ocM,zC]
 simp only [mR,List.map_cons,List.map_nil,rcC,Int.cast_ofNat_Int] at *
 generalize rcL vs=cc at *
 generalize c.map insP=cd
 generalize nuC L=nc at *
 clear hlen
 have k1:(1024:Int)≤(nc.length:Int):=by omega
 refine body [] Tryz.func123 Tryz.ntmps123 ?_
 refine gg ?_
 exact enC21
theorem do_fst (x y:It):DoC c l 11 0 [.pair x y] vs s d (.ok x s):=by
 obtain ⟨kx,nx,ax,sx,tx,ex⟩:=rcC_shape x
 obtain ⟨ky,ny,ay,sy,ty,ey⟩:=rcC_shape y
 simp only [DoC,ocV,ocM,zC]
 simp only [mR,List.map_cons,List.map_nil,rcC,ex,ey,Int.cast_ofNat_Int] at *
 generalize rcL vs=cc at *
 generalize c.map insP=cd
 refine body [] Tryz.func123 Tryz.ntmps123 ?_
 refine gg ?_
 exact enC21
theorem do_snd (x y:It):DoC c l 12 0 [.pair x y] vs s d (.ok y s):=by
 obtain ⟨kx,nx,ax,sx,tx,ex⟩:=rcC_shape x
 obtain ⟨ky,ny,ay,sy,ty,ey⟩:=rcC_shape y
 simp only [DoC,ocV,ocM,zC]
 simp only [mR,List.map_cons,List.map_nil,rcC,ex,ey,Int.cast_ofNat_Int] at *
 generalize rcL vs=cc at *
 generalize c.map insP=cd
 refine body [] Tryz.func123 Tryz.ntmps123 ?_
 refine gg ?_
 exact enC21
theorem do_pair {b:Nat} (x y:It) (hx:Bd b x) (hy:Bd b y) (hm:2+x.more+y.more<1024):DoC c l 10 0 [x,y] vs s d (.ok (.pair x y) s):=by
 obtain ⟨kx,nx,ax,sx,tx,ex⟩:=rcC_shape x
 obtain ⟨ky,ny,ay,sy,ty,ey⟩:=rcC_shape y
 have h0:=cells_gen 3 0 0 [] [x,y] (by
  intro z hz
  simp only [List.mem_cons,List.not_mem_nil,or_false] at hz
  rcases hz with e | e
  ·rw [e];exact cells_it x hx
  ·rw [e];exact cells_it y hy) (by simp)
 have hc:=cntS_of [x,y] 1
 simp only [insideL] at hc
 have h1:=AC.le1 (sized_go 3 0 0 [] _ _ h0 (by rw [hc.2 (by omega)];omega)) (fun H v h=>rep_ns (k:=.int 3) (n:=.int 0) (a:=.int 0) v h)
 simp only [List.map_cons,List.map_nil,ex,ey] at h1
 clear h0 hc
 simp only [DoC,ocV,ocM,zC]
 simp only [mR,List.map_cons,List.map_nil,rcC,ex,ey,Int.cast_ofNat_Int] at *
 generalize rcL vs=cc at *
 generalize c.map insP=cd
 refine body [] Tryz.func123 Tryz.ntmps123 ?_
 refine gg ?_
 refine call h1 ?_
 refine gg ?_
 refine ⟨by rfl,?_⟩
 refine gg ?_
 exact enC21
theorem do_pair_no {b:Nat} (x y:It) (hx:Bd b x) (hy:Bd b y) (hm:1024≤2+x.more+y.more):DoC c l 10 0 [x,y] vs s d (.err 4 s):=by
 obtain ⟨kx,nx,ax,sx,tx,ex⟩:=rcC_shape x
 obtain ⟨ky,ny,ay,sy,ty,ey⟩:=rcC_shape y
 have h0:=cells_gen 3 0 0 [] [x,y] (by
  intro z hz
  simp only [List.mem_cons,List.not_mem_nil,or_false] at hz
  rcases hz with e | e
  ·rw [e];exact cells_it x hx
  ·rw [e];exact cells_it y hy) (by simp)
 have hc:=cntS_of [x,y] 1
 simp only [insideL] at hc
 have h1:=AC.le1 (sized_no 3 0 0 [] _ _ h0 (by exact hc.1 (by omega))) (fun H v h=>rep_ns (k:=.int 3) (n:=.int 0) (a:=.int 0) v h)
 simp only [List.map_cons,List.map_nil,ex,ey] at h1
 clear h0 hc
 simp only [DoC,ocV,ocM,zC]
 simp only [mR,List.map_cons,List.map_nil,rcC,ex,ey,Int.cast_ofNat_Int] at *
 generalize rcL vs=cc at *
 generalize c.map insP=cd
 refine body [] Tryz.func123 Tryz.ntmps123 ?_
 refine gg ?_
 refine call h1 ?_
 refine gg ?_
 refine ⟨by rfl,?_⟩
 refine gg ?_
 exact enC21
theorem do_fun {b:Nat} (a:Nat) (hv:BdL b vs) (hl:vs.length≤100000) (hm:insideL vs<1024):DoC c l 2 a [] vs s d (.ok (.fn a vs) s):=by
 have h0:=cells_gen 5 0 a [] vs.reverse (by
  intro z hz
  exact cells_itL vs hv z (List.mem_reverse.1 hz)) (by simp;omega)
 have hc:=cntS_of vs.reverse 1
 rw [inside_rev] at hc
 rw [← rcL_map] at h0
 have h1:=AC.le1 (sized_go 5 0 a [] _ _ h0 (by rw [hc.2 (by omega)];omega)) (fun H v h=>rep_ns (k:=.int 5) (n:=.int 0) (a:=.int a) v h)
 clear h0 hc
 simp only [DoC,ocV,ocM,zC]
 simp only [mR,List.map_cons,List.map_nil,rcC,Int.cast_ofNat_Int] at *
 generalize rcL vs=cc at *
 generalize c.map insP=cd
 refine body [] Tryz.func123 Tryz.ntmps123 ?_
 refine gg ?_
 refine call h1 ?_
 refine gg ?_
 exact enC21
theorem do_fun_no {b:Nat} (a:Nat) (hv:BdL b vs) (hl:vs.length≤100000) (hm:1024≤insideL vs):DoC c l 2 a [] vs s d (.err 4 s):=by
 have h0:=cells_gen 5 0 a [] vs.reverse (by
  intro z hz
  exact cells_itL vs hv z (List.mem_reverse.1 hz)) (by simp;omega)
 have hc:=cntS_of vs.reverse 1
 rw [inside_rev] at hc
 rw [← rcL_map] at h0
 have h1:=AC.le1 (sized_no 5 0 a [] _ _ h0 (by exact hc.1 (by omega))) (fun H v h=>rep_ns (k:=.int 5) (n:=.int 0) (a:=.int a) v h)
 clear h0 hc
 simp only [DoC,ocV,ocM,zC]
 simp only [mR,List.map_cons,List.map_nil,rcC,Int.cast_ofNat_Int] at *
 generalize rcL vs=cc at *
 generalize c.map insP=cd
 refine body [] Tryz.func123 Tryz.ntmps123 ?_
 refine gg ?_
 refine call h1 ?_
 refine gg ?_
 exact enC21
theorem do_unit:DoC c l 13 0 [] vs s d (.ok .unit s):=by
 have hr:∀ (H:Hp) (v:Value),RepP H (.tuple [.agg [.int 4,.int 0,.int 0,.nils,.nils],.int 0]) v→RepP H (.tuple [.agg [.int 4,.int 0,.int 0,.slice [],.slice []],.int 0]) v:=fun H=>rep_tup rfl (repL_cons (fun v h=>rep_nn v h) (fun _ h=>h))
 simp only [DoC,ocV,ocM]
 simp only [mR,List.map_cons,List.map_nil,rcC,Int.cast_ofNat_Int] at *
 generalize rcL vs=cc at *
 generalize c.map insP=cd
 refine AC.leO (p:=.tuple [.agg [.int 4,.int 0,.int 0,.nils,.nils],.int 0]) ?_ hr
 refine body [] Tryz.func123 Tryz.ntmps123 ?_
 refine gg ?_
 exact enC21
end
end Go.Proofs.YtodjpfpmhjdhbaaGreatDoor
/- The machine of ref38: a function is entered. -/
namespace Go.Proofs.YtodjpfpmhjdhbaaGreatDoor
open Go.Lg
set_option maxRecDepth 10000
set_option maxHeartbeats 4000000
def EnC (c:List Ins) (l:Nat) (f x:It) (s d:Nat) (o:Oc):Prop :=
 AC Tryz.prog gl 93 [.loc 970 0,.pv (.agg (rcC f)),.pv (.agg (rcC x))] [(970,mR c l s d)] (.ret (.pv (ocV o))) [(970,ocM c l d o)]
def BlC (c:List Ins) (l p:Nat) (vs:List It) (s d:Nat) (o:Oc):Prop :=
 AC Tryz.prog gl 92 [.loc 970 0,.pv (.int p),.pv (.slice (rcL vs))] [(970,mR c l s d)] (.ret (.pv (ocV o))) [(970,ocM c l d o)]
theorem rcC_len (x:It):(rcC x).length=5:=by
 obtain ⟨k,n,a,s,t,e⟩:=rcC_shape x
 rw [e];rfl
theorem rcC_one (x:It):(rcC x).all PV.one=true:=by
 obtain ⟨k,n,a,s,t,e⟩:=rcC_shape x
 rw [e];rfl
theorem rcL_all (vs:List It):∀ q∈rcL vs,q.length=5:=by
 intro e he
 rw [rcL_map] at he
 obtain ⟨x,-,rfl⟩:=List.mem_map.1 he
 exact rcC_len x
theorem rcL_one (vs:List It):∀ q∈rcL vs,q.all PV.one=true:=by
 intro e he
 rw [rcL_map] at he
 obtain ⟨x,-,rfl⟩:=List.mem_map.1 he
 exact rcC_one x
theorem pvE_app2 (a b:List (List PV)):pvE (a++b)=pvE a++pvE b:=by simp [pvE]
section
variable (c:List Ins) (l:Nat)
theorem enter_full (p:Nat) (ws:List It) (x:It) (s d:Nat) (hd:1024≤d):EnC c l (.fn p ws) x s d (.err 4 s):=by
 obtain ⟨kx,nx,ax,sx,tx,ex⟩:=rcC_shape x
 have k1:(1024:Int)≤(d:Int):=by omega
 simp only [EnC,ocV,ocM,zC]
 simp only [mR,rcC,ex,Int.cast_ofNat_Int]
 generalize rcL ws=cc
 generalize c.map insP=cd
 clear ex hd
 refine body [] Tryz.func93 Tryz.ntmps93 ?_
 refine gg ?_
 exact enC21
theorem enter_ok (p:Nat) (ws:List It) (x y:It) (s s' d:Nat) (hd:d<1024) (hl:ws.length≤100000) (h:BlC c l p (x::ws) s (d+1) (.ok y s')):EnC c l (.fn p ws) x s d (.ok y s'):=by
 obtain ⟨kx,nx,ax,sx,tx,ex⟩:=rcC_shape x
 obtain ⟨ky,ny,ay,sy,ty,ey⟩:=rcC_shape y
 have k1:¬ (1024:Int)≤(d:Int):=by omega
 have e1:((d+1:Nat):Int)=(d:Int)+1:=by omega
 have hall:=rcL_all ws
 have hone:=rcL_one ws
 have hlen:(rcL ws).length=ws.length:=by rw [rcL_map];simp
 simp only [EnC,BlC,ocV,ocM,zC] at *
 simp only [mR,rcC,rcL,ex,ey,e1,Int.cast_ofNat_Int] at *
 rw [← hlen] at hl
 generalize rcL ws=cc at *
 generalize c.map insP=cd at *
 clear ex ey hlen e1
 have h1:=AC.frz (pre:=[.loc 970 0,.pv (.int p)]) (post:=[]) (n:=976) (ver:=2) (sz:=5) (ty:=47) h (by simp [keysO]) (by simp [keysO])
 have e2:(cc++[[PV.int kx,.int nx,.int ax,.slice sx,.slice tx]]).length=cc.length+1:=by simp
 have htk:List.take cc.length cc=cc:=List.take_length
 rw [e2] at h1
 simp only [List.nil_append,List.cons_append,pvE_app2] at h1
 clear e2 h
 refine body [(91,.arr 976 5 47)] Tryz.func93 Tryz.ntmps93 ?_
 refine gg ?_
 refine go ?_ (hc:=by simp only [buildC,and_true,true_and,implies_true,true_implies,and_self];exact ⟨⟨hall,hone,by unfold maxLen;omega,by omega⟩,Nat.le_refl _,by unfold maxLen;omega,by omega⟩)
 refine gg ?_
 refine call h1 ?_
 refine gg ?_
 refine ⟨by rfl,?_⟩
 refine gg ?_
 exact enC21
theorem enter_er (p:Nat) (ws:List It) (x:It) (e s s' d:Nat) (he:0<e) (hd:d<1024) (hl:ws.length≤100000) (h:BlC c l p (x::ws) s (d+1) (.err e s')):EnC c l (.fn p ws) x s d (.err e s'):=by
 obtain ⟨kx,nx,ax,sx,tx,ex⟩:=rcC_shape x
 have k2:¬ (e:Int)=0:=by omega
 have k1:¬ (1024:Int)≤(d:Int):=by omega
 have e1:((d+1:Nat):Int)=(d:Int)+1:=by omega
 have hall:=rcL_all ws
 have hone:=rcL_one ws
 have hlen:(rcL ws).length=ws.length:=by rw [rcL_map];simp
 simp only [EnC,BlC,ocV,ocM,zC] at *
 simp only [mR,rcC,rcL,ex,e1,Int.cast_ofNat_Int] at *
 rw [← hlen] at hl
 generalize rcL ws=cc at *
 generalize c.map insP=cd at *
 clear ex hlen e1
 have h1:=AC.frz (pre:=[.loc 970 0,.pv (.int p)]) (post:=[]) (n:=976) (ver:=2) (sz:=5) (ty:=47) h (by simp [keysO]) (by simp [keysO])
 have e2:(cc++[[PV.int kx,.int nx,.int ax,.slice sx,.slice tx]]).length=cc.length+1:=by simp
 have htk:List.take cc.length cc=cc:=List.take_length
 rw [e2] at h1
 simp only [List.nil_append,List.cons_append,pvE_app2] at h1
 clear e2 h
 refine body [(91,.arr 976 5 47)] Tryz.func93 Tryz.ntmps93 ?_
 refine gg ?_
 refine go ?_ (hc:=by simp only [buildC,and_true,true_and,implies_true,true_implies,and_self];exact ⟨⟨hall,hone,by unfold maxLen;omega,by omega⟩,Nat.le_refl _,by unfold maxLen;omega,by omega⟩)
 refine gg ?_
 refine call h1 ?_
 refine gg ?_
 refine ⟨by rfl,?_⟩
 refine gg ?_
 exact enC21
end
end Go.Proofs.YtodjpfpmhjdhbaaGreatDoor
/- The machine of ref38: a block. -/
namespace Go.Proofs.YtodjpfpmhjdhbaaGreatDoor
open Go.Lg
set_option maxRecDepth 10000
set_option maxHeartbeats 4000000
inductive BlS (c:List Ins) (l:Nat) (vs:List It) (d:Nat):Nat→List It→Nat→Oc→Prop
 | out {p stk s} : l≤s→BlS c l vs d p stk s (.err 5 s)
 | ret {p stk x s} : s<l→c[p]? = some (14,0)→BlS c l vs d p (stk++[x]) s (.ok x (s+1))
 | next {p stk args s op a y s' o} : s<l→c[p]? = some (op,a)→1≤op→op≤13→takesP op=args.length→DoC c l op a args vs (s+1) d (.ok y s')→s+1≤s'→BlS c l vs d (p+1) (stk++[y]) s' o→BlS c l vs d p (stk++args) s o
 | fail {p stk args s op a e s'} : s<l→c[p]? = some (op,a)→1≤op→op≤13→takesP op=args.length→DoC c l op a args vs (s+1) d (.err e s')→0<e→BlS c l vs d p (stk++args) s (.err e s')
def zC5:List V:=[.pv (.int 0),.pv (.int 0),.pv (.int 0),.pv .nils,.pv .nils]
noncomputable def blI (c:List Ins) (l:Nat) (vs:List It) (d p:Nat) (stk:List It) (s:Nat):St :=
 ⟨[(0,.loc 970 0),(1,.pv (.int p)),(2,.pv (.slice (rcL vs))),(6,.loc 6 0),(7,.pv (.int 0)),(8,.pv (.slice (stk.map rcC)))],[(970,mR c l s d),(6,.box zC5)],[6,970]⟩
theorem map_all (L:List It):∀ q∈L.map rcC,q.length=5:=by
 intro e he
 obtain ⟨x,-,rfl⟩:=List.mem_map.1 he
 exact rcC_len x
theorem map_one (L:List It):∀ q∈L.map rcC,q.all PV.one=true:=by
 intro e he
 obtain ⟨x,-,rfl⟩:=List.mem_map.1 he
 exact rcC_one x
theorem code_at {c:List Ins} {p op a:Nat} (h:c[p]? = some (op,a)):(c.map insP).getD p []=[.int op,.int a]∧p<(c.map insP).length ∧ ∀ q∈c.map insP,q.length=2:=by
 refine ⟨?_,?_,?_⟩
 ·simp only [List.getD_eq_getElem?_getD,List.getElem?_map,h,Option.map_some,Option.getD_some,insP]
 ·have:=(List.getElem?_eq_some_iff.1 h).1
  simpa using this
 ·intro q hq
  obtain ⟨x,-,rfl⟩:=List.mem_map.1 hq
  rfl
section
variable (c:List Ins) (l:Nat) (hcode:∀ (p op a:Nat),c[p]? = some (op,a)→p≤1000000) (hl:l≤100000)
include hcode hl
theorem block_of (vs:List It) (d p:Nat) (s:Nat) (o:Oc) (hp:p≤1000000) (h:BlS c l vs d p [] s o):BlC c l p vs s d o:=by
 unfold BlC
 refine body [(76,.arr 977 5 47)] Tryz.func92 Tryz.ntmps92 ?_ (hna:=by simp [subL,namesL,V.names,namesOb,Ob.names,keysO,mR]) (hno:=by cases o <;> simp [subL,Out.names,V.names,namesL,namesOb,Ob.names,keysO,ocM,mR,ocV])
 have hw0:∀ (S:List (Nat × V)),slotsLe (blI c l vs d p [] s).slots S→Weak (XX [(76,.arr 977 5 47)] 80 [970]) ⟨S,(blI c l vs d p [] s).objs,(blI c l vs d p [] s).used⟩ (blI c l vs d p [] s):=by
  intro S hS
  refine ⟨hS,by simp [blI,subO,getO,mR,zC5],by simp [blI,subL,namesSl,V.names,namesOb,Ob.names,namesL,mR,zC5,XX_given]⟩
 have key:∀ (q:Nat × List It × Nat),BlS c l vs d q.1 q.2.1 q.2.2 o→q.1≤1000000→q.2.1.length≤q.2.2→True:=fun _ _ _ _=>trivial
 clear key
 simp only [blI,List.map_nil] at hw0
 have hM:mR c l s d = .box [.pv (.slice (c.map insP)),.pv (.int l),.pv (.int s),.pv (.int d),.pv (.bool false),.pv .nils,.pv (.int 0)]:=rfl
 rw [hM] at hw0 ⊢
 simp only [zC5] at hw0
 clear hM
 refine gg ?_
 refine AWP.loop (ι:={ q:Nat × List It × Nat // BlS c l vs d q.1 q.2.1 q.2.2 o∧q.1≤1000001∧q.2.1.length≤q.2.2 }) (fun q=>blI c l vs d q.1.1 q.1.2.1 q.1.2.2) (fun q=>l-q.1.2.2) ⟨(p,[],s),h,by simp only;omega,Nat.zero_le _⟩ ?_ ?_
 ·exact hw0 _ (by simp [slotsLe,getS])
 clear hw0
 rintro ⟨⟨p,stk,s⟩,h,hp,hst⟩
 simp only at h hp hst ⊢
 cases h with
 | out hs =>
  have k1:(l:Int)≤(s:Int):=by omega
  simp only [blI,mR,zC5,ocV,ocM,zC]
  generalize rcL vs=cv
  generalize c.map insP=cd
  generalize stk.map rcC=cc
  clear hcode hst
  refine gg ?_
  refine ⟨by rfl,?_⟩
  refine gg ?_
  exact enC21
 | @ret _ stk x _ hs hc =>
  have k1:¬ (l:Int)≤(s:Int):=by omega
  obtain ⟨hcd,hpl,hca⟩:=code_at hc
  have hp1:=hcode _ _ _ hc
  have k2:(p:Int)<((c.map insP).length:Int):=by omega
  have k3:(0:Int)≤(p:Int):=by omega
  obtain ⟨kx,nx,ax,sx,tx,ex⟩:=rcC_shape x
  have hall:=map_all (stk++[x])
  have hlen:((stk++[x]).map rcC).length=stk.length+1:=by simp
  simp only [List.length_append,List.length_cons,List.length_nil] at hst
  have hcl:((stk++[x]).map rcC).length≤100000:=by omega
  have k4:(0:Int)≤(((stk++[x]).map rcC).length:Int)-1:=by omega
  have k5:(((stk++[x]).map rcC).length:Int)-1<(((stk++[x]).map rcC).length:Int):=by omega
  have hg:((stk++[x]).map rcC).getD ((((stk++[x]).map rcC).length:Int)-1).toNat []=[.int kx,.int nx,.int ax,.slice sx,.slice tx]:=by
   have e:((((stk++[x]).map rcC).length:Int)-1).toNat=stk.length:=by omega
   rw [e,← ex]
   simp [List.getD]
  have e1:((s+1:Nat):Int)=(s:Int)+1:=by omega
  simp only [blI,mR,zC5,ocV,ocM,zC,ex,e1,Int.cast_ofNat_Int] at hcd ⊢
  generalize rcL vs=cv
  generalize c.map insP=cd at *
  generalize (stk++[x]).map rcC=cc at *
  clear hcode hst hlen hc ex e1 hp h hpl
  refine gg ?_
  refine ⟨by rfl,?_⟩
  refine gg ?_
  exact enC21
 | @next _ stk args _ op a y s' _ hs hc ho1 ho2 htk hdo hss hrest =>
  have k1:¬ (l:Int)≤(s:Int):=by omega
  obtain ⟨hcd,hpl,hca⟩:=code_at hc
  have hp1:=hcode _ _ _ hc
  have k2:(p:Int)<((c.map insP).length:Int):=by omega
  have k3:(0:Int)≤(p:Int):=by omega
  have hst':stk.length+args.length≤s:=by simpa using hst
  have h122:=takes_ok op ho1 ho2
  rw [htk] at h122
  have hdr:((stk++args).map rcC).drop ((((stk++args).map rcC).length:Int)-(args.length:Int)).toNat=args.map rcC:=by
   have e:((((stk++args).map rcC).length:Int)-(args.length:Int)).toNat=(stk.map rcC).length:=by simp
   rw [e,List.map_append,List.drop_left]
  have htt:((stk++args).map rcC).take ((((stk++args).map rcC).length:Int)-(args.length:Int)).toNat=stk.map rcC:=by
   have e:((((stk++args).map rcC).length:Int)-(args.length:Int)).toNat=(stk.map rcC).length:=by simp
   rw [e,List.map_append,List.take_left]
  have hall:=map_all (stk++args)
  have hall2:=map_all stk
  have hone2:=map_one stk
  have hlen:((stk++args).map rcC).length=stk.length+args.length:=by simp
  have hl2:(stk.map rcC).length≤100000:=by simp;omega
  have hcl:((stk++args).map rcC).length≤100000:=by omega
  have k4:(0:Int)≤(((stk++args).map rcC).length:Int)-(args.length:Int):=by omega
  have k5:(((stk++args).map rcC).length:Int)-(args.length:Int)≤(((stk++args).map rcC).length:Int):=by omega
  have k6:¬ (op:Int)=14:=by omega
  have k7:(args.length:Int)≤100000:=by omega
  have k8:(0:Int)≤(args.length:Int):=by omega
  have e1:((s+1:Nat):Int)=(s:Int)+1:=by omega
  obtain ⟨kx,nx,ax,sx,tx,ex⟩:=rcC_shape y
  have hn:∀ σ',Weak (XX [(76,.arr 977 5 47)] 80 [970]) σ' (blI c l vs d (p+1) (stk++[y]) s')→∃ q : { q:Nat × List It × Nat // BlS c l vs d q.1 q.2.1 q.2.2 o∧q.1≤1000001∧q.2.1.length≤q.2.2 },l-q.1.2.2<l-s∧Weak (XX [(76,.arr 977 5 47)] 80 [970]) σ' (blI c l vs d q.1.1 q.1.2.1 q.1.2.2) :=
   fun σ' hw=>⟨⟨(p+1,stk++[y],s'),hrest,by simp only;omega,by simp only [List.length_append,List.length_cons,List.length_nil];omega⟩,by simp only;omega,hw⟩
  have e2:((p+1:Nat):Int)=(p:Int)+1:=by omega
  have htk2:List.take (stk.map rcC).length (stk.map rcC)=stk.map rcC:=List.take_length
  simp only [DoC,ocV,ocM,mR,zC,e1,ex] at hdo
  generalize hPP:(fun σ' => ∃ q : { q:Nat × List It × Nat // BlS c l vs d q.1 q.2.1 q.2.2 o∧q.1≤1000001∧q.2.1.length≤q.2.2 },l-q.1.2.2<l-s∧Weak (XX [(76,.arr 977 5 47)] 80 [970]) σ' (blI c l vs d q.1.1 q.1.2.1 q.1.2.2))=PP
  have hn':∀ σ',Weak (XX [(76,.arr 977 5 47)] 80 [970]) σ' (blI c l vs d (p+1) (stk++[y]) s')→PP σ':=by
   intro σ' h
   rw [← hPP]
   exact hn σ' h
  clear hn hPP
  simp only [blI,mR,zC5,ocV,ocM,zC,e1,e2,List.map_append,List.map_cons,List.map_nil,ex,Int.cast_ofNat_Int] at hcd hn' hdr htt hall hlen hcl k4 k5 ⊢
  generalize rcL vs=cv at *
  generalize c.map insP=cd at *
  rw [← List.map_append] at hdr htt hall hlen hcl k4 k5 ⊢
  generalize (stk++args).map rcC=cc at *
  generalize stk.map rcC=ct at *
  generalize args.map rcC=ca at *
  generalize args.length=na at *
  clear hcode hst hst' hlen hc e1 e2 hp h htk hrest ex hpl
  refine AWP.then_frz ?_
  refine gg ?_
  refine ⟨by rfl,?_⟩
  refine gg ?_
  refine call h122 ?_
  refine gg ?_
  refine call hdo ?_
  refine gg ?_
  refine go ?_ (hc:=by simp only [buildC,and_true,true_and,implies_true,true_implies,and_self];exact ⟨by unfold inI;omega,⟨hall2,hone2,by unfold maxLen;omega,by omega⟩,Nat.le_refl _,by unfold maxLen;omega,by omega⟩)
  refine gg ?_
  refine ⟨by rfl,?_⟩
  refine gg ?_
  have htk3:List.take (ct.length+1) (ct++[[PV.int kx,.int nx,.int ax,.slice sx,.slice tx]])=ct++[[PV.int kx,.int nx,.int ax,.slice sx,.slice tx]]:=List.take_of_length_le (by simp)
  refine ⟨977,2,5,47,ct++[[.int kx,.int nx,.int ax,.slice sx,.slice tx]],?_,hn' _ ⟨?_,?_,?_⟩⟩
  ·simp [getO,pvE_app2,pvE,pvL]
  ·simp [St.frz,frzS,frzA,frzV,frzL,slotsLe,getS,htk3]
  ·simp [St.frz,frzO,frzOb,frzL,frzV,subO,getO]
  ·simp [St.frz,subL,namesSl,V.names,namesOb,Ob.names,namesL,XX_given]
 | @fail _ stk args _ op a e s' hs hc ho1 ho2 htk hdo he =>
  have k1:¬ (l:Int)≤(s:Int):=by omega
  obtain ⟨hcd,hpl,hca⟩:=code_at hc
  have hp1:=hcode _ _ _ hc
  have k2:(p:Int)<((c.map insP).length:Int):=by omega
  have k3:(0:Int)≤(p:Int):=by omega
  have hst':stk.length+args.length≤s:=by simpa using hst
  have h122:=takes_ok op ho1 ho2
  rw [htk] at h122
  have hdr:((stk++args).map rcC).drop ((((stk++args).map rcC).length:Int)-(args.length:Int)).toNat=args.map rcC:=by
   have e:((((stk++args).map rcC).length:Int)-(args.length:Int)).toNat=(stk.map rcC).length:=by simp
   rw [e,List.map_append,List.drop_left]
  have htt:((stk++args).map rcC).take ((((stk++args).map rcC).length:Int)-(args.length:Int)).toNat=stk.map rcC:=by
   have e:((((stk++args).map rcC).length:Int)-(args.length:Int)).toNat=(stk.map rcC).length:=by simp
   rw [e,List.map_append,List.take_left]
  have hall:=map_all (stk++args)
  have hall2:=map_all stk
  have hone2:=map_one stk
  have hlen:((stk++args).map rcC).length=stk.length+args.length:=by simp
  have hl2:(stk.map rcC).length≤100000:=by simp;omega
  have hcl:((stk++args).map rcC).length≤100000:=by omega
  have k4:(0:Int)≤(((stk++args).map rcC).length:Int)-(args.length:Int):=by omega
  have k5:(((stk++args).map rcC).length:Int)-(args.length:Int)≤(((stk++args).map rcC).length:Int):=by omega
  have k6:¬ (op:Int)=14:=by omega
  have k7:(args.length:Int)≤100000:=by omega
  have k8:(0:Int)≤(args.length:Int):=by omega
  have e1:((s+1:Nat):Int)=(s:Int)+1:=by omega
  have k9:¬ (e:Int)=0:=by omega
  simp only [DoC,ocV,ocM,mR,zC,e1] at hdo
  simp only [blI,mR,zC5,ocV,ocM,zC,e1,Int.cast_ofNat_Int] at hcd ⊢
  generalize rcL vs=cv at *
  generalize c.map insP=cd at *
  generalize (stk++args).map rcC=cc at *
  generalize stk.map rcC=ct at *
  generalize args.map rcC=ca at *
  generalize args.length=na at *
  clear hcode hst hst' hlen hc e1 hp h htk hpl
  refine gg ?_
  refine ⟨by rfl,?_⟩
  refine gg ?_
  refine call h122 ?_
  refine gg ?_
  refine call hdo ?_
  refine gg ?_
  exact enC21
end
end Go.Proofs.YtodjpfpmhjdhbaaGreatDoor
/- The machine of ref38: rounds. -/
namespace Go.Proofs.YtodjpfpmhjdhbaaGreatDoor
open Go.Lg
set_option maxRecDepth 10000
set_option maxHeartbeats 4000000
inductive RcS (c:List Ins) (l d:Nat) (f:It) (n:Nat):Nat→It→Nat→Oc→Prop
 | done {b s} : RcS c l d f n n b s (.ok b s)
 | err1 {k b s e s'} : k<n→EnC c l f (.num k) s d (.err e s')→0<e→RcS c l d f n k b s (.err e s')
 | err2 {k b s g s1 e s'} : k<n→EnC c l f (.num k) s d (.ok g s1)→EnC c l g b s1 d (.err e s')→0<e→RcS c l d f n k b s (.err e s')
 | step {k b s g s1 b' s2 o} : k<n→EnC c l f (.num k) s d (.ok g s1)→EnC c l g b s1 d (.ok b' s2)→RcS c l d f n (k+1) b' s2 o→RcS c l d f n k b s o
theorem RcS.le {c:List Ins} {l d:Nat} {f:It} {n k s:Nat} {b:It} {o:Oc} (h:RcS c l d f n k b s o):k≤n:=by
 cases h <;> omega
noncomputable def rcI (c:List Ins) (l d:Nat) (f:It) (n k:Nat) (b:It) (s:Nat):St :=
 ⟨[(0,.loc 970 0),(3,.pv (.int n)),(5,.loc 978 0),(6,.pv (.ptr (rcC f))),(8,.loc 8 0),(9,.pv (.int 0)),(10,.pv (.int k))],[(970,mR c l s d),(978,.box (pvL (rcC b))),(8,.box zC5)],[8,978,970]⟩
section
variable (c:List Ins) (l d:Nat)
theorem rec_of (b f:It) (n s:Nat) (o:Oc) (hn:n≤1000000) (h:RcS c l d f n 0 b s o) :
  AC Tryz.prog gl 143 [.loc 970 0,.pv (.agg (rcC b)),.pv (.agg (rcC f)),.pv (.int n)] [(970,mR c l s d)] (.ret (.pv (ocV o))) [(970,ocM c l d o)]:=by
 refine body [(5,.box 978)] Tryz.func143 Tryz.ntmps143 ?_ (hna:=by simp [subL,namesL,V.names,namesOb,Ob.names,keysO,mR]) (hno:=by cases o <;> simp [subL,Out.names,V.names,namesL,namesOb,Ob.names,keysO,ocM,mR,ocV])
 have hw0:∀ (S:List (Nat × V)) (U:List Nat),slotsLe (rcI c l d f n 0 b s).slots S→Weak (XX [(5,.box 978)] 42 [970]) ⟨S,(rcI c l d f n 0 b s).objs,U⟩ (rcI c l d f n 0 b s):=by
  intro S U hS
  obtain ⟨kx,nx,ax,sx,tx,ex⟩:=rcC_shape b
  refine ⟨hS,by simp [rcI,subO,getO,mR,zC5],by simp [rcI,subL,namesSl,V.names,namesOb,Ob.names,namesL,mR,zC5,XX_given,ex,pvL]⟩
 have hM:mR c l s d = .box [.pv (.slice (c.map insP)),.pv (.int l),.pv (.int s),.pv (.int d),.pv (.bool false),.pv .nils,.pv (.int 0)]:=rfl
 obtain ⟨kf,nf,af,sf,tf,ef⟩:=rcC_shape f
 obtain ⟨kb,nb,ab,sb,tb,eb⟩:=rcC_shape b
 simp only [rcI,hM,zC5,ef,eb,pvL,List.map_cons,List.map_nil,Int.cast_ofNat_Int,Int.natCast_zero] at hw0 ⊢
 refine gg ?_
 refine AWP.loop (ι:={ q:Nat × It × Nat // RcS c l d f n q.1 q.2.1 q.2.2 o }) (fun q=>rcI c l d f n q.1.1 q.1.2.1 q.1.2.2) (fun q=>n-q.1.1) ⟨(0,b,s),h⟩ ?_ ?_
 ·simp only [rcI,hM,zC5,ef,eb,pvL,List.map_cons,List.map_nil,Int.cast_ofNat_Int,Int.natCast_zero]
  exact hw0 _ _ (by simp [slotsLe,getS])
 clear hw0 hM eb h
 rintro ⟨⟨k,r,u⟩,h⟩
 simp only at h ⊢
 have hkn:=h.le
 obtain ⟨kr,nr,ar,sr,tr,er⟩:=rcC_shape r
 have h141:=num38_ok k
 simp only [rcC] at h141
 have k0:(0:Int)≤(k:Int):=by omega
 cases h with
 | done =>
  have k1:¬ (n:Int)<(n:Int):=by omega
  simp only [rcI,mR,zC5,zC,ocV,ocM,ef,er,pvL,List.map_cons,List.map_nil]
  generalize c.map insP=cd at *
  clear ef er
  refine gg ?_
  exact enC21
 | @err1 _ _ _ e s' hk hc1 he =>
  have k1:(k:Int)<(n:Int):=by omega
  have k2:¬ (e:Int)=0:=by omega
  simp only [EnC,ocV,ocM,mR,zC,rcC,ef] at hc1
  simp only [rcI,mR,zC5,zC,ocV,ocM,ef,er,pvL,List.map_cons,List.map_nil]
  generalize c.map insP=cd at *
  clear ef er
  refine gg ?_
  refine call h141 ?_
  refine gg ?_
  refine call hc1 ?_
  refine gg ?_
  refine ⟨by rfl,?_⟩
  refine gg ?_
  exact enC21
 | @err2 _ _ _ g s1 e s' hk hc1 hc2 he =>
  have k1:(k:Int)<(n:Int):=by omega
  have k2:¬ (e:Int)=0:=by omega
  obtain ⟨kg,ng,ag,sg,tg,eg⟩:=rcC_shape g
  simp only [EnC,ocV,ocM,mR,zC,rcC,ef,eg,er] at hc1 hc2
  simp only [rcI,mR,zC5,zC,ocV,ocM,ef,er,pvL,List.map_cons,List.map_nil]
  generalize c.map insP=cd at *
  clear ef er eg
  refine gg ?_
  refine call h141 ?_
  refine gg ?_
  refine call hc1 ?_
  refine gg ?_
  refine ⟨by rfl,?_⟩
  refine gg ?_
  refine call hc2 ?_
  refine gg ?_
  exact enC21
 | @step _ _ _ g s1 b' s2 _ hk hc1 hc2 hrest =>
  have k1:(k:Int)<(n:Int):=by omega
  obtain ⟨kg,ng,ag,sg,tg,eg⟩:=rcC_shape g
  obtain ⟨kq,nq,aq,sq,tq,eq⟩:=rcC_shape b'
  have hn0:∀ σ',Weak (XX [(5,.box 978)] 42 [970]) σ' (rcI c l d f n (k+1) b' s2)→∃ q : { q:Nat × It × Nat // RcS c l d f n q.1 q.2.1 q.2.2 o },n-q.1.1<n-k∧Weak (XX [(5,.box 978)] 42 [970]) σ' (rcI c l d f n q.1.1 q.1.2.1 q.1.2.2):=fun σ' hw=>⟨⟨(k+1,b',s2),hrest⟩,by simp only;omega,hw⟩
  have e1:((k+1:Nat):Int)=(k:Int)+1:=by omega
  simp only [EnC,ocV,ocM,mR,zC,rcC,ef,eg,er,eq] at hc1 hc2
  generalize hPP:(fun σ' => ∃ q : { q:Nat × It × Nat // RcS c l d f n q.1 q.2.1 q.2.2 o },n-q.1.1<n-k∧Weak (XX [(5,.box 978)] 42 [970]) σ' (rcI c l d f n q.1.1 q.1.2.1 q.1.2.2))=PP
  have hn':∀ σ',Weak (XX [(5,.box 978)] 42 [970]) σ' (rcI c l d f n (k+1) b' s2)→PP σ':=by
   intro σ' h
   rw [← hPP]
   exact hn0 σ' h
  clear hn0 hPP hrest
  simp only [rcI,mR,zC5,zC,ocV,ocM,ef,er,eq,e1,pvL,List.map_cons,List.map_nil] at hn' ⊢
  generalize c.map insP=cd at *
  clear ef er eg eq e1
  refine gg ?_
  refine call h141 ?_
  refine gg ?_
  refine call hc1 ?_
  refine gg ?_
  refine ⟨by rfl,?_⟩
  refine gg ?_
  refine call hc2 ?_
  refine gg ?_
  refine hn' _ ⟨?_,?_,?_⟩
  ·simp [slotsLe,getS]
  ·simp [subO,getO]
  ·simp [subL,namesSl,V.names,namesOb,Ob.names,namesL,XX_given]
end
end Go.Proofs.YtodjpfpmhjdhbaaGreatDoor
