/- Contracts of functions; no conditions. -/
import Derived.Test.YtodjpfpmhjdhbaaGreatDoorTwiceC25
set_option linter.all false
theorem Go.Proofs.YtodjpfpmhjdhbaaGreatDoor.onC26 {s : Go.Lg.PV} (h : s.one = true) : (Go.Lg.V.pv s).one = true := by rw [Go.Lg.one_pv]; exact h
namespace Go.Proofs.YtodjpfpmhjdhbaaGreatDoor
open Go.Lg
theorem enC26 {P Q : Prop} (h : P := by simp [retIs,resV,resL,resOne,mkTup,getS,getO,rdV,mkAgg,unL,V.un,TI.isAgg,XX_T,tt41,Tryz.f43,Tryz.f116,Tryz.f136,Tryz.f117,Tryz.f85,Tryz.f44,Tryz.f15,Tryz.f18,Tryz.f12,tt27,Tryz.f118,Tryz.f89,Tryz.f137]) (k : Q := by simp [subO,getO,tt41,Tryz.f43,Tryz.f116,Tryz.f136,Tryz.f117,Tryz.f85,Tryz.f44,Tryz.f15,Tryz.f18,Tryz.f12,tt27,Tryz.f118,Tryz.f89,Tryz.f137]) : P ∧ Q := ⟨h,k⟩
end Go.Proofs.YtodjpfpmhjdhbaaGreatDoor
namespace Go.Proofs.YtodjpfpmhjdhbaaGreatDoor
open Go.Lg
set_option maxRecDepth 10000
set_option maxHeartbeats 4000000
theorem of_num (n c:Nat) (hc:c≤10):AC Tryz.prog gl 43 [.pv (.agg (itCell (.num n))),.loc 906 0] [(906,.box [.pv (.int c)])] (.ret (.pv (.tuple [.agg (valW (.num n)),.bool true]))) [(906,.box [.pv (.int ((c:Int)+1))])]:=by
 have h1:¬ (64:Int)<(c:Int)+1:=by omega
 simp only [itCell,valW]
 refine body [(37,.arr 907 1 3)] Tryz.func43 Tryz.ntmps43 ?_
 refine gg ?_
 refine⟨by rfl,?_⟩
 refine gg ?_
 refine frz 907 (es:=[]) ?_
 refine ex_loop 1 (ex_round ?_)
 refine gg ?_
 exact enC26
theorem of_unit (c:Nat) (hc:c≤10):AC Tryz.prog gl 43 [.pv (.agg (itCell .unit)),.loc 906 0] [(906,.box [.pv (.int c)])] (.ret (.pv (.tuple [.agg (valW .unit),.bool true]))) [(906,.box [.pv (.int ((c:Int)+1))])]:=by
 have h1:¬ (64:Int)<(c:Int)+1:=by omega
 simp only [itCell,valW]
 refine body [(37,.arr 907 1 3)] Tryz.func43 Tryz.ntmps43 ?_
 refine gg ?_
 refine⟨by rfl,?_⟩
 refine gg ?_
 refine frz 907 (es:=[]) ?_
 refine ex_loop 1 (ex_round ?_)
 refine gg ?_
 exact enC26
theorem of_nil (c:Nat) (hc:c≤10):AC Tryz.prog gl 43 [.pv (.agg (itCell (.list []))),.loc 906 0] [(906,.box [.pv (.int c)])] (.ret (.pv (.tuple [.agg (valW (.list [])),.bool true]))) [(906,.box [.pv (.int ((c:Int)+1))])]:=by
 have h1:¬ (64:Int)<(c:Int)+1:=by omega
 simp only [itCell,valW,numsP,numsR,List.map_nil]
 refine body [(37,.arr 907 1 3)] Tryz.func43 Tryz.ntmps43 ?_
 refine gg ?_
 refine⟨by rfl,?_⟩
 refine gg ?_
 refine frz 907 (es:=[]) ?_
 refine ex_loop 1 (ex_round ?_)
 refine gg ?_
 exact enC26
theorem of_cons (l:List Nat) (hl:l≠[]) (hz:l.length≤100000) (c:Nat) (hc:c≤10):AC Tryz.prog gl 43 [.pv (.agg (itCell (.list l))),.loc 906 0] [(906,.box [.pv (.int c)])] (.ret (.pv (.tuple [.agg (valW (.list l)),.bool true]))) [(906,.box [.pv (.int ((c:Int)+1))])]:=by
 have h1:¬ (64:Int)<(c:Int)+1:=by omega
 have e:numsP l = .slice (numsR l):=by cases l with|nil=>exact absurd rfl hl|cons _ _=>rfl
 have hall:=numsR_all l
 have hlz:(numsR l).length≤100000:=by simpa [numsR] using hz
 simp only [itCell,valW,e]
 generalize numsR l=qs at *
 refine body [] Tryz.func43 Tryz.ntmps43 ?_
 refine gg ?_
 refine⟨by rfl,?_⟩
 refine gg ?_
 refine ex_loop 1 (ex_round ?_)
 refine gg ?_
 exact enC26
theorem of_pair (x y:It) (va vb:List PV) (ha:AC Tryz.prog gl 43 [.pv (.agg (itCell x)),.loc 906 0] [(906,.box [.pv (.int 1)])] (.ret (.pv (.tuple [.agg va,.bool true]))) [(906,.box [.pv (.int 2)])])
  (hb:AC Tryz.prog gl 43 [.pv (.agg (itCell y)),.loc 906 0] [(906,.box [.pv (.int 2)])] (.ret (.pv (.tuple [.agg vb,.bool true]))) [(906,.box [.pv (.int 3)])])
  (sa:∃ k n s,va=[.int k,.int n,s,.nils]∧s.one=true) (sb:∃ k n s,vb=[.int k,.int n,s,.nils]∧s.one=true) :
  AC Tryz.prog gl 43 [.pv (.agg (itCell (.pair x y))),.loc 906 0] [(906,.box [.pv (.int 0)])] (.ret (.pv (.tuple [.agg [.int 3,.int 0,.slice [],.slice [va,vb]],.bool true]))) [(906,.box [.pv (.int 3)])]:=by
 obtain⟨k1,n1,s1,rfl,o1⟩:=sa
 obtain⟨k2,n2,s2,rfl,o2⟩:=sb
 obtain⟨k3,n3,a3,s3,s4,ea,hs3,hs4⟩:=itCell_shape x
 obtain⟨k5,n5,a5,s5,s6,eb,hs5,hs6⟩:=itCell_shape y
 have w1:=vcells_one o1
 have w2:=vcells_one o2
 have w3:=vcells_one hs3
 have w4:=vcells_one hs4
 have w5:=vcells_one hs5
 have w6:=vcells_one hs6
 have v1:=onC26 o1
 have v2:=onC26 o2
 have v3:=onC26 hs3
 have v4:=onC26 hs4
 have v5:=onC26 hs5
 have v6:=onC26 hs6
 simp only [itCell,ea,eb] at *
 clear ea eb
 refine body [(37,.arr 907 1 3)] Tryz.func43 Tryz.ntmps43 ?_
 refine gg ?_
 refine⟨by rfl,?_⟩
 refine gg ?_
 refine frz 907 (es:=[]) ?_
 refine th 6 3 908 4 41 ?_
 refine ex_loop 3 (ex_round ?_)
 refine gg ?_
 refine call ha ?_
 refine gg ?_
 refine ex_round ?_
 refine kp [1,2,4,5,6,40,41,42] [4,6,906,908] ?_
 refine gg ?_
 refine call hb ?_
 refine gg ?_
 refine ex_round ?_
 refine frz 908 (es:=[[.int k1,.int n1,s1,.nils],[.int k2,.int n2,s2,.nils]]) ?_
 refine gg ?_
 exact enC26
theorem neg_ok (n:Nat):AC Tryz.prog gl 116 [.pv (.int n)] [] (.ret (.pv (.bool false))) []:=by
 have h:¬ (n:Int)<0:=by omega
 refine body [] Tryz.func116 Tryz.ntmps116 ?_
 refine gg ?_
 exact enC26
noncomputable def ixI (cc:List (List PV)) (k:Nat):St:=⟨[(0,.pv (.slice cc)),(1,.fn 116 []),(6,.pv (.slice cc)),(7,.pv (.int cc.length)),(8,.pv (.int k))],[],[]⟩
theorem idx_ok (l:List Nat) (hl:l.length≤100000):AC Tryz.prog gl 136 [.pv (.slice (numsR l)),.fn 116 []] [] (.ret (.pv (.int (-1)))) []:=by
 have hal:=numsR_all l
 have hlen:(numsR l).length=l.length:=by simp [numsR]
 have hg:∀ k,k<l.length→∃ a:Nat,(numsR l).getD k []=[.int a]:=by
  intro k hk
  refine⟨l[k],?_⟩
  simp [numsR,List.getD,hk]
 generalize numsR l=cc at *
 rw [← hlen] at hg hl
 clear hlen
 refine body [] Tryz.func136 Tryz.ntmps136 ?_
 refine gg ?_
 refine AWP.loopN cc.length (ixI cc) ?_ ?_
 ·refine⟨by simp [ixI,slotsLe,getS],by simp [ixI,subO,getO],by simp [ixI,subL,namesSl,V.names,namesL,namesOb,Ob.names,XX_given]⟩
 intro k hkn
 unfold ixI
 by_cases hk:k<cc.length
 ·obtain⟨a,ha⟩:=hg k hk
  have k1:(k:Int)<cc.length:=by omega
  have k2:(0:Int)≤(k:Int):=by omega
  have hn:=neg_ok a
  clear hg
  refine gg ?_
  refine call hn ?_
  refine gg ?_
  refine⟨hk,?_,?_,?_⟩
  ·simp [slotsLe,getS]
  ·simp [subO,getO]
  ·simp [subL,namesSl,V.names,namesL,namesOb,Ob.names,XX_given]
 ·have k1:¬ (k:Int)<cc.length:=by omega
  clear hg
  refine gg ?_
  exact enC26
theorem cont_ok (l:List Nat) (hl:l.length≤100000):AC Tryz.prog gl 117 [.pv (.slice (numsR l)),.fn 116 []] [] (.ret (.pv (.bool false))) []:=by
 have h:=idx_ok l hl
 generalize numsR l=cc at *
 refine body [] Tryz.func117 Tryz.ntmps117 ?_
 refine gg ?_
 refine call h ?_
 refine gg ?_
 exact enC26
theorem nodes_num (n:Nat):AC Tryz.prog gl 85 [.pv (.agg (valW (.num n)))] [] (.ret (.pv (.tuple [.int 1,.bool true]))) []:=by
 have h:(0:Int)≤n:=by omega
 simp only [valW]
 refine body [] Tryz.func85 Tryz.ntmps85 ?_
 refine gg ?_
 refine ex_loop 1 (ex_round ?_)
 refine gg ?_
 exact enC26
theorem nodes_unit:AC Tryz.prog gl 85 [.pv (.agg (valW .unit))] [] (.ret (.pv (.tuple [.int 1,.bool true]))) []:=by
 simp only [valW]
 refine body [] Tryz.func85 Tryz.ntmps85 ?_
 refine gg ?_
 refine ex_loop 1 (ex_round ?_)
 refine gg ?_
 exact enC26
theorem nodes_list (l:List Nat) (hl:l.length≤100000):AC Tryz.prog gl 85 [.pv (.agg (valW (.list l)))] [] (.ret (.pv (.tuple [.int 1,.bool true]))) []:=by
 have h:=cont_ok l hl
 simp only [valW]
 generalize numsR l=cc at *
 refine body [] Tryz.func85 Tryz.ntmps85 ?_
 refine gg ?_
 refine call h ?_
 refine gg ?_
 refine ex_loop 1 (ex_round ?_)
 refine gg ?_
 exact enC26
theorem nodes_base {B:Nat} (hB:B≤100000) {r:Rs} {t:Ty} (h:RsT B r t) (hp:t = .nat∨t = .list∨t = .unit):AC Tryz.prog gl 85 [.pv (.agg (valW r))] [] (.ret (.pv (.tuple [.int 1,.bool true]))) []:=by
 rcases hp with rfl|rfl|rfl
 ·cases h;exact nodes_num _
 ·cases h with
  | list h1 h2=>exact nodes_list _ (by omega)
 ·cases h;exact nodes_unit
theorem nodes_pair {B:Nat} (hB:B≤100000) {a b:Rs} {s t:Ty} (ha:RsT B a s) (hb:RsT B b t) (hs:s = .nat∨s = .list∨s = .unit) (ht:t = .nat∨t = .list∨t = .unit) :
  AC Tryz.prog gl 85 [.pv (.agg (valW (.pair a b)))] [] (.ret (.pv (.tuple [.int 3,.bool true]))) []:=by
 have h1:=nodes_base hB ha hs
 have h2:=nodes_base hB hb ht
 obtain⟨k5,n5,s5,e5,o5⟩:=valW_shape ha hs
 obtain⟨k6,n6,s6,e6,o6⟩:=valW_shape hb ht
 have w5:=vcells_one o5
 have w6:=vcells_one o6
 have v5:=onC26 o5
 have v6:=onC26 o6
 simp only [valW,e5,e6] at h1 h2 ⊢
 clear e5 e6
 refine body [] Tryz.func85 Tryz.ntmps85 ?_
 refine gg ?_
 refine ex_loop 3 (ex_round ?_)
 refine gg ?_
 refine call h1 ?_
 refine gg ?_
 refine ex_round ?_
 refine kp [1,5,6,82,83,84] [] ?_
 refine gg ?_
 refine call h2 ?_
 refine gg ?_
 refine ex_round ?_
 refine gg ?_
 exact enC26
theorem vcheck_of (v:List PV) (n:Nat) (hn:n≤64) (sv:∃ k m s q,v=[.int k,.int m,s,q]∧s.one=true∧q.one=true) (h:AC Tryz.prog gl 85 [.pv (.agg v)] [] (.ret (.pv (.tuple [.int n,.bool true]))) []):AC Tryz.prog gl 44 [.pv (.agg v)] [] (.ret (.pv (.int 0))) []:=by
 obtain⟨k,m,s,q,rfl,o1,o2⟩:=sv
 have hn':¬ (64:Int)<n:=by omega
 have w1:=vcells_one o1
 have w2:=vcells_one o2
 have v1:=onC26 o1
 have v2:=onC26 o2
 refine body [] Tryz.func44 Tryz.ntmps44 ?_
 refine gg ?_
 refine call h ?_
 refine gg ?_
 exact enC26
theorem value_of (x:It) (v:List PV) (n:Nat) (sv:∃ k m s q,v=[.int k,.int m,s,q]∧s.one=true∧q.one=true) (ho:AC Tryz.prog gl 43 [.pv (.agg (itCell x)),.loc 906 0] [(906,.box [.pv (.int 0)])] (.ret (.pv (.tuple [.agg v,.bool true]))) [(906,.box [.pv (.int n)])])
  (hc:AC Tryz.prog gl 44 [.pv (.agg v)] [] (.ret (.pv (.int 0))) []):AC Tryz.prog gl 15 [.pv (.agg (itCell x))] [] (.ret (.pv (.tuple [.agg v,.bool true]))) []:=by
 obtain⟨k,m,s,q,rfl,o1,o2⟩:=sv
 obtain⟨k3,n3,a3,s3,s4,ea,hs3,hs4⟩:=itCell_shape x
 have w1:=vcells_one o1
 have w2:=vcells_one o2
 have w3:=vcells_one hs3
 have w4:=vcells_one hs4
 have v1:=onC26 o1
 have v2:=onC26 o2
 have v3:=onC26 hs3
 have v4:=onC26 hs4
 simp only [ea] at *
 clear ea
 refine body [(4,.box 906)] Tryz.func15 Tryz.ntmps15 ?_
 refine gg ?_
 refine call ho ?_
 refine gg ?_
 refine call hc ?_
 refine gg ?_
 exact enC26
inductive SameD:It→Rs→Prop
 | num (n):SameD (.num n) (.num n)
 | list (l):SameD (.list l) (.list l)
 | unit:SameD .unit .unit
 | pair {a b x y} : SameD a x→SameD b y→SameD (.pair a b) (.pair x y)
theorem of_base {B:Nat} (hB:B≤100000) {x:It} {r:Rs} {t:Ty} (h:RsT B r t) (hs:SameD x r) (hp:t = .nat∨t = .list∨t = .unit) (c:Nat) (hc:c≤10) :
  AC Tryz.prog gl 43 [.pv (.agg (itCell x)),.loc 906 0] [(906,.box [.pv (.int c)])] (.ret (.pv (.tuple [.agg (valW r),.bool true]))) [(906,.box [.pv (.int ((c:Int)+1))])]:=by
 rcases hp with rfl|rfl|rfl
 ·cases h;cases hs;exact of_num _ c hc
 ·cases h with
  | @list l h1 h2 =>
   cases hs
   by_cases e:l=[]
   ·subst e;exact of_nil c hc
   ·exact of_cons l e (by omega) c hc
 ·cases h;cases hs;exact of_unit c hc
theorem value_ok {B:Nat} (hB:B≤100000) {x:It} {r:Rs} {t:Ty} (h:RsT B r t) (hs:SameD x r) (hp:t.plain):AC Tryz.prog gl 15 [.pv (.agg (itCell x))] [] (.ret (.pv (.tuple [.agg (valW r),.bool true]))) []:=by
 rcases plain_cases hp with hb|⟨s,hb,rfl⟩
 ·obtain⟨k,n,s,e,o⟩:=valW_shape h hb
  have h1:=of_base hB h hs hb 0 (by omega)
  exact value_of x _ 1 ⟨k,n,s,.nils,e,o,rfl⟩ h1 (vcheck_of _ 1 (by omega) ⟨k,n,s,.nils,e,o,rfl⟩ (nodes_base hB h hb))
 ·cases h with
  | @pair a b _ _ ha hb' =>
   cases hs with
   | @pair x1 x2 _ _ s1 s2 =>
    have hb2:s = .nat∨s = .list∨s = .unit:=by rcases hb with rfl|rfl<;>simp
    obtain⟨k,n,q,e,o⟩:=valW_shape ha (.inl rfl)
    obtain⟨k',n',q',e',o'⟩:=valW_shape hb' hb2
    have h1:=of_pair x1 x2 (valW a) (valW b) (of_base hB ha s1 (.inl rfl) 1 (by omega)) (of_base hB hb' s2 hb2 2 (by omega)) ⟨k,n,q,e,o⟩ ⟨k',n',q',e',o'⟩
    exact value_of _ _ 3 ⟨3,0,.slice [],.slice [valW a,valW b],rfl,rfl,rfl⟩ h1 (vcheck_of _ 3 (by omega) ⟨3,0,.slice [],.slice [valW a,valW b],rfl,rfl,rfl⟩ (nodes_pair hB ha hb' (.inl rfl) hb2))
theorem vsame_ok {B:Nat} (hB:B≤100000) {r:Rs} {t:Ty} (h:RsT B r t) (hp:t.plain):AC Tryz.prog gl 16 [.pv (.agg (valC r)),.pv (.agg (valW r))] [] (.ret (.pv (.bool true))) []:=by
 rcases plain_cases hp with hb|⟨s,hb,rfl⟩
 ·exact vsame_base hB h hb
 ·cases h with
  | pair ha hb'=>exact vsame_pair hB ha hb' (.inl rfl) (by rcases hb with rfl|rfl<;>simp)
theorem plain_ok2 {B:Nat} (hB:B≤100000) {r:Rs} {t:Ty} (h:RsT B r t) (hp:t.plain):AC Tryz.prog gl 54 [.pv (.agg (rsC r)),.pv (.agg t.cells)] [] (.ret (.pv (.agg (valC r)))) []:=by
 rcases plain_cases hp with hb|⟨s,hb,rfl⟩
 ·exact plain_base hB h hb
 ·cases h with
  | pair ha hb'=>exact plain_pair hB ha hb' (.inl rfl) (by rcases hb with rfl|rfl<;>simp)
open Go.Lg
set_option maxRecDepth 10000
set_option maxHeartbeats 4000000
theorem call_terr (t:Tm) (most:Nat) (hT:AC Tryz.prog gl 47 [.pv (.slice []),.pv (.agg t.cells)] [] (.ret (.pv (.tuple [.agg [.int 0,.slice []],.int 4]))) []) :
  AC Tryz.prog gl 18 [.pv (.agg t.cells),.pv (.slice []),.pv (.int most)] [] (.ret (.pv (.tuple [.agg [.int 0,.int 0,.nils,.nils],.int 0,.int 4]))) []:=by
 rw [Tm.cells_eq] at *
 generalize t.ty.args.map Ty.cells=ta at *
 generalize t.args.map Tm.cells=tas at *
 refine body [] Tryz.func18 Tryz.ntmps18 ?_
 refine gg ?_
 refine call hT ?_
 refine gg ?_
 exact enC26
theorem call_out (t:Tm) (τ:Ty) (most:Nat) (hm:most≤65536) (r:Rs) (hT:AC Tryz.prog gl 47 [.pv (.slice []),.pv (.agg t.cells)] [] (.ret (.pv (.tuple [.agg τ.cells,.int 0]))) []) (hD:AC Tryz.prog gl 50 [.pv (.agg τ.cells)] [] (.ret (.pv (.tuple [.bool true,.int 0]))) [])
  (hE:EvC t [] 0 most (rsC r) most true) :
  AC Tryz.prog gl 18 [.pv (.agg t.cells),.pv (.slice []),.pv (.int most)] [] (.ret (.pv (.tuple [.agg [.int 0,.int 0,.nils,.nils],.int 0,.int 5]))) []:=by
 have g1:¬ (most:Int)<0:=by omega
 have g2:¬ (65536:Int)<most:=by omega
 obtain⟨n1,l1,p1,k1,i1,tk1,ta1,bs1,f1,er⟩:=rsC_shape r
 unfold EvC mc at hE
 simp only [er,rsE,Int.cast_ofNat_Int] at hE
 rw [Tm.cells_eq] at *
 rw [Ty.cells_eq] at *
 generalize t.ty.args.map Ty.cells=ta at *
 generalize t.args.map Tm.cells=tas at *
 generalize τ.args.map Ty.cells=tta at *
 refine body [(80,.box 970)] Tryz.func18 Tryz.ntmps18 ?_
 refine gg ?_
 refine call hT ?_
 refine gg ?_
 refine ex_loop 1 (ex_round ?_)
 refine gg ?_
 refine call hD ?_
 refine gg ?_
 refine call hE ?_
 refine gg ?_
 refine ex_loop 1 (ex_round ?_)
 refine gg ?_
 exact enC26
theorem call_fine {B:Nat} (hB:B≤100000) (t:Tm) (τ:Ty) (most u:Nat) (hm:most≤65536) (r:Rs) (hr:RsT B r τ) (hp:τ.plain) (hT:AC Tryz.prog gl 47 [.pv (.slice []),.pv (.agg t.cells)] [] (.ret (.pv (.tuple [.agg τ.cells,.int 0]))) [])
  (hE:EvC t [] 0 most (rsC r) u false) (sv:∃ k m s q,valC r=[.int k,.int m,s,q]∧s.one=true∧q.one=true) :
  AC Tryz.prog gl 18 [.pv (.agg t.cells),.pv (.slice []),.pv (.int most)] [] (.ret (.pv (.tuple [.agg (valC r),.int u,.int 0]))) []:=by
 have g1:¬ (most:Int)<0:=by omega
 have g2:¬ (65536:Int)<most:=by omega
 have hD:=tdata_ok τ hp
 have hP:=plain_ok2 hB hr hp
 obtain⟨n1,l1,p1,k1,i1,tk1,ta1,bs1,f1,er⟩:=rsC_shape r
 obtain⟨k,m,s,q,ev,o1,o2⟩:=sv
 have w1:=vcells_one o1
 have w2:=vcells_one o2
 have v1:=onC26 o1
 have v2:=onC26 o2
 unfold EvC mc at hE
 simp only [er,rsE,Int.cast_ofNat_Int] at hE hP
 rw [ev] at hP ⊢
 rw [Tm.cells_eq] at hT hE ⊢
 rw [Ty.cells_eq τ] at hT hD hP
 clear er ev hr hp
 generalize t.ty.args.map Ty.cells=ta at *
 generalize t.args.map Tm.cells=tas at *
 generalize τ.args.map Ty.cells=tta at *
 refine body [(80,.box 970)] Tryz.func18 Tryz.ntmps18 ?_
 refine gg ?_
 refine call hT ?_
 refine gg ?_
 refine ex_loop 1 (ex_round ?_)
 refine gg ?_
 refine call hD ?_
 refine gg ?_
 refine call hE ?_
 refine gg ?_
 refine ex_loop 1 (ex_round ?_)
 refine gg ?_
 refine call hP ?_
 refine gg ?_
 refine⟨by rfl,?_⟩
 refine gg ?_
 exact enC26
theorem eval_of (t:Tm) (most:Nat) (v:List PV) (u e:Int) (sv:∃ k m s q,v=[.int k,.int m,s,q]∧s.one=true∧q.one=true) (h:AC Tryz.prog gl 18 [.pv (.agg t.cells),.pv (.slice []),.pv (.int most)] [] (.ret (.pv (.tuple [.agg v,.int u,.int e]))) []) :
  AC Tryz.prog gl 12 [.pv (.agg t.cells),.pv (.int most)] [] (.ret (.pv (.tuple [.agg v,.int u,.int e]))) []:=by
 obtain⟨k,m,s,q,rfl,o1,o2⟩:=sv
 have w1:=vcells_one o1
 have w2:=vcells_one o2
 have v1:=onC26 o1
 have v2:=onC26 o2
 rw [Tm.cells_eq] at *
 generalize t.ty.args.map Ty.cells=ta at *
 generalize t.args.map Tm.cells=tas at *
 refine body [] Tryz.func12 Tryz.ntmps12 ?_
 refine gg ?_
 refine call h ?_
 refine gg ?_
 exact enC26
def InC (g:List Ty) (t:Tm) (τ:Ty):Prop:=AC Tryz.prog gl 118 [.pv (.slice (g.map Ty.cells)),.pv (.agg t.cells)] [] (.ret (.pv (.tuple [.agg τ.cells,.int 0]))) []
theorem inf_zero (g:List Ty):InC g .zero .nat:=by
 have h1:=nat_ok
 have h2:=list_ok
 have ec:Tm.zero.cells=[.int 4,.int 0,.int 0,.slice [],.slice []]:=by rw [Tm.cells_eq];rfl
 unfold InC
 rw [ec]
 simp only [Ty.cells] at *
 generalize g.map Ty.cells=gs at *
 refine body [(8,.arr 973 2 27)] Tryz.func118 Tryz.ntmps118 ?_
 refine gg ?_
 refine ex_loop 1 (ex_round ?_)
 refine gg ?_
 refine call h1 ?_
 refine gg ?_
 refine call h2 ?_
 refine gg ?_
 exact enC26
theorem inf_nil (g:List Ty):InC g .nil .list:=by
 have h1:=nat_ok
 have h2:=list_ok
 have ec:Tm.nil.cells=[.int 7,.int 0,.int 0,.slice [],.slice []]:=by rw [Tm.cells_eq];rfl
 unfold InC
 rw [ec]
 simp only [Ty.cells] at *
 generalize g.map Ty.cells=gs at *
 refine body [(8,.arr 973 2 27)] Tryz.func118 Tryz.ntmps118 ?_
 refine gg ?_
 refine ex_loop 1 (ex_round ?_)
 refine gg ?_
 refine call h1 ?_
 refine gg ?_
 refine call h2 ?_
 refine gg ?_
 exact enC26
theorem inf_succ (g:List Ty) (a:Tm) (h:InC g a .nat):InC g (.succ a) .nat:=by
 have h1:=nat_ok
 have h2:=list_ok
 have h3:=same_ok .nat .nat
 have ec:(Tm.succ a).cells=[.int 5,.int 0,.int 0,.slice [],.slice [a.cells]]:=by rw [Tm.cells_eq];rfl
 unfold InC at *
 rw [ec]
 rw [Tm.cells_eq a] at *
 simp only [Ty.cells,decide_true] at *
 clear ec
 generalize a.ty.args.map Ty.cells=ta at *
 generalize a.args.map Tm.cells=sa at *
 generalize g.map Ty.cells=gs at *
 refine body [(8,.arr 973 2 27)] Tryz.func118 Tryz.ntmps118 ?_
 refine gg ?_
 refine ex_loop 2 (ex_round ?_)
 refine gg ?_
 refine call h ?_
 refine gg ?_
 refine ex_round ?_
 refine kp [0,3,4,5,8,67,68,69] [4,973] ?_
 refine gg ?_
 refine call h1 ?_
 refine gg ?_
 refine call h2 ?_
 refine gg ?_
 refine call h3 ?_
 refine gg ?_
 refine⟨by rfl,?_⟩
 refine gg ?_
 exact enC26
theorem inf_unit (g:List Ty):InC g .unit .unit:=by
 have h1:=nat_ok
 have h2:=list_ok
 have h3:=unit_ok
 have ec:Tm.unit.cells=[.int 13,.int 0,.int 0,.slice [],.slice []]:=by rw [Tm.cells_eq];rfl
 unfold InC
 rw [ec]
 simp only [Ty.cells] at *
 generalize g.map Ty.cells=gs at *
 refine body [(8,.arr 973 2 27)] Tryz.func118 Tryz.ntmps118 ?_
 refine gg ?_
 refine ex_loop 1 (ex_round ?_)
 refine gg ?_
 refine call h1 ?_
 refine gg ?_
 refine call h2 ?_
 refine gg ?_
 refine call h3 ?_
 refine gg ?_
 exact enC26
theorem inf_fst (g:List Ty) (a:Tm) (s t:Ty) (h:InC g a (.pair s t)):InC g (.fst a) s:=by
 have h1:=nat_ok
 have h2:=list_ok
 have ec:(Tm.fst a).cells=[.int 11,.int 0,.int 0,.slice [],.slice [a.cells]]:=by rw [Tm.cells_eq];rfl
 unfold InC at *
 rw [ec]
 rw [Tm.cells_eq a] at *
 simp only [Ty.cells] at *
 rw [Ty.cells_eq s,Ty.cells_eq t] at h
 rw [Ty.cells_eq s]
 clear ec
 generalize s.args.map Ty.cells=ss at *
 generalize t.args.map Ty.cells=tt at *
 generalize a.ty.args.map Ty.cells=ta at *
 generalize a.args.map Tm.cells=sa at *
 generalize g.map Ty.cells=gs at *
 refine body [(8,.arr 973 2 27)] Tryz.func118 Tryz.ntmps118 ?_
 refine gg ?_
 refine ex_loop 2 (ex_round ?_)
 refine gg ?_
 refine call h ?_
 refine gg ?_
 refine ex_round ?_
 refine kp [0,3,4,5,8,67,68,69] [4,973] ?_
 refine gg ?_
 refine call h1 ?_
 refine gg ?_
 refine call h2 ?_
 refine gg ?_
 exact enC26
theorem inf_snd (g:List Ty) (a:Tm) (s t:Ty) (h:InC g a (.pair s t)):InC g (.snd a) t:=by
 have h1:=nat_ok
 have h2:=list_ok
 have ec:(Tm.snd a).cells=[.int 12,.int 0,.int 0,.slice [],.slice [a.cells]]:=by rw [Tm.cells_eq];rfl
 unfold InC at *
 rw [ec]
 rw [Tm.cells_eq a] at *
 simp only [Ty.cells] at *
 rw [Ty.cells_eq s,Ty.cells_eq t] at h
 rw [Ty.cells_eq t]
 clear ec
 generalize s.args.map Ty.cells=ss at *
 generalize t.args.map Ty.cells=tt at *
 generalize a.ty.args.map Ty.cells=ta at *
 generalize a.args.map Tm.cells=sa at *
 generalize g.map Ty.cells=gs at *
 refine body [(8,.arr 973 2 27)] Tryz.func118 Tryz.ntmps118 ?_
 refine gg ?_
 refine ex_loop 2 (ex_round ?_)
 refine gg ?_
 refine call h ?_
 refine gg ?_
 refine ex_round ?_
 refine kp [0,3,4,5,8,67,68,69] [4,973] ?_
 refine gg ?_
 refine call h1 ?_
 refine gg ?_
 refine call h2 ?_
 refine gg ?_
 exact enC26
theorem inf_cons (g:List Ty) (a b:Tm) (ha:InC g a .nat) (hb:InC g b .list):InC g (.cons a b) .list:=by
 have h1:=nat_ok
 have h2:=list_ok
 have h3:=same_ok .nat .nat
 have h4:=same_ok .list .list
 have ec:(Tm.cons a b).cells=[.int 8,.int 0,.int 0,.slice [],.slice [a.cells,b.cells]]:=by rw [Tm.cells_eq];rfl
 unfold InC at *
 rw [ec]
 rw [Tm.cells_eq a,Tm.cells_eq b]
 rw [Tm.cells_eq a] at ha
 rw [Tm.cells_eq b] at hb
 simp only [Ty.cells,decide_true] at *
 clear ec
 generalize a.ty.args.map Ty.cells=ta at *
 generalize a.args.map Tm.cells=sa at *
 generalize b.ty.args.map Ty.cells=tb at *
 generalize b.args.map Tm.cells=sb at *
 generalize g.map Ty.cells=gs at *
 refine body [(8,.arr 973 2 27)] Tryz.func118 Tryz.ntmps118 ?_
 refine gg ?_
 refine ex_loop 3 (ex_round ?_)
 refine gg ?_
 refine call ha ?_
 refine gg ?_
 refine ex_round ?_
 refine kp [0,3,4,5,8,67,68,69] [4,973] ?_
 refine gg ?_
 refine call hb ?_
 refine gg ?_
 refine ex_round ?_
 refine kp [0,3,4,5,8,67,68,69] [4,973] ?_
 refine gg ?_
 refine call h1 ?_
 refine gg ?_
 refine call h2 ?_
 refine gg ?_
 refine call h3 ?_
 refine gg ?_
 refine call h4 ?_
 refine gg ?_
 refine⟨by rfl,?_⟩
 refine gg ?_
 exact enC26
open Go.Lg
set_option maxRecDepth 10000
set_option maxHeartbeats 4000000
theorem inf_app (g:List Ty) (a b:Tm) (s t:Ty) (ha:InC g a (.fn s t)) (hb:InC g b s):InC g (.app a b) t:=by
 have h1:=nat_ok
 have h2:=list_ok
 have h3:=same_ok s s
 have ec:(Tm.app a b).cells=[.int 3,.int 0,.int 0,.slice [],.slice [a.cells,b.cells]]:=by rw [Tm.cells_eq];rfl
 unfold InC at *
 rw [ec]
 rw [Tm.cells_eq a,Tm.cells_eq b]
 rw [Tm.cells_eq a] at ha
 rw [Tm.cells_eq b] at hb
 simp only [Ty.cells,decide_true] at *
 rw [Ty.cells_eq s,Ty.cells_eq t] at ha
 rw [Ty.cells_eq s] at hb h3
 rw [Ty.cells_eq t]
 clear ec
 generalize s.args.map Ty.cells=ss at *
 generalize t.args.map Ty.cells=tq at *
 generalize a.ty.args.map Ty.cells=ta at *
 generalize a.args.map Tm.cells=sa at *
 generalize b.ty.args.map Ty.cells=tb at *
 generalize b.args.map Tm.cells=sb at *
 generalize g.map Ty.cells=gs at *
 refine body [(8,.arr 973 2 27)] Tryz.func118 Tryz.ntmps118 ?_
 refine gg ?_
 refine ex_loop 3 (ex_round ?_)
 refine gg ?_
 refine call ha ?_
 refine gg ?_
 refine ex_round ?_
 refine kp [0,3,4,5,8,67,68,69] [4,973] ?_
 refine gg ?_
 refine call hb ?_
 refine gg ?_
 refine ex_round ?_
 refine kp [0,3,4,5,8,67,68,69] [4,973] ?_
 refine gg ?_
 refine call h1 ?_
 refine gg ?_
 refine call h2 ?_
 refine gg ?_
 refine call h3 ?_
 refine gg ?_
 refine⟨by rfl,?_⟩
 refine gg ?_
 exact enC26
theorem inf_pair (g:List Ty) (a b:Tm) (s t:Ty) (ha:InC g a s) (hb:InC g b t) (ho:(Ty.pair s t).ok=true) (hz:(Ty.pair s t).size≤64):InC g (.pair a b) (.pair s t):=by
 have h1:=nat_ok
 have h2:=list_ok
 have h3:=two_ok s t
 have h4:=tok_ok (.pair s t) ho hz
 have ec:(Tm.pair a b).cells=[.int 10,.int 0,.int 0,.slice [],.slice [a.cells,b.cells]]:=by rw [Tm.cells_eq];rfl
 unfold InC at *
 rw [ec]
 rw [Tm.cells_eq a,Tm.cells_eq b]
 rw [Tm.cells_eq a] at ha
 rw [Tm.cells_eq b] at hb
 simp only [Ty.cells] at *
 rw [Ty.cells_eq s,Ty.cells_eq t] at h3 h4 ⊢
 rw [Ty.cells_eq s] at ha
 rw [Ty.cells_eq t] at hb
 clear ec
 generalize s.args.map Ty.cells=ss at *
 generalize t.args.map Ty.cells=tq at *
 generalize a.ty.args.map Ty.cells=ta at *
 generalize a.args.map Tm.cells=sa at *
 generalize b.ty.args.map Ty.cells=tb at *
 generalize b.args.map Tm.cells=sb at *
 generalize g.map Ty.cells=gs at *
 refine body [(8,.arr 973 2 27)] Tryz.func118 Tryz.ntmps118 ?_
 refine gg ?_
 refine ex_loop 3 (ex_round ?_)
 refine gg ?_
 refine call ha ?_
 refine gg ?_
 refine ex_round ?_
 refine kp [0,3,4,5,8,67,68,69] [4,973] ?_
 refine gg ?_
 refine call hb ?_
 refine gg ?_
 refine ex_round ?_
 refine kp [0,3,4,5,8,67,68,69] [4,973] ?_
 refine gg ?_
 refine call h1 ?_
 refine gg ?_
 refine call h2 ?_
 refine gg ?_
 refine call h3 ?_
 refine gg ?_
 refine call h4 ?_
 refine gg ?_
 refine⟨by rfl,?_⟩
 refine gg ?_
 exact enC26
theorem fun_ok (a b:Ty):AC Tryz.prog gl 104 [.pv (.agg a.cells),.pv (.agg b.cells)] [] (.ret (.pv (.agg (Ty.fn a b).cells))) []:=by
 refine body [] Tryz.func104 Tryz.ntmps104 ?_
 have ha:=copy_ok a
 have hb:=copy_ok b
 simp only [Ty.cells]
 rw [a.cells_eq] at ha ⊢
 rw [b.cells_eq] at hb ⊢
 refine gg ?_
 refine call ha ?_
 refine gg ?_
 refine call hb ?_
 refine gg ?_
 refine⟨by rfl,?_⟩
 refine gg ?_
 exact⟨by simp [retIs,resV,resL,resOne,mkTup,getS,getO,rdV,mkAgg,unL,V.un,TI.isAgg,XX_T,tt27,Tryz.f104,Ty.cells,Ty.cells_eq],by simp [subO,getO,tt27,Tryz.f104,Ty.cells,Ty.cells_eq]⟩
theorem inf_var (g:List Ty) (i:Nat) (τ:Ty) (hi:g.reverse[i]? = some τ) (hl:g.length≤5000):InC g (.var i) τ:=by
 have h:=copy_ok τ
 have hil:i<g.length:=by have:=(List.getElem?_eq_some_iff.1 hi).1;simpa using this
 have ec:(Tm.var i).cells=[.int 1,.int i,.int 0,.slice [],.slice []]:=by rw [Tm.cells_eq];rfl
 have hle:(g.map Ty.cells).length=g.length:=by simp
 have hal:∀ y∈g.map Ty.cells,y.length=2:=by
  intro y hy
  obtain⟨s,_,rfl⟩:=List.mem_map.1 hy
  rw [Ty.cells_eq];rfl
 have hg:(g.map Ty.cells).getD (g.length-1-i) []=τ.cells:=by
  rw [List.getElem?_reverse (by omega)] at hi
  simp [List.getD,hi]
 have g0:¬ (g.length:Int)≤i:=by omega
 have g1:((g.length:Int)-1-i).toNat=g.length-1-i:=by omega
 have g2:(0:Int)≤(g.length:Int)-1-i:=by omega
 have g3:(g.length:Int)-1-i<g.length:=by omega
 unfold InC
 rw [ec]
 rw [Ty.cells_eq τ] at *
 clear hi ec
 generalize τ.args.map Ty.cells=ts at *
 generalize g.map Ty.cells=gs at *
 generalize g.length=gn at *
 refine body [(8,.arr 973 2 27)] Tryz.func118 Tryz.ntmps118 ?_
 refine gg ?_
 refine call h ?_
 refine gg ?_
 exact enC26
theorem inf_lam (g:List Ty) (s:Ty) (b:Tm) (t:Ty) (hb:InC (g++[s]) b t) (ho:(Ty.fn s t).ok=true) (hz:(Ty.fn s t).size≤64) (hl:g.length≤5000):InC g (.lam s b) (.fn s t):=by
 have h3:=fun_ok s t
 have h4:=tok_ok (.fn s t) ho hz
 have ec:(Tm.lam s b).cells=[.int 2,.int 0,.int s.kind,.slice (s.args.map Ty.cells),.slice [b.cells]]:=by rw [Tm.cells_eq];rfl
 have hle:(g.map Ty.cells).length=g.length:=by simp
 have hal:∀ y∈g.map Ty.cells,y.length=2:=by
  intro y hy
  obtain⟨s,_,rfl⟩:=List.mem_map.1 hy
  rw [Ty.cells_eq];rfl
 unfold InC at *
 rw [ec]
 rw [Tm.cells_eq b] at *
 simp only [Ty.cells,List.map_append,List.map_cons,List.map_nil] at *
 rw [Ty.cells_eq s] at hb
 rw [Ty.cells_eq s,Ty.cells_eq t] at h3 h4 ⊢
 rw [Ty.cells_eq t] at hb
 clear ec
 generalize s.args.map Ty.cells=ss at *
 generalize t.args.map Ty.cells=ts at *
 generalize b.ty.args.map Ty.cells=tb at *
 generalize b.args.map Tm.cells=sb at *
 generalize g.map Ty.cells=gs at *
 refine body [(8,.arr 973 2 27)] Tryz.func118 Tryz.ntmps118 ?_
 refine gg ?_
 refine go ?_ (hc:=by simp only [buildC,and_true,true_and,implies_true,true_implies,and_self];exact⟨hal,by unfold maxLen;omega,by omega⟩)
 refine gg ?_
 refine call hb ?_
 refine gg ?_
 refine⟨by rfl,?_⟩
 refine gg ?_
 refine call h3 ?_
 refine gg ?_
 refine call h4 ?_
 refine gg ?_
 exact enC26
open Go.Lg
set_option maxRecDepth 10000
set_option maxHeartbeats 4000000
theorem inf_recn (g:List Ty) (s:Ty) (a b d:Tm) (ha:InC g a s) (hb:InC g b (.fn .nat (.fn s s))) (hd:InC g d .nat):InC g (.recn s a b d) s:=by
 have h1:=nat_ok
 have h2:=list_ok
 have m1:=same_ok s s
 have m2:=same_ok (.fn .nat (.fn s s)) (.fn .nat (.fn s s))
 have m3:=same_ok .nat .nat
 have cp:=copy_ok s
 have f1:=fun_ok s s
 have f2:=fun_ok .nat (.fn s s)
 have ec:(Tm.recn s a b d).cells=[.int 6,.int 0,.int s.kind,.slice (s.args.map Ty.cells),.slice [a.cells,b.cells,d.cells]]:=by rw [Tm.cells_eq];rfl
 unfold InC at *
 rw [ec]
 rw [Tm.cells_eq a,Tm.cells_eq b,Tm.cells_eq d]
 rw [Tm.cells_eq a] at ha
 rw [Tm.cells_eq b] at hb
 rw [Tm.cells_eq d] at hd
 simp only [Ty.cells,decide_true] at *
 simp only [Ty.cells_eq s] at *
 clear ec
 generalize s.args.map Ty.cells=ss at *
 generalize a.ty.args.map Ty.cells=ta at *
 generalize a.args.map Tm.cells=sa at *
 generalize b.ty.args.map Ty.cells=tb at *
 generalize b.args.map Tm.cells=sb at *
 generalize d.ty.args.map Ty.cells=td at *
 generalize d.args.map Tm.cells=sd at *
 generalize g.map Ty.cells=gs at *
 refine body [(8,.arr 973 2 27)] Tryz.func118 Tryz.ntmps118 ?_
 refine gg ?_
 refine ex_loop 4 (ex_round ?_)
 refine gg ?_
 refine call ha ?_
 refine gg ?_
 refine ex_round ?_
 refine kp [0,3,4,5,8,67,68,69] [4,973] ?_
 refine gg ?_
 refine call hb ?_
 refine gg ?_
 refine ex_round ?_
 refine kp [0,3,4,5,8,67,68,69] [4,973] ?_
 refine gg ?_
 refine call hd ?_
 refine gg ?_
 refine ex_round ?_
 refine kp [0,3,4,5,8,67,68,69] [4,973] ?_
 refine gg ?_
 refine call h1 ?_
 refine gg ?_
 refine call h2 ?_
 refine gg ?_
 refine call m1 ?_
 refine gg ?_
 refine call f1 ?_
 refine gg ?_
 refine call f2 ?_
 refine gg ?_
 refine call m2 ?_
 refine gg ?_
 refine call m3 ?_
 refine gg ?_
 refine⟨by rfl,?_⟩
 refine gg ?_
 refine call cp ?_
 refine gg ?_
 exact enC26
theorem inf_fold (g:List Ty) (s:Ty) (a b d:Tm) (ha:InC g a s) (hb:InC g b (.fn .nat (.fn .list (.fn s s)))) (hd:InC g d .list):InC g (.fold s a b d) s:=by
 have h1:=nat_ok
 have h2:=list_ok
 have m1:=same_ok s s
 have m2:=same_ok (.fn .nat (.fn .list (.fn s s))) (.fn .nat (.fn .list (.fn s s)))
 have m3:=same_ok .list .list
 have cp:=copy_ok s
 have f1:=fun_ok s s
 have f2:=fun_ok .list (.fn s s)
 have f3:=fun_ok .nat (.fn .list (.fn s s))
 have ec:(Tm.fold s a b d).cells=[.int 9,.int 0,.int s.kind,.slice (s.args.map Ty.cells),.slice [a.cells,b.cells,d.cells]]:=by rw [Tm.cells_eq];rfl
 unfold InC at *
 rw [ec]
 rw [Tm.cells_eq a,Tm.cells_eq b,Tm.cells_eq d]
 rw [Tm.cells_eq a] at ha
 rw [Tm.cells_eq b] at hb
 rw [Tm.cells_eq d] at hd
 simp only [Ty.cells,decide_true] at *
 simp only [Ty.cells_eq s] at *
 clear ec
 generalize s.args.map Ty.cells=ss at *
 generalize a.ty.args.map Ty.cells=ta at *
 generalize a.args.map Tm.cells=sa at *
 generalize b.ty.args.map Ty.cells=tb at *
 generalize b.args.map Tm.cells=sb at *
 generalize d.ty.args.map Ty.cells=td at *
 generalize d.args.map Tm.cells=sd at *
 generalize g.map Ty.cells=gs at *
 refine body [(8,.arr 973 2 27)] Tryz.func118 Tryz.ntmps118 ?_
 refine gg ?_
 refine ex_loop 4 (ex_round ?_)
 refine gg ?_
 refine call ha ?_
 refine gg ?_
 refine ex_round ?_
 refine kp [0,3,4,5,8,67,68,69] [4,973] ?_
 refine gg ?_
 refine call hb ?_
 refine gg ?_
 refine ex_round ?_
 refine kp [0,3,4,5,8,67,68,69] [4,973] ?_
 refine gg ?_
 refine call hd ?_
 refine gg ?_
 refine ex_round ?_
 refine kp [0,3,4,5,8,67,68,69] [4,973] ?_
 refine gg ?_
 refine call h1 ?_
 refine gg ?_
 refine call h2 ?_
 refine gg ?_
 refine call m1 ?_
 refine gg ?_
 refine call f1 ?_
 refine gg ?_
 refine call f2 ?_
 refine gg ?_
 refine call f3 ?_
 refine gg ?_
 refine call m2 ?_
 refine gg ?_
 refine call m3 ?_
 refine gg ?_
 refine⟨by rfl,?_⟩
 refine gg ?_
 refine call cp ?_
 refine gg ?_
 exact enC26
theorem tycheck_big (t:Ty) (hs:t.ok=true) (hz:64<t.size) (hb:t.size≤1000):AC Tryz.prog gl 89 [.pv (.agg t.cells)] [] (.ret (.pv (.int 4))) []:=by
 have h1:=shape_ok t hs
 have h2:=size_ok t (by omega)
 have h3:(64:Int)<t.size:=by omega
 refine body [] Tryz.func89 Tryz.ntmps89 ?_
 rw [Ty.cells_eq] at h1 h2 ⊢
 refine gg ?_
 refine call h1 ?_
 refine gg ?_
 refine call h2 ?_
 refine gg ?_
 exact enC26
theorem tok_big (t:Ty) (hs:t.ok=true) (hz:64<t.size) (hb:t.size≤1000):AC Tryz.prog gl 137 [.pv (.agg t.cells)] [] (.ret (.pv (.tuple [.agg [.int 0,.slice []],.int 4]))) []:=by
 have h:=tycheck_big t hs hz hb
 rw [t.cells_eq] at *
 generalize t.args.map Ty.cells=ta at *
 refine body [] Tryz.func137 Tryz.ntmps137 ?_
 refine gg ?_
 refine call h ?_
 refine gg ?_
 exact enC26
end Go.Proofs.YtodjpfpmhjdhbaaGreatDoor
