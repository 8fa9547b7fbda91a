/- Contracts of functions; no conditions. -/
import Derived.Test.YtodjpfpmhjdhbaaGreatDoorTwiceC2
set_option linter.all false
namespace Go.Proofs.YtodjpfpmhjdhbaaGreatDoor
open Go.Lg
theorem enC3 {P Q : Prop} (h : P := by simp [retIs,resV,resL,resOne,mkTup,getS,getO,rdV,mkAgg,unL,V.un,TI.isAgg,XX_T,tt30]) (k : Q := by simp [subO,getO,tt30]) : P ∧ Q := ⟨h,k⟩
end Go.Proofs.YtodjpfpmhjdhbaaGreatDoor
namespace Go.Proofs.YtodjpfpmhjdhbaaGreatDoor
open Go.Lg
set_option maxRecDepth 10000
set_option maxHeartbeats 4000000
inductive HasTy:List Ty→Tm→Ty→Prop where
 | var {g i t} : g.reverse[i]? = some t→HasTy g (.var i) t
 | lam {g s b t} : HasTy (g++[s]) b t→HasTy g (.lam s b) (.fn s t)
 | app {g f a s t} : HasTy g f (.fn s t)→HasTy g a s→HasTy g (.app f a) t
 | zero {g} : HasTy g .zero .nat
 | succ {g a} : HasTy g a .nat→HasTy g (.succ a) .nat
 | recn {g t a b c} : HasTy g a t→HasTy g b (.fn .nat (.fn t t))→HasTy g c .nat→HasTy g (.recn t a b c) t
 | nil {g} : HasTy g .nil .list
 | cons {g a b} : HasTy g a .nat→HasTy g b .list→HasTy g (.cons a b) .list
 | fold {g t a b c} : HasTy g a t→HasTy g b (.fn .nat (.fn .list (.fn t t)))→HasTy g c .list→HasTy g (.fold t a b c) t
 | pair {g a b s t} : HasTy g a s→HasTy g b t→HasTy g (.pair a b) (.pair s t)
 | fst {g a s t} : HasTy g a (.pair s t)→HasTy g (.fst a) s
 | snd {g a s t} : HasTy g a (.pair s t)→HasTy g (.snd a) t
 | unit {g} : HasTy g .unit .unit
def Sz:Nat→Nat
 | 0=>9
 | n+1=>3 * Sz n+40
structure Good (g:List Ty) (t:Ty) (n:Nat) (tm:Tm):Prop where
 ty:HasTy g tm t
 wf:tm.wf=true
 size:tm.size≤Sz n
 small:n=0→t.base→tm.size≤4
theorem Sz_ge (n:Nat):9≤Sz n:=by cases n<;>simp [Sz]<;>omega
theorem num_good (g:List Ty) (k n:Nat) (hk:k<3):Good g .nat n (numT k):=by
 have:=Sz_ge n
 have h:k=0∨k=1∨k=2:=by omega
 rcases h with rfl|rfl|rfl<;>exact⟨by repeat constructor,rfl,by simp [numT,Tm.size];omega,by simp [numT,Tm.size]⟩
theorem plus_ty (g:List Ty):HasTy g plusT (.fn .nat (.fn .nat .nat)):=by
 repeat' constructor
 all_goals simp
theorem sub_ty (g:List Ty):HasTy g subT (.fn .nat (.fn .nat .nat)):=by
 unfold subT predT
 repeat' first|constructor
 all_goals simp
theorem Ty.plain_good {t:Ty} (h:t.plain):t.good=true:=by
 rcases h with (rfl|rfl|rfl)|rfl|rfl<;>rfl
def right:Code→Code
 | .seq _ b=>b
 | c=>c
noncomputable def c18:Code:=Tryz.f37.body.getD .skip
def st18 (L:List Int) (at_:Nat) (g:List Ty) (t:Ty) (d:Int):St :=
 ⟨[(0,.loc 900 0),(1,.pv (.slice (g.map Ty.cells))),(3,.pv (.int d)),(6,.pv (.ptr t.cells)),(8,.loc 8 0)],
  [(8,.box [.pv (.int 0),.pv (.int 0),.pv (.int 0),.pv (.slice []),.pv (.slice [])]),(900,.box [.pv (.slice (ints L)),.pv (.int at_)])],[8,900]⟩
noncomputable def X18:Env1:=XX [] 338 [900]
def Made (L:List Int) (at_:Nat) (g:List Ty) (t:Ty) (d:Int):Prop :=
 ∃ tm at',Good g t d.toNat tm∧AC Tryz.prog gl 37 [.loc 900 0,.pv (.slice (g.map Ty.cells)),.pv (.agg t.cells),.pv (.int d)] (deck L at_) (.ret (.pv (.agg tm.cells))) (deck L at')
def Goes (c:Code) (L:List Int) (at_:Nat) (g:List Ty) (t:Ty) (d:Int):Prop :=
 ∃ tm at',Good g t d.toNat tm∧AWP X18 c (st18 L at_ g t d) (endQ X18 Tryz.f37.results.toList (.ret (.pv (.agg tm.cells))) (deck L at'))
def Sub18 (L:List Int) (g:List Ty) (t:Ty) (d:Int):Prop :=
 ∀ g' t' at',(∀ s∈g',s.plain)→t'.plain→(0<d∨t'.base ∧ ¬ t.base)→g'.length≤g.length+3→Made L at' g' t' (d-1)
theorem tail_unit (L:List Int) (at_:Nat) (g:List Ty) (d:Int):Goes (right (right (right (right c18)))) L at_ g .unit d:=by
 have h1:=nn_ok .unit rfl rfl
 refine⟨.unit,at_,⟨.unit,rfl,by have:=Sz_ge d.toNat;simp [Tm.size];omega,by simp [Tm.size]⟩,?_⟩
 simp only [right,c18,Tryz.f37,Option.getD_some,X18,st18,deck]
 simp only [Tm.cells,Tm.node,Tm.kind,Tm.args,Tm.ty,Ty.cells,Ty.kind,Ty.args,List.map_nil,List.map_cons] at h1 ⊢
 refine gg ?_
 refine call h1 ?_
 refine gg ?_
 exact enC3
theorem Sz_pos {d:Int} (h:0<d):Sz d.toNat=3 * Sz (d-1).toNat+40:=by
 have:d.toNat=(d-1).toNat+1:=by omega
 rw [this];rfl
theorem tail_list (L:List Int) (at_:Nat) (g:List Ty) (d:Int) (hL:L.length≤500) (hd : -100≤d∧d≤100) (hgp:∀ s∈g,s.plain) (hs:Sub18 L g .list d):Goes (right (right (right (right c18)))) L at_ g .list d:=by
 have h1:=nn_ok .nil rfl rfl
 have hnat:=nat_ok
 have hnil:Good g .list d.toNat .nil:=⟨.nil,rfl,by have:=Sz_ge d.toNat;simp [Tm.size];omega,by simp [Tm.size]⟩
 by_cases h:0<d
 ·have h2:=next_ok L at_ 2 hL (by omega)
  have hn:=nxv_lt L at_ 2 (by omega)
  generalize nxv L at_ 2=n at *
  generalize nxa L at_ 2=at1 at *
  have hsz:=Sz_pos h
  have hn:n=0∨n=1:=by omega
  rcases hn with rfl|rfl
  ·obtain⟨a,at2,ga,ha⟩:=hs g .nat at1 hgp (.inl (.inl rfl)) (.inl h) (by omega)
   obtain⟨b,at3,gb,hb⟩:=hs g .list at2 hgp (.inl (.inr (.inl rfl))) (.inl h) (by omega)
   have hc:=nn_ok (.cons a b) rfl rfl
   have:=ga.size
   have:=gb.size
   refine⟨.cons a b,at3,⟨.cons ga.ty gb.ty,by simp [Tm.wf,ga.wf,gb.wf],by simp [Tm.size];omega,by omega⟩,?_⟩
   clear ga gb hs hnil h1
   simp only [right,c18,Tryz.f37,Option.getD_some,X18,st18,deck] at *
   simp only [Tm.cells,Tm.node,Tm.kind,Tm.args,Tm.ty,Ty.cells,Ty.kind,Ty.args,List.map_nil,List.map_cons,Int.cast_ofNat_Int] at h2 hnat ha hb hc ⊢
   rw [a.cells_eq] at ha hc ⊢
   rw [b.cells_eq] at hb hc ⊢
   refine gg ?_
   refine call h2 ?_
   refine gg ?_
   refine call hnat ?_
   refine gg ?_
   refine call ha ?_
   refine gg ?_
   refine call hb ?_
   refine gg ?_
   refine call hc ?_
   refine gg ?_
   refine⟨by rfl,?_⟩
   refine gg ?_
   exact enC3
  ·refine⟨.nil,at1,hnil,?_⟩
   clear hs
   clear hnil
   simp only [right,c18,Tryz.f37,Option.getD_some,X18,st18,deck] at *
   simp only [Tm.cells,Tm.node,Tm.kind,Tm.args,Tm.ty,Ty.cells,Ty.kind,Ty.args,List.map_nil,List.map_cons,Int.cast_ofNat_Int] at h1 h2 ⊢
   refine gg ?_
   refine call h2 ?_
   refine gg ?_
   refine call h1 ?_
   refine gg ?_
   exact enC3
 ·refine⟨.nil,at_,hnil,?_⟩
  clear hs
  simp only [right,c18,Tryz.f37,Option.getD_some,X18,st18,deck] at *
  simp only [Tm.cells,Tm.node,Tm.kind,Tm.args,Tm.ty,Ty.cells,Ty.kind,Ty.args,List.map_nil,List.map_cons,Int.cast_ofNat_Int] at h1 ⊢
  refine gg ?_
  refine call h1 ?_
  refine gg ?_
  exact enC3
theorem tail_num (L:List Int) (at_:Nat) (g:List Ty) (d:Int) (hL:L.length≤500) (hd:¬ 0<d):Goes (right (right (right (right c18)))) L at_ g .nat d:=by
 have h1:=next_ok L at_ 3 hL (by omega)
 have hn:=nxv_lt L at_ 3 (by omega)
 generalize nxv L at_ 3=n at *
 generalize nxa L at_ 3=at1 at *
 have h2:=num_ok n (by omega)
 refine⟨numT n,at1,num_good g n _ hn,?_⟩
 simp only [right,c18,Tryz.f37,Option.getD_some,X18,st18,deck] at *
 simp only [Tm.cells,Tm.node,Tm.kind,Tm.args,Tm.ty,Ty.cells,Ty.kind,Ty.args,List.map_nil,List.map_cons,Int.cast_ofNat_Int] at h1 ⊢
 rw [Tm.cells_eq] at h2 ⊢
 refine gg ?_
 refine call h1 ?_
 refine gg ?_
 refine call h2 ?_
 refine gg ?_
 exact enC3
theorem tail_nat (L:List Int) (at_:Nat) (g:List Ty) (d:Int) (hL:L.length≤500) (hd : -100≤d∧d≤100) (hgp:∀ s∈g,s.plain) (hs:Sub18 L g .nat d):Goes (right (right (right (right c18)))) L at_ g .nat d:=by
 by_cases h:0<d
 ·have h5:=next_ok L at_ 5 hL (by omega)
  have hn:=nxv_lt L at_ 5 (by omega)
  generalize nxv L at_ 5=n at *
  generalize nxa L at_ 5=at1 at *
  have hsz:=Sz_pos h
  obtain⟨a,at2,ga,ha⟩:=hs g .nat at1 hgp (.inl (.inl rfl)) (.inl h) (by omega)
  obtain⟨b,at3,gb,hb⟩:=hs g .nat at2 hgp (.inl (.inl rfl)) (.inl h) (by omega)
  have sa:=ga.size
  have sb:=gb.size
  have hn:n=0∨n=1∨n=2∨n=3∨n=4:=by omega
  clear hs
  rcases hn with rfl|rfl|rfl|hn
  ·have hc:=nn_ok (.succ a) rfl rfl
   refine⟨.succ a,at2,⟨.succ ga.ty,by simp [Tm.wf,ga.wf],by simp [Tm.size];omega,by omega⟩,?_⟩
   clear ga gb hb
   simp only [right,c18,Tryz.f37,Option.getD_some,X18,st18,deck] at *
   simp only [Tm.cells,Tm.node,Tm.kind,Tm.args,Tm.ty,Ty.cells,Ty.kind,Ty.args,List.map_nil,List.map_cons,Int.cast_ofNat_Int] at h5 ha hc ⊢
   rw [a.cells_eq] at ha hc ⊢
   refine gg ?_
   refine call h5 ?_
   refine gg ?_
   refine call ha ?_
   refine gg ?_
   refine call hc ?_
   refine gg ?_
   exact enC3
  ·have hc:=app_ok plusT a b
   have hp:=plus_ok
   refine⟨.app (.app plusT a) b,at3,⟨.app (.app (plus_ty g) ga.ty) gb.ty,by simp [Tm.wf,ga.wf,gb.wf];rfl,?_,by omega⟩,?_⟩
   ·have:plusT.size≤16:=by decide
    simp only [Tm.size];omega
   clear ga gb
   simp only [right,c18,Tryz.f37,Option.getD_some,X18,st18,deck] at *
   simp only [Tm.cells,Tm.node,Tm.kind,Tm.args,Tm.ty,Ty.cells,Ty.kind,Ty.args,List.map_nil,List.map_cons,Int.cast_ofNat_Int] at h5 ha hb hc hp ⊢
   rw [plusT.cells_eq] at hc hp ⊢
   rw [a.cells_eq] at ha hc ⊢
   rw [b.cells_eq] at hb hc ⊢
   refine gg ?_
   refine call h5 ?_
   refine gg ?_
   refine call hp ?_
   refine gg ?_
   refine call ha ?_
   refine gg ?_
   refine call hb ?_
   refine gg ?_
   refine call hc ?_
   refine gg ?_
   refine⟨by rfl,?_⟩
   refine gg ?_
   exact enC3
  ·have hc:=app_ok subT a b
   have hp:=sub_ok
   refine⟨.app (.app subT a) b,at3,⟨.app (.app (sub_ty g) ga.ty) gb.ty,by simp [Tm.wf,ga.wf,gb.wf];rfl,?_,by omega⟩,?_⟩
   ·have:subT.size≤16:=by decide
    simp only [Tm.size];omega
   clear ga gb
   simp only [right,c18,Tryz.f37,Option.getD_some,X18,st18,deck] at *
   simp only [Tm.cells,Tm.node,Tm.kind,Tm.args,Tm.ty,Ty.cells,Ty.kind,Ty.args,List.map_nil,List.map_cons,Int.cast_ofNat_Int] at h5 ha hb hc hp ⊢
   rw [subT.cells_eq] at hc hp ⊢
   rw [a.cells_eq] at ha hc ⊢
   rw [b.cells_eq] at hb hc ⊢
   refine gg ?_
   refine call h5 ?_
   refine gg ?_
   refine call hp ?_
   refine gg ?_
   refine call ha ?_
   refine gg ?_
   refine call hb ?_
   refine gg ?_
   refine call hc ?_
   refine gg ?_
   refine⟨by rfl,?_⟩
   refine gg ?_
   exact enC3
  ·have h1:=next_ok L at1 3 hL (by omega)
   have hm:=nxv_lt L at1 3 (by omega)
   generalize nxv L at1 3=m at *
   generalize nxa L at1 3=at4 at *
   have h2:=num_ok m (by omega)
   refine⟨numT m,at4,num_good g m _ hm,?_⟩
   clear ga gb ha hb
   simp only [right,c18,Tryz.f37,Option.getD_some,X18,st18,deck] at *
   simp only [Tm.cells,Tm.node,Tm.kind,Tm.args,Tm.ty,Ty.cells,Ty.kind,Ty.args,List.map_nil,List.map_cons,Int.cast_ofNat_Int] at h1 h5 ⊢
   rw [Tm.cells_eq] at h2 ⊢
   rcases hn with rfl|rfl
   ·simp only [Int.cast_ofNat_Int] at h5
    refine gg ?_
    refine call h5 ?_
    refine gg ?_
    refine call h1 ?_
    refine gg ?_
    refine call h2 ?_
    refine gg ?_
    exact enC3
   ·simp only [Int.cast_ofNat_Int] at h5
    refine gg ?_
    refine call h5 ?_
    refine gg ?_
    refine call h1 ?_
    refine gg ?_
    refine call h2 ?_
    refine gg ?_
    exact enC3
 ·exact tail_num L at_ g d hL h
theorem tail_pair (L:List Int) (at_:Nat) (g:List Ty) (s u:Ty) (d:Int) (hp:(Ty.pair s u).plain) (hd : -100≤d∧d≤100) (hgp:∀ s∈g,s.plain) (hs:Sub18 L g (.pair s u) d):Goes (right (right (right (right c18)))) L at_ g (.pair s u) d:=by
 have hsb:s.base∧u.base:=by
  rcases hp with (h|h|h)|h|h<;>simp at h
  ·exact⟨.inl h.1,.inr (.inl h.2)⟩
  ·exact⟨.inl h.1,.inl h.2⟩
 have hnb:¬ (Ty.pair s u).base:=by rintro (h|h|h)<;>cases h
 obtain⟨a,at1,ga,ha⟩:=hs g s at_ hgp (.inl hsb.1) (.inr ⟨hsb.1,hnb⟩) (by omega)
 obtain⟨b,at2,gb,hb⟩:=hs g u at1 hgp (.inl hsb.2) (.inr ⟨hsb.2,hnb⟩) (by omega)
 have sa:=ga.size
 have sb:=gb.size
 have hc:=nn_ok (.pair a b) rfl rfl
 refine⟨.pair a b,at2,⟨.pair ga.ty gb.ty,by simp [Tm.wf,ga.wf,gb.wf],?_,fun _ h=>absurd h hnb⟩,?_⟩
 ·by_cases h:0<d
  ·have:=Sz_pos h
   simp only [Tm.size];omega
  ·have e:(d-1).toNat=0:=by omega
   have:=ga.small e hsb.1
   have:=gb.small e hsb.2
   have:=Sz_ge d.toNat
   simp only [Tm.size];omega
 clear ga gb hs hp hnb hsb
 simp only [right,c18,Tryz.f37,Option.getD_some,X18,st18,deck] at *
 simp only [Tm.cells,Tm.node,Tm.kind,Tm.args,Tm.ty,Ty.cells,Ty.kind,Ty.args,List.map_nil,List.map_cons,Int.cast_ofNat_Int] at hc ⊢
 rw [s.cells_eq] at ha ⊢
 rw [u.cells_eq] at hb ⊢
 rw [a.cells_eq] at ha hc ⊢
 rw [b.cells_eq] at hb hc ⊢
 refine gg ?_
 refine call ha ?_
 refine gg ?_
 refine call hb ?_
 refine gg ?_
 refine call hc ?_
 refine gg ?_
 refine⟨by rfl,?_⟩
 refine gg ?_
 exact enC3
theorem tail_ok (L:List Int) (at_:Nat) (g:List Ty) (t:Ty) (d:Int) (hL:L.length≤500) (ht:t.plain) (hd : -100≤d∧d≤100) (hgp:∀ s∈g,s.plain) (hs:Sub18 L g t d):Goes (right (right (right (right c18)))) L at_ g t d:=by
 rcases id ht with (rfl|rfl|rfl)|rfl|rfl
 ·exact tail_nat L at_ g d hL hd hgp hs
 ·exact tail_list L at_ g d hL hd hgp hs
 ·exact tail_unit L at_ g d
 ·exact tail_pair L at_ g _ _ d ht hd hgp hs
 ·exact tail_pair L at_ g _ _ d ht hd hgp hs
open Go.Lg
set_option maxRecDepth 10000
set_option maxHeartbeats 4000000
theorem pick7_base (n:Nat):(pick7 n).base:=by
 unfold pick7 Ty.base
 split
 ·simp
 ·split<;>simp
theorem plain_app {g l:List Ty} (h:∀ s∈g,s.plain) (h':∀ s∈l,s.plain):∀ s∈g++l,s.plain:=by
 intro s hs
 rcases List.mem_append.1 hs with hs|hs
 ·exact h s hs
 ·exact h' s hs
theorem cont_0 (L:List Int) (at_:Nat) (g:List Ty) (t:Ty) (d:Int) (hL:L.length≤500) (ht:t.plain) (hd : -100≤d∧d≤100) (hgl:g.length≤90) (hgp:∀ s∈g,s.plain) (hs:Sub18 L g t d) (h:0<d) (h0:nxv L at_ 8=0):Goes (right (right (right c18))) L at_ g t d:=by
 have h8:=next_ok L at_ 8 hL (by omega)
 rw [h0] at h8
 generalize nxa L at_ 8=at1 at *
 have hsz:=Sz_pos h
 have h7:=type_ok L at1 hL
 have hb:=pick7_base (nxv L at1 7)
 generalize pick7 (nxv L at1 7)=s at *
 generalize nxa L at1 7=at2 at *
 have hl:=longer_ok g [s] (by omega) (by simp)
 obtain⟨a,at3,ga,ha⟩:=hs (g++[s]) t at2 (plain_app hgp (by simpa using .inl hb)) ht (.inl h) (by simp)
 obtain⟨b,at4,gb,hb'⟩:=hs g s at3 hgp (.inl hb) (.inl h) (by omega)
 have h1:=tn_ok (.lam s a) rfl
 have h2:=nn_ok (.app (.lam s a) b) rfl rfl
 have sa:=ga.size
 have sb:=gb.size
 have hgood:=Ty.plain_good (.inl hb)
 refine⟨.app (.lam s a) b,at4,⟨.app (.lam ga.ty) gb.ty,by simp [Tm.wf,ga.wf,gb.wf,hgood],by simp [Tm.size];omega,by omega⟩,?_⟩
 clear ga gb hs hgp ht hb hgood h0
 simp only [right,c18,Tryz.f37,Option.getD_some,X18,st18,deck] at *
 simp only [Tm.cells,Tm.node,Tm.kind,Tm.args,Tm.ty,Ty.cells,Ty.kind,Ty.args,List.map_nil,List.map_cons,Int.cast_ofNat_Int] at h8 h7 hl h1 h2 ⊢
 rw [s.cells_eq] at h7 hl h1 hb'
 rw [t.cells_eq] at ha ⊢
 rw [a.cells_eq] at ha h1 h2 ⊢
 rw [b.cells_eq] at hb' h2 ⊢
 refine gg ?_
 refine call h8 ?_
 refine gg ?_
 refine call h7 ?_
 refine gg ?_
 refine call hl ?_
 refine gg ?_
 refine call ha ?_
 refine gg ?_
 refine call h1 ?_
 refine gg ?_
 refine call hb' ?_
 refine gg ?_
 refine call h2 ?_
 refine gg ?_
 refine⟨by rfl,?_⟩
 refine gg ?_
 exact enC3
theorem cont_1 (L:List Int) (at_:Nat) (g:List Ty) (t:Ty) (d:Int) (hL:L.length≤500) (ht:t.plain) (hd : -100≤d∧d≤100) (hgl:g.length≤90) (hgp:∀ s∈g,s.plain) (hs:Sub18 L g t d) (h:0<d) (h0:nxv L at_ 8=1):Goes (right (right (right c18))) L at_ g t d:=by
 have h8:=next_ok L at_ 8 hL (by omega)
 rw [h0] at h8
 generalize nxa L at_ 8=at1 at *
 have hsz:=Sz_pos h
 have h7:=type_ok L at1 hL
 have hb:=pick7_base (nxv L at1 7)
 generalize pick7 (nxv L at1 7)=s at *
 generalize nxa L at1 7=at2 at *
 obtain⟨a,at3,ga,ha⟩:=hs g t at2 hgp ht (.inl h) (by omega)
 obtain⟨b,at4,gb,hb'⟩:=hs g s at3 hgp (.inl hb) (.inl h) (by omega)
 have h1:=nn_ok (.pair a b) rfl rfl
 have h2:=nn_ok (.fst (.pair a b)) rfl rfl
 have sa:=ga.size
 have sb:=gb.size
 refine⟨.fst (.pair a b),at4,⟨.fst (.pair ga.ty gb.ty),by simp [Tm.wf,ga.wf,gb.wf],by simp [Tm.size];omega,by omega⟩,?_⟩
 clear ga gb hs hgp ht hb h0
 simp only [right,c18,Tryz.f37,Option.getD_some,X18,st18,deck] at *
 simp only [Tm.cells,Tm.node,Tm.kind,Tm.args,Tm.ty,Ty.cells,Ty.kind,Ty.args,List.map_nil,List.map_cons,Int.cast_ofNat_Int] at h8 h7 h1 h2 ⊢
 rw [s.cells_eq] at h7 hb'
 rw [t.cells_eq] at ha ⊢
 rw [a.cells_eq] at ha h1 h2 ⊢
 rw [b.cells_eq] at hb' h1 h2 ⊢
 refine gg ?_
 refine call h8 ?_
 refine gg ?_
 refine call h7 ?_
 refine gg ?_
 refine call ha ?_
 refine gg ?_
 refine call hb' ?_
 refine gg ?_
 refine call h1 ?_
 refine gg ?_
 refine call h2 ?_
 refine gg ?_
 refine⟨by rfl,?_⟩
 refine gg ?_
 exact enC3
theorem cont_4 (L:List Int) (at_:Nat) (g:List Ty) (t:Ty) (d:Int) (hL:L.length≤500) (ht:t.plain) (hd : -100≤d∧d≤100) (hgl:g.length≤90) (hgp:∀ s∈g,s.plain) (hs:Sub18 L g t d) (h:0<d) (h0:nxv L at_ 8=4):Goes (right (right (right c18))) L at_ g t d:=by
 have h8:=next_ok L at_ 8 hL (by omega)
 rw [h0] at h8
 generalize nxa L at_ 8=at1 at *
 have hsz:=Sz_pos h
 have h7:=type_ok L at1 hL
 have hb:=pick7_base (nxv L at1 7)
 generalize pick7 (nxv L at1 7)=s at *
 generalize nxa L at1 7=at2 at *
 obtain⟨a,at3,ga,ha⟩:=hs g s at2 hgp (.inl hb) (.inl h) (by omega)
 obtain⟨b,at4,gb,hb'⟩:=hs g t at3 hgp ht (.inl h) (by omega)
 have h1:=nn_ok (.pair a b) rfl rfl
 have h2:=nn_ok (.snd (.pair a b)) rfl rfl
 have sa:=ga.size
 have sb:=gb.size
 refine⟨.snd (.pair a b),at4,⟨.snd (.pair ga.ty gb.ty),by simp [Tm.wf,ga.wf,gb.wf],by simp [Tm.size];omega,by omega⟩,?_⟩
 clear ga gb hs hgp ht hb h0
 simp only [right,c18,Tryz.f37,Option.getD_some,X18,st18,deck] at *
 simp only [Tm.cells,Tm.node,Tm.kind,Tm.args,Tm.ty,Ty.cells,Ty.kind,Ty.args,List.map_nil,List.map_cons,Int.cast_ofNat_Int] at h8 h7 h1 h2 ⊢
 rw [s.cells_eq] at h7 ha
 rw [t.cells_eq] at hb' ⊢
 rw [a.cells_eq] at ha h1 h2 ⊢
 rw [b.cells_eq] at hb' h1 h2 ⊢
 refine gg ?_
 refine call h8 ?_
 refine gg ?_
 refine call h7 ?_
 refine gg ?_
 refine call ha ?_
 refine gg ?_
 refine call hb' ?_
 refine gg ?_
 refine call h1 ?_
 refine gg ?_
 refine call h2 ?_
 refine gg ?_
 refine⟨by rfl,?_⟩
 refine gg ?_
 exact enC3
open Go.Lg
set_option maxRecDepth 10000
set_option maxHeartbeats 4000000
theorem num_wf:∀ n,(numT n).wf=true
 | 0=>rfl
 | n+1=>num_wf n
theorem num_ty (g:List Ty):∀ n,HasTy g (numT n) .nat
 | 0 => .zero
 | n+1 => .succ (num_ty g n)
theorem num_size:∀ n,(numT n).size=n+1
 | 0=>rfl
 | n+1=>by simp only [numT,Tm.size,num_size n];omega
theorem cont_2 (L:List Int) (at_:Nat) (g:List Ty) (t:Ty) (d:Int) (hL:L.length≤500) (ht:t.plain) (hd : -100≤d∧d≤100) (hgl:g.length≤90) (hgp:∀ s∈g,s.plain) (hs:Sub18 L g t d) (h:0<d) (h0:nxv L at_ 8=2):Goes (right (right (right c18))) L at_ g t d:=by
 have h8:=next_ok L at_ 8 hL (by omega)
 rw [h0] at h8
 generalize nxa L at_ 8=at1 at *
 have hsz:=Sz_pos h
 have hnat:=nat_ok
 have hl:=longer_ok g [.nat,t] (by omega) (by simp)
 obtain⟨a,at3,ga,ha⟩:=hs (g++[.nat,t]) t at1 (plain_app hgp (by simp;exact⟨.inl (.inl rfl),ht⟩)) ht (.inl h) (by simp)
 obtain⟨b,at4,gb,hb⟩:=hs g t at3 hgp ht (.inl h) (by omega)
 have h3:=next_ok L at4 3 hL (by omega)
 have hm:=nxv_lt L at4 3 (by omega)
 generalize nxv L at4 3=m at *
 generalize nxa L at4 3=at5 at *
 have hnum:=num_ok m (by omega)
 have h1:=tn_ok (.lam t a) rfl
 have h2:=tn_ok (.lam .nat (.lam t a)) rfl
 have hr:=tn_ok (.recn t b (.lam .nat (.lam t a)) (numT m)) rfl
 have sa:=ga.size
 have sb:=gb.size
 have hns:=num_size m
 have hgood:=Ty.plain_good ht
 have hta:HasTy ((g++[.nat])++[t]) a t:=by simpa using ga.ty
 refine⟨.recn t b (.lam .nat (.lam t a)) (numT m),at5,⟨.recn gb.ty (.lam (.lam hta)) (num_ty g m),?_,by simp [Tm.size];omega,by omega⟩,?_⟩
 ·simp only [Tm.wf,ga.wf,gb.wf,hgood,num_wf];rfl
 clear ga gb hs hgp ht hgood h0 hta
 simp only [right,c18,Tryz.f37,Option.getD_some,X18,st18,deck] at *
 simp only [Tm.cells,Tm.node,Tm.kind,Tm.args,Tm.ty,Ty.cells,Ty.kind,Ty.args,List.map_nil,List.map_cons,Int.cast_ofNat_Int] at h8 h3 hnat hl h1 h2 hr ⊢
 rw [(numT m).cells_eq] at hnum hr ⊢
 rw [t.cells_eq] at ha hb hl h1 hr ⊢
 rw [a.cells_eq] at ha h1 h2 hr ⊢
 rw [b.cells_eq] at hb hr ⊢
 refine gg ?_
 refine call h8 ?_
 refine gg ?_
 refine call hnat ?_
 refine gg ?_
 refine call hnat ?_
 refine gg ?_
 refine call hl ?_
 refine gg ?_
 refine call ha ?_
 refine gg ?_
 refine call h1 ?_
 refine gg ?_
 refine call h2 ?_
 refine gg ?_
 refine⟨by rfl,?_⟩
 refine gg ?_
 refine call hb ?_
 refine gg ?_
 refine call h3 ?_
 refine gg ?_
 refine call hnum ?_
 refine gg ?_
 refine call hr ?_
 refine gg ?_
 refine⟨by rfl,?_⟩
 refine gg ?_
 exact enC3
theorem cont_3 (L:List Int) (at_:Nat) (g:List Ty) (t:Ty) (d:Int) (hL:L.length≤500) (ht:t.plain) (hd : -100≤d∧d≤100) (hgl:g.length≤90) (hgp:∀ s∈g,s.plain) (hs:Sub18 L g t d) (h:0<d) (h0:nxv L at_ 8=3):Goes (right (right (right c18))) L at_ g t d:=by
 have h8:=next_ok L at_ 8 hL (by omega)
 rw [h0] at h8
 generalize nxa L at_ 8=at1 at *
 have hsz:=Sz_pos h
 have hnat:=nat_ok
 have hlist:=list_ok
 have hl:=longer_ok g [.nat,.list,t] (by omega) (by simp)
 obtain⟨a,at3,ga,ha⟩:=hs (g++[.nat,.list,t]) t at1 (plain_app hgp (by simp;exact⟨.inl (.inl rfl),.inl (.inr (.inl rfl)),ht⟩)) ht (.inl h) (by simp)
 obtain⟨b,at4,gb,hb⟩:=hs g t at3 hgp ht (.inl h) (by omega)
 obtain⟨c,at5,gc,hc⟩:=hs g .list at4 hgp (.inl (.inr (.inl rfl))) (.inl h) (by omega)
 have h1:=tn_ok (.lam t a) rfl
 have h2:=tn_ok (.lam .list (.lam t a)) rfl
 have h3:=tn_ok (.lam .nat (.lam .list (.lam t a))) rfl
 have hr:=tn_ok (.fold t b (.lam .nat (.lam .list (.lam t a))) c) rfl
 have sa:=ga.size
 have sb:=gb.size
 have sc:=gc.size
 have hgood:=Ty.plain_good ht
 have hta:HasTy (((g++[.nat])++[.list])++[t]) a t:=by simpa using ga.ty
 refine⟨.fold t b (.lam .nat (.lam .list (.lam t a))) c,at5,⟨.fold gb.ty (.lam (.lam (.lam hta))) gc.ty,?_,by simp [Tm.size];omega,by omega⟩,?_⟩
 ·simp only [Tm.wf,ga.wf,gb.wf,gc.wf,hgood];rfl
 clear ga gb gc hs hgp ht hgood h0 hta
 simp only [right,c18,Tryz.f37,Option.getD_some,X18,st18,deck] at *
 simp only [Tm.cells,Tm.node,Tm.kind,Tm.args,Tm.ty,Ty.cells,Ty.kind,Ty.args,List.map_nil,List.map_cons,Int.cast_ofNat_Int] at h8 h3 hnat hlist hl hc h1 h2 hr ⊢
 rw [t.cells_eq] at ha hb hl h1 hr ⊢
 rw [a.cells_eq] at ha h1 h2 h3 hr ⊢
 rw [b.cells_eq] at hb hr ⊢
 rw [c.cells_eq] at hc hr ⊢
 refine gg ?_
 refine call h8 ?_
 refine gg ?_
 refine call hnat ?_
 refine gg ?_
 refine call hlist ?_
 refine gg ?_
 refine call hnat ?_
 refine gg ?_
 refine call hlist ?_
 refine gg ?_
 refine call hl ?_
 refine gg ?_
 refine call ha ?_
 refine gg ?_
 refine call h1 ?_
 refine gg ?_
 refine call h2 ?_
 refine gg ?_
 refine call h3 ?_
 refine gg ?_
 refine⟨by rfl,?_⟩
 refine gg ?_
 refine call hb ?_
 refine gg ?_
 refine call hlist ?_
 refine gg ?_
 refine call hc ?_
 refine gg ?_
 refine call hr ?_
 refine gg ?_
 refine⟨by rfl,?_⟩
 refine gg ?_
 exact enC3
def left:Code→Code
 | .seq a _=>a
 | c=>c
theorem cont_low (L:List Int) (at_:Nat) (g:List Ty) (t:Ty) (d:Int) (hL:L.length≤500) (ht:t.plain) (hd : -100≤d∧d≤100) (hgl:g.length≤90) (hgp:∀ s∈g,s.plain) (hs:Sub18 L g t d) (h:¬ 0<d):Goes (right (right (right c18))) L at_ g t d:=by
 obtain⟨tm,at',hg,hw⟩:=tail_ok L at_ g t d hL ht hd hgp hs
 refine⟨tm,at',hg,?_⟩
 clear hs hg hgp
 have e:right (right (right c18)) = .seq (left (right (right (right c18)))) (right (right (right (right c18)))):=rfl
 rw [e]
 refine ex_seq ?_
 generalize right (right (right (right c18)))=tl at *
 clear e
 simp only [left,right,c18,Tryz.f37,Option.getD_some,X18,st18,deck] at *
 rw [t.cells_eq] at hw ⊢
 refine gg ?_
 refine kp [0,1,3,6,8] [8,900] ?_
 exact hw
theorem cont_67 (L:List Int) (at_:Nat) (g:List Ty) (t:Ty) (d:Int) (hL:L.length≤500) (ht:t.plain) (hd : -100≤d∧d≤100) (hgl:g.length≤90) (hgp:∀ s∈g,s.plain) (hs:Sub18 L g t d) (h:0<d) (h0:nxv L at_ 8=6∨nxv L at_ 8=7):Goes (right (right (right c18))) L at_ g t d:=by
 have h8:=next_ok L at_ 8 hL (by omega)
 obtain⟨tm,at',hg,hw⟩:=tail_ok L (nxa L at_ 8) g t d hL ht hd hgp hs
 generalize nxa L at_ 8=at1 at *
 refine⟨tm,at',hg,?_⟩
 clear hs hg hgp
 have e:right (right (right c18)) = .seq (left (right (right (right c18)))) (right (right (right (right c18)))):=rfl
 rw [e]
 refine ex_seq ?_
 generalize right (right (right (right c18)))=tl at *
 clear e
 simp only [left,right,c18,Tryz.f37,Option.getD_some,X18,st18,deck] at *
 rw [t.cells_eq] at hw ⊢
 rcases h0 with h0|h0
 all_goals rw [h0] at h8
 all_goals simp only [Int.cast_ofNat_Int] at h8
 all_goals refine gg ?_
 all_goals refine call h8 ?_
 all_goals refine gg ?_
 all_goals refine kp [0,1,3,6,8] [8,900] ?_
 all_goals exact hw
theorem cont_5 (L:List Int) (at_:Nat) (g:List Ty) (t:Ty) (d:Int) (hL:L.length≤500) (ht:t.plain) (hd : -100≤d∧d≤100) (hgl:g.length≤90) (hgp:∀ s∈g,s.plain) (hs:Sub18 L g t d) (h:0<d) (h0:nxv L at_ 8=5):Goes (right (right (right c18))) L at_ g t d:=by
 have h8:=next_ok L at_ 8 hL (by omega)
 obtain⟨tm,at',hg,hw⟩:=tail_ok L (nxa L at_ 8) g t d hL ht hd hgp hs
 generalize nxa L at_ 8=at1 at *
 refine⟨tm,at',hg,?_⟩
 clear hs hg
 have e:right (right (right c18)) = .seq (left (right (right (right c18)))) (right (right (right (right c18)))):=rfl
 rw [e]
 refine ex_seq ?_
 generalize right (right (right (right c18)))=tl at *
 clear e
 simp only [left,right,c18,Tryz.f37,Option.getD_some,X18,st18,deck] at *
 rw [t.cells_eq] at hw ⊢
 rw [h0] at h8
 simp only [Int.cast_ofNat_Int] at h8
 have hal:=Ty.all_len g
 have hlen:(g.map Ty.cells).length=g.length:=by simp
 refine gg ?_
 refine call h8 ?_
 refine gg ?_
 refine AWP.loopN g.length (fun k=>⟨[(0,.loc 900 0),(1,.pv (.slice (g.map Ty.cells))),(3,.pv (.int d)),(6,.pv (.ptr [.int t.kind,.slice (t.args.map Ty.cells)])),(8,.loc 8 0),(176,.pv (.int g.length)),(177,.pv (.int k))],
  [(8,.box [.pv (.int 0),.pv (.int 0),.pv (.int 0),.pv (.slice []),.pv (.slice [])]),(900,.box [.pv (.slice (ints L)),.pv (.int at1)])],[8,900]⟩) ⟨by simp [slotsLe,getS],by simp [subO,getO],by simp [subL,namesSl,V.names,namesOb,Ob.names,namesL,namesE,namesE_pvE,XX_given]⟩ ?_
 intro k hk
 by_cases hkl:k<g.length
 ·have h':(k:Int)<g.length:=by omega
  obtain⟨a,hka⟩:∃ a,g[g.length-1-k]? = some a:=⟨_,List.getElem?_eq_getElem (by omega)⟩
  have hget:=getD_map (f:=Ty.cells) (d:=[]) hka
  have hi:((g.length:Int)-1-k).toNat=g.length-1-k:=by omega
  have hp:=hgp a (List.mem_of_getElem? hka)
  have hk4:¬ a.kind=4:=by rcases hp with (rfl|rfl|rfl)|rfl|rfl<;>decide
  rw [Ty.cells_eq] at hget
  have hb1:(0:Int)≤(g.length:Int)-1-k:=by omega
  have hb2:(g.length:Int)-1-k<g.length:=by omega
  clear hka hp hgp hw
  refine gg ?_
  refine⟨by rfl,?_⟩
  refine gg ?_
  exact⟨hkl,⟨by simp [slotsLe,getS],by simp [subO,getO],by simp [subL,namesSl,V.names,namesOb,Ob.names,namesL,namesE,namesE_pvE,XX_given]⟩⟩
 ·have h':¬ (k:Int)<g.length:=by omega
  clear hgp
  refine gg ?_
  refine kp [0,1,3,6,8] [8,900] ?_
  exact hw
open Go.Lg
set_option maxRecDepth 10000
set_option maxHeartbeats 4000000
theorem cont_all (L:List Int) (at_:Nat) (g:List Ty) (t:Ty) (d:Int) (hL:L.length≤500) (ht:t.plain) (hd : -100≤d∧d≤100) (hgl:g.length≤90) (hgp:∀ s∈g,s.plain) (hs:Sub18 L g t d):Goes (right (right (right c18))) L at_ g t d:=by
 by_cases h:0<d
 ·have hn:=nxv_lt L at_ 8 (by omega)
  have:nxv L at_ 8=0∨nxv L at_ 8=1∨nxv L at_ 8=2∨nxv L at_ 8=3∨nxv L at_ 8=4∨nxv L at_ 8=5∨nxv L at_ 8=6∨nxv L at_ 8=7:=by omega
  rcases this with e|e|e|e|e|e|e|e
  ·exact cont_0 L at_ g t d hL ht hd hgl hgp hs h e
  ·exact cont_1 L at_ g t d hL ht hd hgl hgp hs h e
  ·exact cont_2 L at_ g t d hL ht hd hgl hgp hs h e
  ·exact cont_3 L at_ g t d hL ht hd hgl hgp hs h e
  ·exact cont_4 L at_ g t d hL ht hd hgl hgp hs h e
  ·exact cont_5 L at_ g t d hL ht hd hgl hgp hs h e
  ·exact cont_67 L at_ g t d hL ht hd hgl hgp hs h (.inl e)
  ·exact cont_67 L at_ g t d hL ht hd hgl hgp hs h (.inr e)
 ·exact cont_low L at_ g t d hL ht hd hgl hgp hs h
theorem vs_get {r:List Ty} {t:Ty} {k i x:Nat} (h:(vs r t k)[i]? = some x):r[x]? = some t:=by
 have:=List.mem_of_getElem? h
 simp only [vs,List.mem_filter,decide_eq_true_eq] at this
 exact this.2
theorem made_of (L:List Int) (at_:Nat) (g:List Ty) (t:Ty) (d:Int) (hL:L.length≤500) (ht:t.plain) (hd : -100≤d∧d≤100) (hgl:g.length≤90) (hgp:∀ s∈g,s.plain) (hs:Sub18 L g t d):Made L at_ g t d:=by
 have hv:=vars_ok g t (by omega)
 have hlv:=vs_le g.reverse t g.length
 have hnl:(nats (vs g.reverse t g.length)).length=(vs g.reverse t g.length).length:=by simp [nats]
 have hall:∀ y∈nats (vs g.reverse t g.length),y.length=1:=by simp [nats]
 have e:c18 = .seq (left c18) (.seq (left (right c18)) (.seq (left (right (right c18))) (right (right (right c18))))):=rfl
 have hb:=Tryz.f37
 by_cases h0:(0:Int)<(vs g.reverse t g.length).length
 ·have h3:=next_ok L at_ 3 hL (by omega)
  by_cases h1:(0:Int)<nxv L at_ 3
  ·have h4:=next_ok L (nxa L at_ 3) (vs g.reverse t g.length).length hL (by omega)
   have hlt:=nxv_lt L (nxa L at_ 3) (vs g.reverse t g.length).length (by omega)
   generalize nxa L (nxa L at_ 3) (vs g.reverse t g.length).length=at2 at *
   generalize nxv L (nxa L at_ 3) (vs g.reverse t g.length).length=i at *
   generalize nxa L at_ 3=at1 at *
   generalize nxv L at_ 3=m at *
   obtain⟨x,hx⟩:∃ x,(vs g.reverse t g.length)[i]? = some x:=⟨_,List.getElem?_eq_getElem hlt⟩
   have hty:=vs_get hx
   have hget:(nats (vs g.reverse t g.length)).getD i []=[.int (x:Int)]:=by simp [nats,List.getD,hx]
   have hvar:=var_ok x
   refine⟨.var x,at2,⟨.var hty,rfl,by have:=Sz_ge d.toNat;simp [Tm.size];omega,by simp [Tm.size]⟩,?_⟩
   unfold deck
   refine body (c:=c18) [] Tryz.func37 Tryz.ntmps37 ?_
   rw [e]
   clear hs hgp hx hty
   generalize vs g.reverse t g.length=l at *
   have hi:(i:Int)<l.length:=by omega
   generalize right (right (right c18))=tl at *
   clear e
   simp only [left,right,c18,Tryz.f37,Option.getD_some,deck] at *
   simp only [Tm.cells,Tm.node,Tm.kind,Tm.args,Tm.ty,Ty.cells,Ty.kind,Ty.args,List.map_nil,List.map_cons,Int.cast_ofNat_Int] at h3 hvar ⊢
   rw [t.cells_eq] at hv ⊢
   refine gg ?_
   refine call hv ?_
   refine gg ?_
   refine call h3 ?_
   refine gg ?_
   refine call h4 ?_
   refine gg ?_
   refine call hvar ?_
   refine gg ?_
   exact enC3
  ·obtain⟨tm,at',hg,hw⟩:=cont_all L (nxa L at_ 3) g t d hL ht hd hgl hgp hs
   generalize nxa L at_ 3=at1 at *
   generalize nxv L at_ 3=m at *
   refine⟨tm,at',hg,?_⟩
   unfold deck
   refine body (c:=c18) [] Tryz.func37 Tryz.ntmps37 ?_
   rw [e]
   clear hs hgp hg
   generalize vs g.reverse t g.length=l at *
   generalize right (right (right c18))=tl at *
   clear e
   simp only [left,right,c18,Tryz.f37,Option.getD_some,deck,st18,X18] at *
   simp only [Int.cast_ofNat_Int] at h3
   rw [t.cells_eq] at hv hw ⊢
   refine gg ?_
   refine call hv ?_
   refine gg ?_
   refine call h3 ?_
   refine gg ?_
   refine kp [0,1,3,6,8] [8,900] ?_
   exact hw
 ·obtain⟨tm,at',hg,hw⟩:=cont_all L at_ g t d hL ht hd hgl hgp hs
  refine⟨tm,at',hg,?_⟩
  unfold deck
  refine body (c:=c18) [] Tryz.func37 Tryz.ntmps37 ?_
  rw [e]
  clear hs hgp hg
  generalize vs g.reverse t g.length=l at *
  generalize right (right (right c18))=tl at *
  clear e
  simp only [left,right,c18,Tryz.f37,Option.getD_some,deck,st18,X18] at *
  rw [t.cells_eq] at hv hw ⊢
  refine gg ?_
  refine call hv ?_
  refine gg ?_
  refine kp [0,1,3,6,8] [8,900] ?_
  exact hw
open Classical in
noncomputable def nb (t:Ty):Nat:=if t.base then 0 else 1
theorem term_ok (L:List Int) (hL:L.length≤500):∀ (m:Nat) (g:List Ty) (t:Ty) (d:Int) (at_:Nat),2 * d.toNat+nb t≤m→(∀ s∈g,s.plain)→t.plain→(-1≤d∨t.base ∧ -2≤d)→d≤100→g.length+3 * m≤90→Made L at_ g t d:=by
 intro m
 induction m with
 | zero =>
  intro g t d at_ hm hg ht hd hd2 hl
  refine made_of L at_ g t d hL ht (by omega) (by omega) hg ?_
  intro g' t' at' hg' ht' hor hl'
  exfalso
  rcases hor with h|⟨h1,h2⟩
  ·omega
  ·simp [nb,h2] at hm
 | succ m ih =>
  intro g t d at_ hm hg ht hd hd2 hl
  refine made_of L at_ g t d hL ht (by omega) (by omega) hg ?_
  intro g' t' at' hg' ht' hor hl'
  have hb1:nb t'≤1:=by unfold nb;split<;>omega
  refine ih g' t' (d-1) at' ?_ hg' ht' ?_ (by omega) (by omega)
  ·rcases hor with h|⟨h1,h2⟩
   ·omega
   ·have e1:nb t'=0:=by simp [nb,h1]
    have e2:nb t=1:=by simp [nb,h2]
    omega
  ·rcases hor with h|⟨h1,h2⟩
   ·left;omega
   ·right
    rcases hd with hd|hd
    ·exact⟨h1,by omega⟩
    ·exact absurd hd.1 h2
structure Datum (tm:Tm) (t:Ty):Prop where
 ty:HasTy [] tm t
 wf:tm.wf=true
 size:tm.size≤763
 plain:t.plain
end Go.Proofs.YtodjpfpmhjdhbaaGreatDoor
