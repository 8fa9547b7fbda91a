/- Contracts of functions; no conditions. -/
import Derived.Test.YtodjpfpmhjdhbaaGreatDoorTwiceC1
import Derived.Test.YtodjpfpmhjdhbaaGreatDoorTwiceB1
import Derived.Test.YtodjpfpmhjdhbaaGreatDoorTwiceC4
set_option linter.all false
namespace Go.Proofs.YtodjpfpmhjdhbaaGreatDoor
open Go.Lg
theorem enC6 {P Q : Prop} (h : P := by simp [retIs,resV,resL,resOne,mkTup,getS,getO,rdV,mkAgg,unL,V.un,TI.isAgg,XX_T,tt27,Tryz.f154,Tryz.f152]) (k : Q := by simp [subO,getO,tt27,Tryz.f154,Tryz.f152]) : P ∧ Q := ⟨h,k⟩
end Go.Proofs.YtodjpfpmhjdhbaaGreatDoor
namespace Go.Lg
theorem rep2 {H:Hp} {c d:PV} {cs ds:List PV} {vs:List Value} (h:RepL H (c::cs) vs) (h':RepL H (d::ds) vs):(∃ u,RepP H c u∧RepP H d u) ∧ ∃ us,RepL H cs us∧RepL H ds us:=by
 match vs,h,h' with
 | [],h,_=>exact h.elim
 | v::vs,h,h'=>exact⟨⟨v,h.1,h'.1⟩,vs,h.2,h'.2⟩
theorem repPtr {H:Hp} {cs ds:List PV} {v:Value} (h:RepP H (.ptr cs) v) (h':RepP H (.ptr ds) v):∃ us,RepL H cs us∧RepL H ds us:=by
 simp only [RepP] at h h'
 obtain⟨b,off,rfl,h⟩:=h
 obtain⟨b',off',e,h'⟩:=h'
 cases e
 exact⟨_,h,h'⟩
theorem repInt {H:Hp} {a b:Int} (h:∃ u,RepP H (.int a) u∧RepP H (.int b) u):a=b:=by
 obtain⟨u,h1,h2⟩:=h
 simp only [RepP] at h1 h2
 rw [h1] at h2
 cases h2
 rfl
theorem repNil {H:Hp} {cs:List PV} (h:∃ u,RepP H .nil u∧RepP H (.ptr cs) u):False:=by
 obtain⟨u,h1,h2⟩:=h
 simp only [RepP] at h1 h2
 obtain⟨b,off,e,_⟩:=h2
 rw [h1] at e
 cases e
theorem repNil' {H:Hp} {cs:List PV} (h:∃ u,RepP H (.ptr cs) u∧RepP H .nil u):False:=by
 obtain⟨u,h1,h2⟩:=h
 exact repNil ⟨u,h2,h1⟩
theorem link_rep {H:Hp} : ∀ (l k:List Nat),(∃ v,RepP H (linkP l) v∧RepP H (linkP k) v)→l=k
 | [],[],_=>rfl
 | [],_::_,h=>(repNil h).elim
 | _::_,[],h=>(repNil' h).elim
 | a::l,b::k,⟨v,h1,h2⟩=>by
  obtain⟨us,r1,r2⟩:=repPtr h1 h2
  obtain⟨c1,_,r1,r2⟩:=rep2 r1 r2
  obtain⟨_,_,r1,r2⟩:=rep2 r1 r2
  obtain⟨c3,_⟩:=rep2 r1 r2
  rw [link_rep l k c3]
  have:=repInt c1
  have:a=b:=by omega
  rw [this]
mutual
theorem it_rep {H:Hp} : ∀ (x y:It),(∃ v,RepP H (itP x) v∧RepP H (itP y) v)→x=y
 | x,y,⟨v,h1,h2⟩=>by
  rw [itP_eq] at h1 h2
  obtain⟨us,r1,r2⟩:=repPtr h1 h2
  obtain⟨k,_,r1,r2⟩:=rep2 r1 r2
  obtain⟨n,_,r1,r2⟩:=rep2 r1 r2
  obtain⟨l,_,r1,r2⟩:=rep2 r1 r2
  obtain⟨f,_,r1,r2⟩:=rep2 r1 r2
  obtain⟨s,_,r1,r2⟩:=rep2 r1 r2
  obtain⟨a,_,r1,r2⟩:=rep2 r1 r2
  obtain⟨w,_⟩:=rep2 r1 r2
  have k:=repInt k
  have n:=repInt n
  have a:=repInt a
  match x,y,k,n,l,f,s,a,w with
  | .num m,.num m',_,n,_,_,_,_,_ =>
   simp only [It.num0] at n
   have:m=m':=by omega
   rw [this]
  | .list m,.list m',_,_,l,_,_,_,_=>rw [link_rep m m' l]
  | .unit,.unit,_,_,_,_,_,_,_=>rfl
  | .pair p q,.pair p' q',_,_,_,f,s,_,_=>rw [it_rep p p' f,it_rep q q' s]
  | .fn m vs,.fn m' vs',_,_,_,_,_,a,w =>
   simp only [It.at0] at a
   have:m=m':=by omega
   rw [this,vars_rep vs vs' w]
  | .num _,.list _,k,_,_,_,_,_,_=>cases k
  | .num _,.unit,k,_,_,_,_,_,_=>cases k
  | .num _,.pair _ _,k,_,_,_,_,_,_=>cases k
  | .num _,.fn _ _,k,_,_,_,_,_,_=>cases k
  | .list _,.num _,k,_,_,_,_,_,_=>cases k
  | .list _,.unit,k,_,_,_,_,_,_=>cases k
  | .list _,.pair _ _,k,_,_,_,_,_,_=>cases k
  | .list _,.fn _ _,k,_,_,_,_,_,_=>cases k
  | .unit,.num _,k,_,_,_,_,_,_=>cases k
  | .unit,.list _,k,_,_,_,_,_,_=>cases k
  | .unit,.pair _ _,k,_,_,_,_,_,_=>cases k
  | .unit,.fn _ _,k,_,_,_,_,_,_=>cases k
  | .pair _ _,.num _,k,_,_,_,_,_,_=>cases k
  | .pair _ _,.list _,k,_,_,_,_,_,_=>cases k
  | .pair _ _,.unit,k,_,_,_,_,_,_=>cases k
  | .pair _ _,.fn _ _,k,_,_,_,_,_,_=>cases k
  | .fn _ _,.num _,k,_,_,_,_,_,_=>cases k
  | .fn _ _,.list _,k,_,_,_,_,_,_=>cases k
  | .fn _ _,.unit,k,_,_,_,_,_,_=>cases k
  | .fn _ _,.pair _ _,k,_,_,_,_,_,_=>cases k
theorem vars_rep {H:Hp} : ∀ (xs ys:List It),(∃ v,RepP H (varsP xs) v∧RepP H (varsP ys) v)→xs=ys
 | [],[],_=>rfl
 | [],_::_,h=>(repNil h).elim
 | _::_,[],h=>(repNil' h).elim
 | x::xs,y::ys,⟨v,h1,h2⟩=>by
  obtain⟨us,r1,r2⟩:=repPtr h1 h2
  obtain⟨c1,_,r1,r2⟩:=rep2 r1 r2
  obtain⟨_,_,r1,r2⟩:=rep2 r1 r2
  obtain⟨_,_,r1,r2⟩:=rep2 r1 r2
  obtain⟨_,_,r1,r2⟩:=rep2 r1 r2
  obtain⟨c5,_⟩:=rep2 r1 r2
  rw [it_rep x y c1,vars_rep xs ys c5]
end
abbrev Nums:=List (List Int)
def ix:Nums→List Int→Option Nat
 | [],_=>none
 | t::r,s=>if s=t then some 1 else (ix r s).map (· + 1)
def num (l:Nums) (s:List Int):Nat × Nums:=match ix l s with
 | some n=>(n,l)
 | none=>(l.length+1,l++[s])
def numE:Nat→Nums→List (List Int × PV)
 | _,[]=>[]
 | k,s::r=>(s,.int ((k+1:Nat):Int))::numE (k+1) r
theorem numE_len:∀ (k:Nat) (l:Nums),(numE k l).length=l.length
 | _,[]=>rfl
 | k,_::r=>by simp [numE,numE_len (k+1) r]
theorem numE_get:∀ (k:Nat) (l:Nums) (s:List Int),imGet (numE k l) s=(ix l s).map (fun n => .int ((k+n:Nat):Int))
 | _,[],_=>rfl
 | k,t::r,s=>by
  simp only [numE,imGet,ix]
  split
  ·rfl
  ·rw [numE_get (k+1) r s]
   cases ix r s with
   | none=>rfl
   | some n =>
    simp only [Option.map_some,Option.some.injEq,PV.int.injEq]
    omega
theorem numE_set:∀ (k:Nat) (l:Nums) (s:List Int),ix l s=none→imSet (numE k l) s (.int ((k+l.length+1:Nat):Int))=numE k (l++[s])
 | k,[],s,_=>by simp [numE,imSet]
 | k,t::r,s,h=>by
  simp only [ix] at h
  split at h
  ·cases h
  ·rename_i hne
   have h':ix r s=none:=by
    cases e:ix r s with
    | none=>rfl
    | some n=>rw [e] at h;cases h
   simp only [numE,imSet,if_neg hne,List.cons_append,List.length_cons]
   have:=numE_set (k+1) r s h'
   have e2:k+(r.length+1)+1=k+1+r.length+1:=by omega
   rw [e2,this]
mutual
def numI:Nums→It→Nat × Nums
 | l,.num k=>num l [1,k,0]
 | l,.list x=>num (numL l x).2 [2,(numL l x).1,0]
 | l,.pair a b=>num (numI (numI l a).2 b).2 [3,(numI l a).1,(numI (numI l a).2 b).1]
 | l,.unit=>num l [4,0,0]
 | l,.fn p vs=>num (numV l vs).2 [5,p,(numV l vs).1]
def numV:Nums→List It→Nat × Nums
 | l,[]=>(0,l)
 | l,x::r=>num (numV (numI l x).2 r).2 [-2,(numI l x).1,(numV (numI l x).2 r).1]
def numL:Nums→List Nat→Nat × Nums
 | l,[]=>(0,l)
 | l,h::t=>num (numL l t).2 [-1,h,(numL l t).1]
end
theorem num_pre (l:Nums) (s:List Int):l <+: (num l s).2:=by
 unfold num
 split
 ·exact List.prefix_rfl
 ·exact List.prefix_append _ _
mutual
theorem numI_pre:∀ (l:Nums) (x:It),l <+: (numI l x).2
 | l,.num k=>num_pre _ _
 | l,.list x=>(numL_pre l x).trans (num_pre _ _)
 | l,.pair a b=>((numI_pre l a).trans (numI_pre _ b)).trans (num_pre _ _)
 | l,.unit=>num_pre _ _
 | l,.fn p vs=>(numV_pre l vs).trans (num_pre _ _)
theorem numV_pre:∀ (l:Nums) (xs:List It),l <+: (numV l xs).2
 | l,[]=>List.prefix_rfl
 | l,x::r=>((numI_pre l x).trans (numV_pre _ r)).trans (num_pre _ _)
theorem numL_pre:∀ (l:Nums) (x:List Nat),l <+: (numL l x).2
 | l,[]=>List.prefix_rfl
 | l,h::t=>(numL_pre l t).trans (num_pre _ _)
end
theorem ix_pre:∀ {l m:Nums} {s:List Int} {n:Nat},l <+: m→ix l s=some n→ix m s=some n
 | [],_,_,_,_,h=>by simp [ix] at h
 | t::r,m,s,n,hp,h=>by
  obtain⟨q,rfl⟩:=hp
  simp only [List.cons_append,ix] at h ⊢
  split
  ·rename_i e;rw [if_pos e] at h;exact h
  ·rename_i e
   rw [if_neg e] at h
   cases e2:ix r s with
   | none=>rw [e2] at h;cases h
   | some k =>
    rw [e2] at h
    rw [ix_pre (List.prefix_append r q) e2]
    exact h
theorem ix_app:∀ (l:Nums) (s:List Int),ix l s=none→ix (l++[s]) s=some (l.length+1)
 | [],s,_=>by simp [ix]
 | t::r,s,h=>by
  simp only [ix] at h
  split at h
  ·cases h
  ·rename_i e
   have h':ix r s=none:=by
    cases e2:ix r s with
    | none=>rfl
    | some n=>rw [e2] at h;cases h
   simp only [List.cons_append,ix,if_neg e,ix_app r s h',Option.map_some,List.length_cons]
theorem num_ix (l:Nums) (s:List Int):ix (num l s).2 s=some (num l s).1:=by
 unfold num
 split
 ·assumption
 ·exact ix_app _ _ (by assumption)
theorem num_of_ix {l:Nums} {s:List Int} {n:Nat} (h:ix l s=some n):num l s=(n,l):=by
 unfold num
 rw [h]
theorem ix_of_num {l:Nums} {s:List Int} (h:(num l s).2=l):ix l s=some (num l s).1:=by
 have:=num_ix l s
 rw [h] at this
 exact this
theorem pre_antisymm {l m:Nums} (h:l <+: m) (h':m <+: l):l=m:=h.eq_of_length (Nat.le_antisymm h.length_le h'.length_le)
mutual
theorem numI_stay:∀ (x:It) {l m:Nums},l <+: m→(numI l x).2=l→numI m x=((numI l x).1,m)
 | .num k,l,m,hp,h=>num_of_ix (ix_pre hp (ix_of_num h))
 | .list x,l,m,hp,h=>by
  simp only [numI] at h ⊢
  have e:(numL l x).2=l:=by
   have h1:=num_pre (numL l x).2 [2,((numL l x).1:Int),0]
   rw [h] at h1
   exact (pre_antisymm (numL_pre l x) h1).symm
  rw [e] at h ⊢
  rw [numL_stay x hp e]
  exact num_of_ix (ix_pre hp (ix_of_num h))
 | .pair a b,l,m,hp,h=>by
  simp only [numI] at h ⊢
  have h1:=num_pre (numI (numI l a).2 b).2 [3,((numI l a).1:Int),((numI (numI l a).2 b).1:Int)]
  rw [h] at h1
  have e1:(numI l a).2=l:=(pre_antisymm (numI_pre l a) ((numI_pre _ b).trans h1)).symm
  rw [e1] at h h1 ⊢
  have e2:(numI l b).2=l:=(pre_antisymm (numI_pre l b) h1).symm
  rw [e2] at h ⊢
  rw [numI_stay a hp e1]
  simp only
  rw [numI_stay b hp e2]
  exact num_of_ix (ix_pre hp (ix_of_num h))
 | .unit,l,m,hp,h=>num_of_ix (ix_pre hp (ix_of_num h))
 | .fn p vs,l,m,hp,h=>by
  simp only [numI] at h ⊢
  have e:(numV l vs).2=l:=by
   have h1:=num_pre (numV l vs).2 [5,(p:Int),((numV l vs).1:Int)]
   rw [h] at h1
   exact (pre_antisymm (numV_pre l vs) h1).symm
  rw [e] at h ⊢
  rw [numV_stay vs hp e]
  exact num_of_ix (ix_pre hp (ix_of_num h))
theorem numV_stay:∀ (xs:List It) {l m:Nums},l <+: m→(numV l xs).2=l→numV m xs=((numV l xs).1,m)
 | [],l,m,hp,h=>rfl
 | a::b,l,m,hp,h=>by
  simp only [numV] at h ⊢
  have h1:=num_pre (numV (numI l a).2 b).2 [-2,((numI l a).1:Int),((numV (numI l a).2 b).1:Int)]
  rw [h] at h1
  have e1:(numI l a).2=l:=(pre_antisymm (numI_pre l a) ((numV_pre _ b).trans h1)).symm
  rw [e1] at h h1 ⊢
  have e2:(numV l b).2=l:=(pre_antisymm (numV_pre l b) h1).symm
  rw [e2] at h ⊢
  rw [numI_stay a hp e1]
  simp only
  rw [numV_stay b hp e2]
  exact num_of_ix (ix_pre hp (ix_of_num h))
theorem numL_stay:∀ (x:List Nat) {l m:Nums},l <+: m→(numL l x).2=l→numL m x=((numL l x).1,m)
 | [],l,m,hp,h=>rfl
 | a::b,l,m,hp,h=>by
  simp only [numL] at h ⊢
  have h1:=num_pre (numL l b).2 [-1,(a:Int),((numL l b).1:Int)]
  rw [h] at h1
  have e1:(numL l b).2=l:=(pre_antisymm (numL_pre l b) h1).symm
  rw [e1] at h ⊢
  rw [numL_stay b hp e1]
  exact num_of_ix (ix_pre hp (ix_of_num h))
end
mutual
theorem numI_known:∀ (l:Nums) (x:It),numI (numI l x).2 x=((numI l x).1,(numI l x).2)
 | l,.num k=>num_of_ix (num_ix _ _)
 | l,.list x=>by
  have h1:=numL_known l x
  have h2:=numL_stay x (num_pre (numL l x).2 [2,((numL l x).1:Int),0]) (by rw [h1])
  simp only [numI]
  rw [h2,h1]
  exact num_of_ix (num_ix _ _)
 | l,.pair a b=>by
  have h1:=numI_known l a
  have h2:=numI_known (numI l a).2 b
  have hp:=num_pre (numI (numI l a).2 b).2 [3,((numI l a).1:Int),((numI (numI l a).2 b).1:Int)]
  have h3:=numI_stay a ((numI_pre _ b).trans hp) (by rw [h1])
  have h4:=numI_stay b hp (by rw [h2])
  simp only [numI]
  rw [h3,h1]
  simp only
  rw [h4,h2]
  exact num_of_ix (num_ix _ _)
 | l,.unit=>num_of_ix (num_ix _ _)
 | l,.fn p vs=>by
  have h1:=numV_known l vs
  have h2:=numV_stay vs (num_pre (numV l vs).2 [5,(p:Int),((numV l vs).1:Int)]) (by rw [h1])
  simp only [numI]
  rw [h2,h1]
  exact num_of_ix (num_ix _ _)
theorem numV_known:∀ (l:Nums) (xs:List It),numV (numV l xs).2 xs=((numV l xs).1,(numV l xs).2)
 | l,[]=>rfl
 | l,a::b=>by
  have h1:=numI_known l a
  have h2:=numV_known (numI l a).2 b
  have hp:=num_pre (numV (numI l a).2 b).2 [-2,((numI l a).1:Int),((numV (numI l a).2 b).1:Int)]
  have h3:=numI_stay a ((numV_pre _ b).trans hp) (by rw [h1])
  have h4:=numV_stay b hp (by rw [h2])
  simp only [numV]
  rw [h3,h1]
  simp only
  rw [h4,h2]
  exact num_of_ix (num_ix _ _)
theorem numL_known:∀ (l:Nums) (x:List Nat),numL (numL l x).2 x=((numL l x).1,(numL l x).2)
 | l,[]=>rfl
 | l,a::b=>by
  have h1:=numL_known l b
  have h2:=numL_stay b (num_pre (numL l b).2 [-1,(a:Int),((numL l b).1:Int)]) (by rw [h1])
  simp only [numL]
  rw [h2,h1]
  exact num_of_ix (num_ix _ _)
end
theorem ix_pos:∀ {l:Nums} {s:List Int} {n:Nat},ix l s=some n→0<n
 | [],_,_,h=>by simp [ix] at h
 | t::r,s,n,h=>by
  simp only [ix] at h
  split at h
  ·cases h;omega
  ·cases e:ix r s with
   | none=>rw [e] at h;cases h
   | some k=>rw [e] at h;cases h;exact Nat.succ_pos _
theorem ix_inj:∀ {l:Nums} {s t:List Int} {n:Nat},ix l s=some n→ix l t=some n→s=t
 | [],_,_,_,h,_=>by simp [ix] at h
 | u::r,s,t,n,h,h'=>by
  simp only [ix] at h h'
  split at h
  ·rename_i e1
   cases h
   split at h'
   ·rename_i e2;rw [e1,e2]
   ·cases e:ix r t with
    | none=>rw [e] at h';cases h'
    | some k=>rw [e] at h';cases h';have:=ix_pos e;omega
  ·cases e:ix r s with
   | none=>rw [e] at h;cases h
   | some k =>
    rw [e] at h
    cases h
    split at h'
    ·cases h';have:=ix_pos e;omega
    ·cases e':ix r t with
     | none=>rw [e'] at h';cases h'
     | some k' =>
      rw [e'] at h'
      cases h'
      exact ix_inj e e'
theorem parts_list {l:Nums} {x:List Nat} (h:(numI l (.list x)).2=l):(numL l x).2=l∧ix l [2,(numL l x).1,0]=some (numI l (.list x)).1:=by
 simp only [numI] at h ⊢
 have h1:=num_pre (numL l x).2 [2,((numL l x).1:Int),0]
 rw [h] at h1
 have e:(numL l x).2=l:=(pre_antisymm (numL_pre l x) h1).symm
 rw [e] at h ⊢
 exact⟨rfl,ix_of_num h⟩
theorem parts_pair {l:Nums} {a b:It} (h:(numI l (.pair a b)).2=l):(numI l a).2=l∧(numI l b).2=l∧ix l [3,(numI l a).1,(numI l b).1]=some (numI l (.pair a b)).1:=by
 simp only [numI] at h ⊢
 have h1:=num_pre (numI (numI l a).2 b).2 [3,((numI l a).1:Int),((numI (numI l a).2 b).1:Int)]
 rw [h] at h1
 have e1:(numI l a).2=l:=(pre_antisymm (numI_pre l a) ((numI_pre _ b).trans h1)).symm
 rw [e1] at h h1 ⊢
 have e2:(numI l b).2=l:=(pre_antisymm (numI_pre l b) h1).symm
 rw [e2] at h ⊢
 exact⟨rfl,rfl,ix_of_num h⟩
theorem parts_fn {l:Nums} {p:Nat} {vs:List It} (h:(numI l (.fn p vs)).2=l):(numV l vs).2=l∧ix l [5,p,(numV l vs).1]=some (numI l (.fn p vs)).1:=by
 simp only [numI] at h ⊢
 have h1:=num_pre (numV l vs).2 [5,(p:Int),((numV l vs).1:Int)]
 rw [h] at h1
 have e:(numV l vs).2=l:=(pre_antisymm (numV_pre l vs) h1).symm
 rw [e] at h ⊢
 exact⟨rfl,ix_of_num h⟩
theorem parts_vars {l:Nums} {a:It} {b:List It} (h:(numV l (a::b)).2=l):(numI l a).2=l∧(numV l b).2=l∧ix l [-2,(numI l a).1,(numV l b).1]=some (numV l (a::b)).1:=by
 simp only [numV] at h ⊢
 have h1:=num_pre (numV (numI l a).2 b).2 [-2,((numI l a).1:Int),((numV (numI l a).2 b).1:Int)]
 rw [h] at h1
 have e1:(numI l a).2=l:=(pre_antisymm (numI_pre l a) ((numV_pre _ b).trans h1)).symm
 rw [e1] at h h1 ⊢
 have e2:(numV l b).2=l:=(pre_antisymm (numV_pre l b) h1).symm
 rw [e2] at h ⊢
 exact⟨rfl,rfl,ix_of_num h⟩
theorem parts_links {l:Nums} {a:Nat} {b:List Nat} (h:(numL l (a::b)).2=l):(numL l b).2=l∧ix l [-1,a,(numL l b).1]=some (numL l (a::b)).1:=by
 simp only [numL] at h ⊢
 have h1:=num_pre (numL l b).2 [-1,(a:Int),((numL l b).1:Int)]
 rw [h] at h1
 have e1:(numL l b).2=l:=(pre_antisymm (numL_pre l b) h1).symm
 rw [e1] at h ⊢
 exact⟨rfl,ix_of_num h⟩
theorem numL_inj {l:Nums} : ∀ (x y:List Nat),(numL l x).2=l→(numL l y).2=l→(numL l x).1=(numL l y).1→x=y
 | [],[],_,_,_=>rfl
 | [],b::y,_,h,e=>by
  have:=ix_pos (parts_links h).2
  rw [← e] at this
  exact absurd this (by simp [numL])
 | a::x,[],h,_,e=>by
  have:=ix_pos (parts_links h).2
  rw [e] at this
  exact absurd this (by simp [numL])
 | a::x,b::y,h,h',e=>by
  obtain⟨h1,h2⟩:=parts_links h
  obtain⟨h3,h4⟩:=parts_links h'
  rw [e] at h2
  have:=ix_inj h2 h4
  simp only [List.cons.injEq,and_true,true_and] at this
  have e1:a=b:=by omega
  have e2:(numL l x).1=(numL l y).1:=by omega
  rw [e1,numL_inj x y h1 h3 e2]
theorem ix_num {l:Nums} {k:Nat} (h:(numI l (.num k)).2=l):ix l [1,k,0]=some (numI l (.num k)).1:=ix_of_num h
theorem ix_unit {l:Nums} (h:(numI l .unit).2=l):ix l [4,0,0]=some (numI l .unit).1:=ix_of_num h
def shp (l:Nums):It→List Int
 | .num k=>[1,k,0]
 | .list x=>[2,(numL l x).1,0]
 | .pair a b=>[3,(numI l a).1,(numI l b).1]
 | .unit=>[4,0,0]
 | .fn p vs=>[5,p,(numV l vs).1]
theorem ix_shp {l:Nums} {x:It} (h:(numI l x).2=l):ix l (shp l x)=some (numI l x).1:=by
 cases x with
 | num k=>exact ix_num h
 | list x=>exact (parts_list h).2
 | pair a b=>exact (parts_pair h).2.2
 | unit=>exact ix_unit h
 | fn p vs=>exact (parts_fn h).2
mutual
theorem numI_inj {l:Nums} : ∀ (x y:It),(numI l x).2=l→(numI l y).2=l→(numI l x).1=(numI l y).1→x=y
 | x,y,h,h',e=>by
  have h1:=ix_shp h
  have h2:=ix_shp h'
  rw [e] at h1
  have hs:=ix_inj h1 h2
  match x,y,h,h',hs with
  | .num m,.num m',_,_,hs =>
   simp only [shp,List.cons.injEq,and_true,true_and] at hs
   have:m=m':=by omega
   rw [this]
  | .list m,.list m',h,h',hs =>
   simp only [shp,List.cons.injEq,and_true,true_and] at hs
   rw [numL_inj m m' (parts_list h).1 (parts_list h').1 (by omega)]
  | .unit,.unit,_,_,_=>rfl
  | .pair p q,.pair p' q',h,h',hs =>
   simp only [shp,List.cons.injEq,and_true,true_and] at hs
   rw [numI_inj p p' (parts_pair h).1 (parts_pair h').1 (by omega),numI_inj q q' (parts_pair h).2.1 (parts_pair h').2.1 (by omega)]
  | .fn m vs,.fn m' vs',h,h',hs =>
   simp only [shp,List.cons.injEq,and_true,true_and] at hs
   have:m=m':=by omega
   rw [this,numV_inj vs vs' (parts_fn h).1 (parts_fn h').1 (by omega)]
  | .num _,.list _,_,_,hs=>simp [shp] at hs
  | .num _,.unit,_,_,hs=>simp [shp] at hs
  | .num _,.pair _ _,_,_,hs=>simp [shp] at hs
  | .num _,.fn _ _,_,_,hs=>simp [shp] at hs
  | .list _,.num _,_,_,hs=>simp [shp] at hs
  | .list _,.unit,_,_,hs=>simp [shp] at hs
  | .list _,.pair _ _,_,_,hs=>simp [shp] at hs
  | .list _,.fn _ _,_,_,hs=>simp [shp] at hs
  | .unit,.num _,_,_,hs=>simp [shp] at hs
  | .unit,.list _,_,_,hs=>simp [shp] at hs
  | .unit,.pair _ _,_,_,hs=>simp [shp] at hs
  | .unit,.fn _ _,_,_,hs=>simp [shp] at hs
  | .pair _ _,.num _,_,_,hs=>simp [shp] at hs
  | .pair _ _,.list _,_,_,hs=>simp [shp] at hs
  | .pair _ _,.unit,_,_,hs=>simp [shp] at hs
  | .pair _ _,.fn _ _,_,_,hs=>simp [shp] at hs
  | .fn _ _,.num _,_,_,hs=>simp [shp] at hs
  | .fn _ _,.list _,_,_,hs=>simp [shp] at hs
  | .fn _ _,.unit,_,_,hs=>simp [shp] at hs
  | .fn _ _,.pair _ _,_,_,hs=>simp [shp] at hs
theorem numV_inj {l:Nums} : ∀ (xs ys:List It),(numV l xs).2=l→(numV l ys).2=l→(numV l xs).1=(numV l ys).1→xs=ys
 | [],[],_,_,_=>rfl
 | [],b::y,_,h,e=>by
  have:=ix_pos (parts_vars h).2.2
  rw [← e] at this
  exact absurd this (by simp [numV])
 | a::x,[],h,_,e=>by
  have:=ix_pos (parts_vars h).2.2
  rw [e] at this
  exact absurd this (by simp [numV])
 | a::x,b::y,h,h',e=>by
  obtain⟨h1,h2,h3⟩:=parts_vars h
  obtain⟨h4,h5,h6⟩:=parts_vars h'
  rw [e] at h3
  have:=ix_inj h3 h6
  simp only [List.cons.injEq,and_true,true_and] at this
  rw [numI_inj a b h1 h4 (by omega),numV_inj x y h2 h5 (by omega)]
end
mutual
theorem itP_injA:∀ (x y:It),itP x=itP y→x=y
 | .num _,y,h=>by
  cases y<;>simp [itP] at h ⊢
  omega
 | .list x,y,h=>by
  cases y<;>simp [itP] at h ⊢
  exact linkP_inj _ _ h
 | .unit,y,h=>by cases y<;>simp [itP] at h ⊢
 | .pair a b,y,h=>by
  cases y with
  | pair c d =>
   simp only [itP,PV.ptr.injEq,List.cons.injEq,true_and,and_true] at h
   rw [itP_injA a c h.1,itP_injA b d h.2.1]
  | _=>simp [itP] at h
 | .fn p vs,y,h=>by
  cases y with
  | fn q ws =>
   simp only [itP,PV.ptr.injEq,List.cons.injEq,true_and,and_true,PV.int.injEq] at h
   have:p=q:=by omega
   rw [this,varsP_injA vs ws h.2.1]
  | _=>simp [itP] at h
theorem varsP_injA:∀ (xs ys:List It),varsP xs=varsP ys→xs=ys
 | [],[],_=>rfl
 | [],_::_,h=>by simp [varsP] at h
 | _::_,[],h=>by simp [varsP] at h
 | a::x,b::y,h=>by
  simp only [varsP,PV.ptr.injEq,List.cons.injEq,true_and,and_true] at h
  rw [itP_injA a b h.1,varsP_injA x y h.2.2.2.2]
end
def DI (l:Nums) (p:PV):Prop:=∃ x,p=itP x∧(numI l x).2=l
def DL (l:Nums) (p:PV):Prop:=∃ h t,p=linkP (h::t)∧(numL l (h::t)).2=l
def DV (l:Nums) (p:PV):Prop:=∃ x r,p=varsP (x::r)∧(numV l (x::r)).2=l
open Classical in
noncomputable def FI (l:Nums) (p:PV):PV:=if h:∃ x,p=itP x then .int ((numI l (Classical.choose h)).1:Int) else .nil
open Classical in
noncomputable def FL (l:Nums) (p:PV):PV:=if h:∃ x,p=linkP x then .int ((numL l (Classical.choose h)).1:Int) else .nil
open Classical in
noncomputable def FV (l:Nums) (p:PV):PV:=if h:∃ x,p=varsP x then .int ((numV l (Classical.choose h)).1:Int) else .nil
theorem FI_it (l:Nums) (x:It):FI l (itP x) = .int ((numI l x).1:Int):=by
 have h:∃ y,itP x=itP y:=⟨x,rfl⟩
 unfold FI
 rw [dif_pos h,← itP_injA x _ (Classical.choose_spec h)]
theorem FL_it (l:Nums) (x:List Nat):FL l (linkP x) = .int ((numL l x).1:Int):=by
 have h:∃ y,linkP x=linkP y:=⟨x,rfl⟩
 unfold FL
 rw [dif_pos h,← linkP_inj x _ (Classical.choose_spec h)]
theorem FV_it (l:Nums) (x:List It):FV l (varsP x) = .int ((numV l x).1:Int):=by
 have h:∃ y,varsP x=varsP y:=⟨x,rfl⟩
 unfold FV
 rw [dif_pos h,← varsP_injA x _ (Classical.choose_spec h)]
theorem cohI (l:Nums):Coh (DI l) (FI l):=by
 rintro H p q v ⟨x,rfl,_⟩ ⟨y,rfl,_⟩ h1 h2
 rw [it_rep x y ⟨v,h1,h2⟩]
theorem cohL (l:Nums):Coh (DL l) (FL l):=by
 rintro H p q v ⟨x,t,rfl,_⟩ ⟨y,u,rfl,_⟩ h1 h2
 rw [link_rep _ _ ⟨v,h1,h2⟩]
theorem cohV (l:Nums):Coh (DV l) (FV l):=by
 rintro H p q v ⟨x,t,rfl,_⟩ ⟨y,u,rfl,_⟩ h1 h2
 rw [vars_rep _ _ ⟨v,h1,h2⟩]
theorem monI {l m:Nums} (h:l <+: m) (p:PV):DI l p→DI m p∧FI l p=FI m p:=by
 rintro⟨x,rfl,hx⟩
 have:=numI_stay x h hx
 exact⟨⟨x,rfl,by rw [this]⟩,by rw [FI_it,FI_it,this]⟩
theorem monL {l m:Nums} (h:l <+: m) (p:PV):DL l p→DL m p∧FL l p=FL m p:=by
 rintro⟨x,t,rfl,hx⟩
 have:=numL_stay _ h hx
 exact⟨⟨x,t,rfl,by rw [this]⟩,by rw [FL_it,FL_it,this]⟩
theorem monV {l m:Nums} (h:l <+: m) (p:PV):DV l p→DV m p∧FV l p=FV m p:=by
 rintro⟨x,t,rfl,hx⟩
 have:=numV_stay _ h hx
 exact⟨⟨x,t,rfl,by rw [this]⟩,by rw [FV_it,FV_it,this]⟩
theorem notI {l:Nums} {x:It} (h:¬ (numI l x).2=l) (H:Hp) (p:PV) (v:Value):DI l p→RepP H p v→RepP H (itP x) v→False:=by
 rintro⟨y,rfl,hy⟩ h1 h2
 rw [it_rep x y ⟨v,h2,h1⟩] at h
 exact h hy
theorem notL {l:Nums} {x:List Nat} (h:¬ (numL l x).2=l) (H:Hp) (p:PV) (v:Value):DL l p→RepP H p v→RepP H (linkP x) v→False:=by
 rintro⟨y,t,rfl,hy⟩ h1 h2
 rw [link_rep x _ ⟨v,h2,h1⟩] at h
 exact h hy
theorem notV {l:Nums} {x:List It} (h:¬ (numV l x).2=l) (H:Hp) (p:PV) (v:Value):DV l p→RepP H p v→RepP H (varsP x) v→False:=by
 rintro⟨y,t,rfl,hy⟩ h1 h2
 rw [vars_rep x _ ⟨v,h2,h1⟩] at h
 exact h hy
end Go.Lg
namespace Go.Proofs.YtodjpfpmhjdhbaaGreatDoor
open Go.Lg
set_option maxRecDepth 10000
set_option maxHeartbeats 4000000
def tB (hits:Nat):Ob:=.box [.map 981,.map 982,.map 983,.map 984,.map 985,.pv (.int hits)]
def Sh (l:Nums):Prop:=∀ s∈l,s.length=3
theorem Sh.ents {l:Nums} (h:Sh l):∀ k,∀ e∈numE k l,e.1.length=3:=by
 induction l with
 | nil=>intro k e he;simp [numE] at he
 | cons s r ih =>
  intro k e he
  simp only [numE,List.mem_cons] at he
  rcases he with rfl|he
  ·exact h s (by simp)
  ·exact ih (fun s hs=>h s (by simp [hs])) _ e he
theorem mnum_ok (l:Nums) (hits:Nat) (a b c:Int) (hl:l.length≤1152921504606846976) (hs:Sh l) :
  AC Tryz.prog gl 154 [.loc 980 0,.pv (.agg [.int a,.int b,.int c])] [(980,tB hits),(981,.imap (numE 0 l))] (.ret (.pv (.int ((num l [a,b,c]).1:Nat)))) [(980,tB hits),(981,.imap (numE 0 (num l [a,b,c]).2))]:=by
 have hall:=hs.ents 0
 have hlen:=numE_len 0 l
 have hg:=numE_get 0 l [a,b,c]
 cases hx:ix l [a,b,c] with
 | some n =>
  rw [num_of_ix hx]
  rw [hx] at hg
  simp only [Option.map_some,Nat.zero_add] at hg
  clear hlen hx hl hs
  unfold tB
  generalize numE 0 l=es at *
  refine bodyM [] [982,983,984,985] Tryz.func154 Tryz.ntmps154 ?_
  refine gg ?_
  refine lookI ?_ (hc:=by dsimp only;assumption)
  refine gg ?_
  refine⟨by rfl,?_⟩
  refine gg ?_
  exact enC6
 | none =>
  have hn:num l [a,b,c]=(l.length+1,l++[[a,b,c]]):=by
   unfold num
   rw [hx]
  have hset:=numE_set 0 l [a,b,c] hx
  rw [hn]
  rw [hx] at hg
  have e1:((0+l.length+1:Nat):Int)=((numE 0 l).length:Int)+1:=by omega
  have e2:((l.length+1:Nat):Int)=((numE 0 l).length:Int)+1:=by omega
  have e3:(numE 0 l).length≤1152921504606846976:=by omega
  rw [e1] at hset
  simp only [e2]
  simp only [Option.map_none] at hg
  rw [← hset]
  clear hlen hx hl hs hn hset e1 e2
  unfold tB
  generalize numE 0 l=es at *
  refine bodyM [] [982,983,984,985] Tryz.func154 Tryz.ntmps154 ?_
  refine gg ?_
  refine lookI ?_ (hc:=by dsimp only;assumption)
  refine gg ?_
  refine⟨by rfl,?_⟩
  refine gg ?_
  refine⟨by rfl,?_⟩
  refine gg ?_
  exact enC6
noncomputable def tabN (l:Nums) (hits:Nat):List (Nat × Ob):=[(980,tB hits),(981,.imap (numE 0 l)),(982,.cache (DI l) (FI l)),(983,.cache (DL l) (FL l)),(984,.cache (DV l) (FV l))]
theorem Sh.num {l:Nums} (h:Sh l) {s:List Int} (hs:s.length=3):Sh (num l s).2:=by
 unfold Go.Lg.num
 split
 ·exact h
 ·intro t ht
  rcases List.mem_append.1 ht with ht|ht
  ·exact h t ht
  ·simp only [List.mem_singleton] at ht
   rw [ht];exact hs
theorem num_len (l:Nums) (s:List Int):(num l s).2.length≤l.length+1:=by
 unfold num
 split
 ·exact Nat.le_succ _
 ·simp
theorem Sh.numL:∀ {x:List Nat} {l:Nums},Sh l→Sh (numL l x).2
 | [],_,h=>h
 | _::t,_,h=>(Sh.numL (x:=t) h).num rfl
theorem numL_len:∀ (x:List Nat) (l:Nums),(Go.Lg.numL l x).2.length≤l.length+x.length
 | [],l=>by simp [Go.Lg.numL]
 | h::t,l=>by
  have h1:=numL_len t l
  have h2:=num_len (Go.Lg.numL l t).2 [-1,(h:Int),((Go.Lg.numL l t).1:Int)]
  simp only [Go.Lg.numL,List.length_cons]
  omega
theorem links_ok (hits:Nat):∀ (x:List Nat) (l:Nums),l.length+x.length≤1152921504606846976→Sh l →
  AC Tryz.prog gl 152 [.loc 980 0,.pv (linkP x)] (tabN l hits) (.ret (.pv (.int ((numL l x).1:Nat)))) (tabN (numL l x).2 hits):=by
 intro x
 induction x with
 | nil =>
  intro l _ _
  simp only [linkP,numL,tabN,tB]
  refine bodyM [] [985] Tryz.func152 Tryz.ntmps152 ?_
  refine gg ?_
  exact enC6
 | cons h t ih =>
  intro l hl hs
  simp only [List.length_cons] at hl
  have h1:=ih l (by omega) hs
  have hp:=num_pre (numL l t).2 [-1,(h:Int),((numL l t).1:Int)]
  have h2:=mnum_ok (numL l t).2 hits (-1) h (numL l t).1 (by have:=numL_len t l;omega) (hs.numL)
  have hk:=numL_known l (h::t)
  have hd2:DL (numL l (h::t)).2 (linkP (h::t)):=⟨h,t,rfl,by rw [hk]⟩
  have hf2:=FL_it (numL l (h::t)).2 (h::t)
  rw [hk] at hf2
  have hni:(linkP t).nonint=true:=by cases t<;>rfl
  have w1:=vcells_one (linkP_one t)
  have w2:(V.pv (linkP t)).one=true:=by rw [one_pv];exact linkP_one _
  have e2:((t.length+1:Nat):Int)=(t.length:Int)+1:=by omega
  by_cases hkn:(numL l (h::t)).2=l
  ·have hd1:DL l (linkP (h::t)):=⟨h,t,rfl,hkn⟩
   have hf1:=FL_it l (h::t)
   have c2:=cohI (numL l (h::t)).2
   have c3:=cohL (numL l (h::t)).2
   have c4:=cohV (numL l (h::t)).2
   have m2:=monI hp
   have m3:=monL hp
   have m4:=monV hp
   have e3:numL l (h::t)=num (numL l t).2 [-1,(h:Int),((numL l t).1:Int)]:=rfl
   have hkn':=hkn
   rw [e3] at hkn' hf1 hf2 hd2 c2 c3 c4 ⊢
   generalize num (numL l t).2 [-1,(h:Int),((numL l t).1:Int)]=r2 at *
   clear e3 hkn hk ih hs hl
   simp only [linkP,e2] at *
   generalize linkP t=lk at *
   generalize numL l t=r1 at *
   subst hkn'
   unfold tabN tB at *
   refine bodyM [] [985] Tryz.func152 Tryz.ntmps152 ?_
   refine gg ?_
   refine look (n:=983) (F:=FL r2.2) hd1 ?_ (hni:=by simp only [List.any_cons,hni,Bool.true_or,Bool.or_true])
   intro b
   cases b with
   | true =>
    simp only [cond_true,hf1]
    refine gg ?_
    exact enC6
   | false =>
    simp only [cond_false]
    refine gg ?_
    refine call h1 ?_
    refine gg ?_
    refine call h2 ?_
    refine ggox ?_
    refine⟨by rfl,?_⟩
    refine ggox ?_
    refine mor 982 _ _ ?_ m2 c2
    refine mor 983 _ _ ?_ m3 c3
    refine mor 984 _ _ ?_ m4 c4
    refine gg ?_
    exact enC6
  ·have hN:=notL hkn
   have c2:=cohI (numL l (h::t)).2
   have c3:=cohL (numL l (h::t)).2
   have c4:=cohV (numL l (h::t)).2
   have m2:=monI hp
   have m3:=monL hp
   have m4:=monV hp
   have e3:numL l (h::t)=num (numL l t).2 [-1,(h:Int),((numL l t).1:Int)]:=rfl
   rw [e3] at hf2 hd2 c2 c3 c4 ⊢
   generalize num (numL l t).2 [-1,(h:Int),((numL l t).1:Int)]=r2 at *
   clear e3 hkn hk ih hs hl
   simp only [linkP,e2] at *
   generalize linkP t=lk at *
   generalize numL l t=r1 at *
   unfold tabN tB at *
   refine bodyM [] [985] Tryz.func152 Tryz.ntmps152 ?_
   refine gg ?_
   refine lookN (n:=983) (F:=FL l) hN ?_ (hni:=by simp only [List.any_cons,hni,Bool.true_or,Bool.or_true])
   refine gg ?_
   refine call h1 ?_
   refine gg ?_
   refine call h2 ?_
   refine ggox ?_
   refine⟨by rfl,?_⟩
   refine ggox ?_
   refine mor 982 _ _ ?_ m2 c2
   refine mor 983 _ _ ?_ m3 c3
   refine mor 984 _ _ ?_ m4 c4
   refine gg ?_
   exact enC6
end Go.Proofs.YtodjpfpmhjdhbaaGreatDoor
