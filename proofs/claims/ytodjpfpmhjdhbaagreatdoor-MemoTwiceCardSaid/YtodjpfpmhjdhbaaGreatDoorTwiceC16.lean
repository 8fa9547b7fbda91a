/- Contracts of functions; no conditions. -/
import Derived.Test.YtodjpfpmhjdhbaaGreatDoorTwiceC15
import Derived.Test.YtodjpfpmhjdhbaaGreatDoorTwiceC1
import Derived.Test.YtodjpfpmhjdhbaaGreatDoorTwiceA13
set_option linter.all false
namespace Go.Proofs.YtodjpfpmhjdhbaaGreatDoor
open Go.Lg
set_option maxRecDepth 10000
theorem getO_app (a b:List (Nat × Ob)) (k:Nat):getO (a++b) k=match getO a k with|some o=>some o|none=>getO b k:=by
 induction a with
 | nil=>rfl
 | cons p r ih =>
  obtain⟨n,o⟩:=p
  simp only [List.cons_append,getO,ih]
  split<;>rfl
theorem getO_none {l:List (Nat × Ob)} {n:Nat} (hn:n ∉ keysO l):getO l n=none:=by
 cases e:getO l n with
 | none=>rfl
 | some o=>exact absurd (getO_some_mem e) hn
theorem keysO_app (a b:List (Nat × Ob)):keysO (a++b)=keysO a++keysO b:=by simp [keysO]
def rdO (l:List Fr):List (Nat × Ob):=l.filterMap fun fr=>fr.rd.map fun p=>(p.1,rdB p.2)
theorem rdO_app (a b:List Fr):rdO (a++b)=rdO a++rdO b:=by simp [rdO]
theorem rdO_keys (l:List Fr):keysO (rdO l)=frN l:=by
 induction l with
 | nil=>rfl
 | cons fr l ih =>
  simp only [rdO,frN,keysO] at ih ⊢
  cases h:fr.rd<;>simp [h,ih]
structure Nm (m:Mm):Prop where
 nd:(frN m.frames).Nodup
 lo:∀ n∈frN (m.frames++m.fg),1000≤n
 hi:∀ n∈frN (m.frames++m.fg),n<1000+m.steps
def StepTo (c:List Ins) (l:Nat) (b:Bool) (m m':Mm):Prop :=
 ∃ objs objs',AC Tryz.prog gl 113 [.loc 901 0] objs (.ret (.pv (.bool b))) objs'∧subO objs (mO c l m++rdO m.frames)∧(∀ k∈keysO objs',k∈keysO objs∨k=1000+m.steps) ∧
  (∀ k o,getO (mO c l m'++rdO m'.frames) k=some o→getO objs' k=some o∨(getO objs' k=none∧k ∉ keysO objs∧getO (mO c l m++rdO m.frames) k=some o))∧Nm m'
theorem subO_mem {a l:List (Nat × Ob)} (h:∀ p∈a,getO l p.1=some p.2):subO a l:=by
 induction a with
 | nil=>trivial
 | cons p r ih=>exact⟨h p (by simp),ih (fun q hq=>h q (by simp [hq]))⟩
theorem getO_nodup {a:List (Nat × Ob)} (h:(keysO a).Nodup):∀ p∈a,getO a p.1=some p.2:=by
 induction a with
 | nil=>intro p hp;cases hp
 | cons q r ih =>
  intro p hp
  simp only [keysO,List.map_cons,List.nodup_cons] at h
  simp only [getO]
  rcases List.mem_cons.1 hp with rfl|hp
  ·simp
  ·have:¬ q.1=p.1:=fun e=>h.1 (e ▸ List.mem_map_of_mem hp)
   rw [if_neg this]
   exact ih h.2 p hp
theorem StepTo.of {c:List Ins} {l:Nat} {b:Bool} {m m':Mm} (A Xs Ys:List (Nat × Ob)) (hX:rdO m.frames=A++Xs) (hY:rdO m'.frames=A++Ys) (hnm:Nm m) (hnm':Nm m') (hk:∀ k∈keysO Ys,k∈keysO Xs∨k=1000+m.steps)
  (h:AC Tryz.prog gl 113 [.loc 901 0] (mO c l m++Xs) (.ret (.pv (.bool b))) (mO c l m'++Ys)):StepTo c l b m m':=by
 have kX:frN m.frames=keysO A++keysO Xs:=by rw [← rdO_keys,hX,keysO_app]
 have kY:frN m'.frames=keysO A++keysO Ys:=by rw [← rdO_keys,hY,keysO_app]
 have n1:=hnm.nd
 have n2:=hnm'.nd
 rw [kX,List.nodup_append] at n1
 rw [kY,List.nodup_append] at n2
 have l1:∀ k∈keysO A++keysO Xs,1000≤k:=fun k hk=>hnm.lo k (by rw [frN_app,kX];exact List.mem_append.2 (.inl hk))
 have l2:∀ k∈keysO A++keysO Ys,1000≤k:=fun k hk=>hnm'.lo k (by rw [frN_app,kY];exact List.mem_append.2 (.inl hk))
 refine⟨_,_,h,?_,?_,?_,hnm'⟩
 ·refine subO_mem ?_
  intro p hp
  rw [hX,getO_app]
  rcases List.mem_append.1 hp with hp|hp
  ·have:getO (mO c l m) p.1=some p.2:=getO_nodup (by rw [keys_mO];decide) p hp
   rw [this]
  ·have hpk:p.1∈keysO Xs:=List.mem_map_of_mem hp
   have h1:getO (mO c l m) p.1=none:=getO_none (by
    rw [keys_mO]
    have:=l1 p.1 (List.mem_append.2 (.inr hpk))
    simp [keysM];omega)
   have h2:getO A p.1=none:=getO_none (fun hA=>n1.2.2 _ hA _ hpk rfl)
   rw [h1]
   simp only
   rw [getO_app,h2]
   exact getO_nodup n1.2.1 p hp
 ·intro k hk'
  rw [keysO_app] at hk' ⊢
  rcases List.mem_append.1 hk' with hk'|hk'
  ·exact .inl (List.mem_append.2 (.inl hk'))
  ·rcases hk k hk' with h|h
   ·exact .inl (List.mem_append.2 (.inr h))
   ·exact .inr h
 ·intro k o ho
  rw [hY,getO_app] at ho
  rw [getO_app,keysO_app,hX,getO_app]
  cases e:getO (mO c l m') k with
  | some o1 =>
   rw [e] at ho
   exact .inl ho
  | none =>
   rw [e] at ho
   simp only at ho ⊢
   rw [getO_app] at ho
   cases eA:getO A k with
   | none =>
    rw [eA] at ho
    exact .inl ho
   | some o1 =>
    rw [eA] at ho
    have hkA:=getO_some_mem eA
    have hkl:=l1 k (List.mem_append.2 (.inl hkA))
    have h0:k ∉ keysO (mO c l m):=by rw [keys_mO];simp [keysM];omega
    refine .inr ⟨getO_none (fun hy=>n2.2.2 _ hkA _ hy rfl),?_,?_⟩
    ·intro hm
     rcases List.mem_append.1 hm with hm|hm
     ·exact h0 hm
     ·exact n1.2.2 _ hkA _ hm rfl
    ·rw [getO_none h0]
     simp only
     rw [getO_app,eA]
     exact ho
def frRen (ρ:Nat→Nat) (fr:Fr):Fr:={ fr with rd:=fr.rd.map fun p=>(ρ p.1,p.2) }
def msRen (ρ:Nat→Nat) (m:Mm):Mm:={ m with frames:=m.frames.map (frRen ρ),fg:=m.fg.map (frRen ρ) }
theorem frN_ren (ρ:Nat→Nat) (l:List Fr):frN (l.map (frRen ρ))=(frN l).map ρ:=by
 induction l with
 | nil=>rfl
 | cons fr l ih =>
  simp only [frN,List.map_cons] at ih ⊢
  obtain⟨a,v,f,x,rd⟩:=fr
  cases rd<;>simp [frRen,ih]
theorem renL_frV (ρ:Nat→Nat) (fr:Fr):renL ρ (frV fr)=frV (frRen ρ fr):=by
 obtain⟨a,v,f,x,rd⟩:=fr
 cases rd<;>rfl
theorem renE_pvE (ρ:Nat→Nat) (es:List (List PV)):renE ρ (pvE es)=pvE es:=by
 have h:∀ l:List PV,renL ρ (pvL l)=pvL l:=by
  intro l
  induction l with
  | nil=>rfl
  | cons p l ih=>simp [pvL,renL,V.ren] at ih ⊢;exact ih
 induction es with
 | nil=>rfl
 | cons e es ih=>simp only [pvE,List.map_cons,renE,h] at ih ⊢;rw [ih]
theorem renE_frV (ρ:Nat→Nat) (l:List Fr):renE ρ (l.map frV)=(l.map (frRen ρ)).map frV:=by
 induction l with
 | nil=>rfl
 | cons fr l ih=>simp only [List.map_cons,renE,ih,renL_frV]
theorem renO_app (ρ:Nat→Nat) (a b:List (Nat × Ob)):renO ρ (a++b)=renO ρ a++renO ρ b:=by
 induction a with
 | nil=>rfl
 | cons p r ih=>simp only [List.cons_append,renO,ih]
theorem tabO_ren {ρ:Nat→Nat} (h:∀ n∈keysM,ρ n=n) (T:Tab):renO ρ (tabO T)=tabO T:=by
 have h0:=h 980 (by simp [keysM])
 have h1:=h 981 (by simp [keysM])
 have h2:=h 982 (by simp [keysM])
 have h3:=h 983 (by simp [keysM])
 have h4:=h 984 (by simp [keysM])
 have h5:=h 985 (by simp [keysM])
 simp only [tabO,tabN,tB,List.cons_append,List.nil_append,renO,Ob.ren,renL,V.ren,h0,h1,h2,h3,h4,h5]
theorem mO_ren {ρ:Nat→Nat} (h:∀ n∈keysM,ρ n=n) (c:List Ins) (l:Nat) (m:Mm):renO ρ (mO c l m)=mO c l (msRen ρ m):=by
 have h0:=h 980 (by simp [keysM])
 have h1:=h 901 (by simp [keysM])
 have h2:=h 902 (by simp [keysM])
 have h3:=h 903 (by simp [keysM])
 have ht:=tabO_ren h m.tab
 have et:(msRen ρ m).tab=m.tab:=rfl
 rw [mO,renO_app,ht,mO,et]
 simp only [renO,h0,h1,h2,h3,mB,mS,mF,Ob.ren,renL,V.ren,renE_pvE,renE_frV,msRen,List.length_map]
 rw [List.map_append (f:=frRen ρ)]
theorem rB_ren (ρ:Nat→Nat) (r:Rd) (lv:PV):(rB r lv).ren ρ=rB r lv:=rfl
theorem frRen_id {ρ:Nat→Nat} {fr:Fr} (h:∀ n r,fr.rd=some (n,r)→ρ n=n):frRen ρ fr=fr:=by
 obtain⟨a,v,f,x,rd⟩:=fr
 cases rd with
 | none=>rfl
 | some p=>simp [frRen,h p.1 p.2 rfl]
theorem mem_frN {l:List Fr} {n:Nat} : n∈frN l ↔ ∃ fr∈l,∃ r,fr.rd=some (n,r):=by
 simp only [frN,List.mem_filterMap,Option.map_eq_some_iff,Prod.exists]
 constructor
 ·rintro⟨fr,hf,a,r,h,rfl⟩;exact⟨fr,hf,r,h⟩
 ·rintro⟨fr,hf,r,h⟩;exact⟨fr,hf,n,r,h,rfl⟩
theorem map_frRen_id {ρ:Nat→Nat} {l:List Fr} (h:∀ n∈frN l,ρ n=n):l.map (frRen ρ)=l:=by
 conv=>rhs;rw [← List.map_id l]
 exact List.map_congr_left fun fr hf=>frRen_id fun n r e=>h n (mem_frN.2 ⟨fr,hf,r,e⟩)
theorem frRen_frRen {ρ:Nat→Nat} (hρ:∀ n,ρ (ρ n)=n) (fr:Fr):frRen ρ (frRen ρ fr)=fr:=by
 obtain⟨a,v,f,x,rd⟩:=fr
 cases rd<;>simp [frRen,hρ]
theorem map_frRen_2 {ρ:Nat→Nat} (hρ:∀ n,ρ (ρ n)=n) (l:List Fr):(l.map (frRen ρ)).map (frRen ρ)=l:=by
 rw [List.map_map]
 conv=>rhs;rw [← List.map_id l]
 exact List.map_congr_left fun fr _=>frRen_frRen hρ fr
theorem msRen_msRen {ρ:Nat→Nat} (hρ:∀ n,ρ (ρ n)=n) (m:Mm):msRen ρ (msRen ρ m)=m:=by
 simp only [msRen,map_frRen_2 hρ]
theorem msRen_id {ρ:Nat→Nat} {m:Mm} (h:∀ n∈frN (m.frames++m.fg),ρ n=n):msRen ρ m=m:=by
 simp only [msRen]
 rw [map_frRen_id (fun n hn=>h n (by rw [frN_app];exact List.mem_append.2 (.inl hn))),map_frRen_id (fun n hn=>h n (by rw [frN_app];exact List.mem_append.2 (.inr hn)))]
theorem Nm.next {m m':Mm} (h:Nm m) (hs:m'.steps=m.steps+1) (h1:(frN m'.frames).Nodup) (h2:∀ n∈frN (m'.frames++m'.fg),n∈frN (m.frames++m.fg)∨n=1000+m.steps):Nm m' :=
 ⟨h1,fun n hn=>(h2 n hn).elim (h.lo n) (fun e=>by omega),fun n hn=>(h2 n hn).elim (fun e=>by have:=h.hi n e;omega) (fun e=>by omega)⟩
theorem StepTo.same {c:List Ins} {l:Nat} {b:Bool} {m m':Mm} (hnm:Nm m) (hs:m'.steps=m.steps+1) (hf:rdO m'.frames=rdO m.frames) (h2:∀ n∈frN m'.fg,n∈frN (m.frames++m.fg))
  (h:AC Tryz.prog gl 113 [.loc 901 0] (mO c l m) (.ret (.pv (.bool b))) (mO c l m')):StepTo c l b m m':=by
 have hf':frN m'.frames=frN m.frames:=by rw [← rdO_keys,hf,rdO_keys]
 refine StepTo.of (rdO m.frames) [] [] (by simp) (by simp [hf]) hnm (hnm.next hs (by rw [hf'];exact hnm.nd) ?_) (by simp [keysO]) (by simpa using h)
 intro n hn
 rw [frN_app,hf'] at hn
 rcases List.mem_append.1 hn with hn|hn
 ·exact .inl (by rw [frN_app];exact List.mem_append.2 (.inl hn))
 ·exact .inl (h2 n hn)
def StepErr (c:List Ins) (l:Nat) (m:Mm) (e:Nat):Prop :=
 ∃ objs,AC Tryz.prog gl 113 [.loc 901 0] objs (.panic (fail e)) []∧subO objs (mO c l m++rdO m.frames)
theorem StepErr.of {c:List Ins} {l:Nat} {m:Mm} {e:Nat} (A Xs:List (Nat × Ob)) (hX:rdO m.frames=A++Xs) (hnm:Nm m) (h:AC Tryz.prog gl 113 [.loc 901 0] (mO c l m++Xs) (.panic (fail e)) []):StepErr c l m e:=by
 have kX:frN m.frames=keysO A++keysO Xs:=by rw [← rdO_keys,hX,keysO_app]
 have n1:=hnm.nd
 rw [kX,List.nodup_append] at n1
 have l1:∀ k∈keysO A++keysO Xs,1000≤k:=fun k hk=>hnm.lo k (by rw [frN_app,kX];exact List.mem_append.2 (.inl hk))
 refine⟨_,h,subO_mem ?_⟩
 intro p hp
 rw [hX,getO_app]
 rcases List.mem_append.1 hp with hp|hp
 ·have:getO (mO c l m) p.1=some p.2:=getO_nodup (by rw [keys_mO];decide) p hp
  rw [this]
 ·have hpk:p.1∈keysO Xs:=List.mem_map_of_mem hp
  have h1:getO (mO c l m) p.1=none:=getO_none (by
   rw [keys_mO]
   have:=l1 p.1 (List.mem_append.2 (.inr hpk))
   simp [keysM];omega)
  have h2:getO A p.1=none:=getO_none (fun hA=>n1.2.2 _ hA _ hpk rfl)
  rw [h1]
  simp only
  rw [getO_app,h2]
  exact getO_nodup n1.2.1 p hp
theorem StepErr.same {c:List Ins} {l:Nat} {m:Mm} {e:Nat} (hnm:Nm m) (h:AC Tryz.prog gl 113 [.loc 901 0] (mO c l m) (.panic (fail e)) []):StepErr c l m e :=
 .of (rdO m.frames) [] (by simp) hnm (by simpa using h)
def StepR (c:List Ins) (l:Nat) (m:Mm):Rm→Prop
 | .go m'=>StepTo c l true m m'
 | .stop m'=>StepTo c l false m m'
 | .err e=>StepErr c l m e
def Okc (c:List Ins):Prop:=∀ (p:Nat) (op a:Nat),c[p]? = some (op,a)→p≤1000000∧a≤1000000∧1≤op∧op≤14∧(op=1∨op=2∨a=0)
theorem mO_3o (c:List Ins) (l:Nat) (m:Mm) (X:List (Nat × Ob)):mO c l m++X=mO3 c l m++(tabO m.tab++X):=by simp [mO,mO3]
theorem StepTo.same3 {c:List Ins} {l:Nat} {b:Bool} {m m':Mm} (hnm:Nm m) (hs:m'.steps=m.steps+1) (hf:rdO m'.frames=rdO m.frames) (ht:m'.tab=m.tab) (h2:∀ n∈frN m'.fg,n∈frN (m.frames++m.fg))
  (h:AC Tryz.prog gl 113 [.loc 901 0] (mO3 c l m) (.ret (.pv (.bool b))) (mO3 c l m')):StepTo c l b m m':=by
 have hf':frN m'.frames=frN m.frames:=by rw [← rdO_keys,hf,rdO_keys]
 refine⟨_,_,h,?_,fun k hk => .inl hk,?_,hnm.next hs (by rw [hf'];exact hnm.nd) ?_⟩
 ·refine subO_mem ?_
  intro p hp
  rw [mO_3o,getO_app,getO_nodup (a:=mO3 c l m) (by show [901,902,903].Nodup;decide) p hp]
 ·intro k o ho
  rw [mO_3o,getO_app] at ho
  cases e:getO (mO3 c l m') k with
  | some o1 =>
   rw [e] at ho
   exact .inl ho
  | none =>
   rw [e] at ho
   have hk:k ∉ keysO (mO3 c l m):=by
    intro hk
    have hk:k∈keysO (mO3 c l m'):=hk
    have:(getO (mO3 c l m') k).isSome:=by
     simp only [keysO,mO3,List.map_cons,List.map_nil,List.mem_cons,List.not_mem_nil,or_false] at hk
     rcases hk with rfl|rfl|rfl<;>simp [mO3,getO]
    rw [e] at this
    cases this
   refine .inr ⟨rfl,hk,?_⟩
   rw [mO_3o,getO_app,getO_none hk]
   rw [ht,hf] at ho
   exact ho
 ·intro n hn
  rw [frN_app,hf'] at hn
  rcases List.mem_append.1 hn with hn|hn
  ·exact .inl (by rw [frN_app];exact List.mem_append.2 (.inl hn))
  ·exact .inl (h2 n hn)
theorem StepErr.same3 {c:List Ins} {l:Nat} {m:Mm} {e:Nat} (hnm:Nm m) (h:AC Tryz.prog gl 113 [.loc 901 0] (mO3 c l m) (.panic (fail e)) []):StepErr c l m e:=by
 refine⟨_,h,subO_mem ?_⟩
 intro p hp
 rw [mO_3o,getO_app,getO_nodup (a:=mO3 c l m) (by show [901,902,903].Nodup;decide) p hp]
theorem kind_1 {x:It} (h:x.kind=1):∃ k,x = .num k:=by cases x<;>simp [It.kind] at h ⊢
theorem kind_2 {x:It} (h:x.kind=2):∃ k,x = .list k:=by cases x<;>simp [It.kind] at h ⊢
section
variable (c:List Ins) (l:Nat) (m:Mm) (p:Nat) (hat:m.at_=((p:Nat):Int)) (hst:¬ m.steps=l) (hsl:m.steps≤800000) (hp:p≤1000000) (hnm:Nm m) {b0:Nat} (hb0:b0≤800000) {N0:Nat} (hok:OkM b0 N0 m)
include hat hst hsl hp hnm hb0 hok
theorem full_1 (op a:Nat) (ha:a≤1000000) (h0:op=1∨op=2∨a=0) (hop:op∈[1,2,4,5,7,8,10,11,12,13]) (hc:c[p]? = some (op,a)) (r:Rm) (hr:(nxt m).exec 0 op a=some r):StepR c l m r:=by
 have hsl':m.steps≤1000000:=by omega
 have hl:m.stack.length≤900000:=by have:=hok.len;omega
 have hN:=hnm.lo
 have ex:∀ x,StepTo c l true m ((nxt m).push x)↔StepTo c l true m ((nxt m).push x):=fun _=>Iff.rfl
 have rest:∀ n∈frN m.fg,n∈frN (m.frames++m.fg):=fun n hn=>by rw [frN_app];exact List.mem_append.2 (.inr hn)
 simp only [List.mem_cons,List.not_mem_nil,or_false] at hop
 rcases hop with rfl|rfl|rfl|rfl|rfl|rfl|rfl|rfl|rfl|rfl
 ·simp only [Mm.exec] at hr
  split at hr
  ·rename_i x hx
   cases hr
   exact .same3 hnm rfl rfl rfl rest (step_var c l m p hat hst hsl' hp hN hl a ha x hx hc)
  ·rename_i hx
   cases hr
   exact .same3 hnm (step_var_err c l m p hat hst hsl' hp hN hl a ha hx hc)
 ·simp only [Mm.exec,madeM] at hr
  cases hr
  split
  ·rename_i h
   exact .same3 hnm (step_fun_err c l m p hat hst hsl' hp hN hl a (by simp only [It.more] at h;simp only [nxt] at h;omega) hc)
  ·rename_i h
   exact .same3 hnm rfl rfl rfl rest (step_fun c l m p hat hst hsl' hp hN hl a (by simp only [It.more] at h;simp only [nxt] at h;omega) hc)
 all_goals (simp only [Nat.reduceEqDiff,false_or] at h0;subst h0)
 ·simp only [Mm.exec] at hr
  cases hr
  exact .same3 hnm rfl rfl rfl rest (step_zero c l m p hat hst hsl' hp hN hl hc)
 ·simp only [Mm.exec] at hr
  split at hr
  ·cases hr
  ·rename_i k m1 h1
   obtain⟨s,hs,rfl⟩:=popM_inv h1
   cases hr
   have hk:Bd b0 (.num k):=(hok.pop (m':={ m with stack:=s,sg:=.num k::m.sg }) (by simp only [nxt] at hs;simp [Mm.pop,hs])).1
   simp only [Bd] at hk
   exact .same3 hnm rfl rfl rfl rest (step_succ c l m p hat hst hsl' hp hN hl s _ hs k (by omega) rfl hc)
  ·rename_i q hne h1
   cases hr
   obtain⟨x,m1⟩:=q
   obtain⟨s,hs,rfl⟩:=popM_inv h1
   exact .same3 hnm (step_succ_err c l m p hat hst hsl' hp hN hl s x hs (fun e=>by obtain⟨k,rfl⟩:=kind_1 e;exact hne _ _ rfl) hc)
 ·simp only [Mm.exec] at hr
  cases hr
  exact .same3 hnm rfl rfl rfl rest (step_nil c l m p hat hst hsl' hp hN hl hc)
 ·simp only [Mm.exec] at hr
  split at hr
  ·cases hr
  ·rename_i y m1 h1
   split at hr
   ·cases hr
   ·rename_i x m2 h2
    obtain⟨s1,hs1,rfl⟩:=popM_inv h1
    obtain⟨s,hs,rfl⟩:=popM_inv h2
    simp only at hs
    subst hs
    have hs:m.stack=s++[x,y]:=by simpa [nxt] using hs1
    split at hr
    ·rename_i k L
     split at hr
     ·cases hr
      exact .same3 hnm (step_cons_err3 c l m p hat hst hsl' hp hN hl s _ _ hs k L rfl rfl (by assumption) hc)
     ·cases hr
      exact .same3 hnm rfl rfl rfl rest (step_cons c l m p hat hst hsl' hp hN hl s _ _ hs k L rfl rfl (by omega) hc)
    ·rename_i hne
     cases hr
     by_cases hk:x.kind=1
     ·refine .same3 hnm (step_cons_err2 c l m p hat hst hsl' hp hN hl s _ _ hs hk (fun e => ?_) hc)
      obtain⟨k,rfl⟩:=kind_1 hk
      obtain⟨L,rfl⟩:=kind_2 e
      exact hne _ _ rfl rfl
     ·exact .same3 hnm (step_cons_err1 c l m p hat hst hsl' hp hN hl s _ _ hs hk hc)
 ·simp only [Mm.exec] at hr
  split at hr
  ·cases hr
  ·rename_i y m1 h1
   split at hr
   ·cases hr
   ·rename_i x m2 h2
    obtain⟨s1,hs1,rfl⟩:=popM_inv h1
    obtain⟨s,hs,rfl⟩:=popM_inv h2
    simp only at hs
    subst hs
    have hs:m.stack=s++[x,y]:=by simpa [nxt] using hs1
    have hst2:=hok.stack
    rw [hs,BdL_app] at hst2
    simp only [BdL] at hst2
    have m1:=hst2.2.1.more
    have m2:=hst2.2.2.1.more
    simp only [madeM] at hr
    cases hr
    split
    ·exact .same3 hnm (step_pair_err c l m p hat hst hsl' hp hN hl s _ _ hs (by omega) (by omega) (by omega) hc)
    ·exact .same3 hnm rfl rfl rfl rest (step_pair c l m p hat hst hsl' hp hN hl s _ _ hs (by omega) hc)
 ·simp only [Mm.exec] at hr
  split at hr
  ·cases hr
  ·rename_i x y m1 h1
   obtain⟨s,hs,rfl⟩:=popM_inv h1
   cases hr
   exact .same3 hnm rfl rfl rfl rest (step_fst c l m p hat hst hsl' hp hN hl s _ hs x y rfl hc)
  ·rename_i q hne h1
   cases hr
   obtain⟨x,m1⟩:=q
   obtain⟨s,hs,rfl⟩:=popM_inv h1
   exact .same3 hnm (step_fst_err c l m p hat hst hsl' hp hN hl s x hs (fun e=>by cases x<;>simp [It.kind] at e;exact hne _ _ _ rfl) hc)
 ·simp only [Mm.exec] at hr
  split at hr
  ·cases hr
  ·rename_i x y m1 h1
   obtain⟨s,hs,rfl⟩:=popM_inv h1
   cases hr
   exact .same3 hnm rfl rfl rfl rest (step_snd c l m p hat hst hsl' hp hN hl s _ hs x y rfl hc)
  ·rename_i q hne h1
   cases hr
   obtain⟨x,m1⟩:=q
   obtain⟨s,hs,rfl⟩:=popM_inv h1
   exact .same3 hnm (step_snd_err c l m p hat hst hsl' hp hN hl s x hs (fun e=>by cases x<;>simp [It.kind] at e;exact hne _ _ _ rfl) hc)
 ·simp only [Mm.exec] at hr
  cases hr
  exact .same3 hnm rfl rfl rfl rest (step_unit c l m p hat hst hsl' hp hN hl hc)
end
open Go.Lg
set_option maxRecDepth 10000
inductive OutN (c:List Ins) (l:Nat) (m:Mm):Rm→Go.Lg.Out→List (Nat × Ob)→Prop
 | err {e} : OutN c l m (.err e) (.panic (fail e)) []
 | go {m':Mm} : rdO m'.frames=rdO m.frames→(∀ n∈frN m'.fg,n∈frN m.fg)→m'.steps=m.steps→OutN c l m (.go m') (.ret (.pv (.tuple []))) (mO c l m')
theorem entN_all (c:List Ins) (l b N:Nat) (hNb:N+2200000≤1152921504606846976) (hb:b≤800000) (m:Mm) (f a:It) (res:Rm) (hf:Bd b f) (ha:Bd b a) (hm:OkM b N m) (hN:∀ n∈frN (m.frames++m.fg),1000≤n) (h:m.enter f a none=some res) :
  ∃ out objs',OutN c l m res out objs'∧AC Tryz.prog gl 115 [.loc 901 0,.pv (itP f),.pv (itP a),.pv .nil] (mO c l m) out objs':=by
 have hff:=hm.few
 have hlen:=hm.len
 have htn:=hm.tab.nums
 have hth:=hm.tab.hits
 have hro:rdO (m.frames++[(⟨m.at_,m.vars,f,a,none⟩:Fr)])=rdO m.frames:=by rw [rdO_app];simp [rdO]
 unfold Mm.enter at h
 simp only [rdFuel,Mm.enterN] at h
 by_cases hfn:f.kind=5
 ·have:∃ p vs,f = .fn p vs:=by cases f<;>simp [It.kind] at hfn;exact⟨_,_,rfl⟩
  obtain⟨p,vs,rfl⟩:=this
  have ⟨l1,l2⟩:=fn_lenM hf
  have l3:a.more≤100000:=by have:=ha.more;omega
  have z1:=szI_bd hf
  have z2:=szI_bd ha
  have hz:m.tab.nums.length+szI (.fn p vs)+szI a≤1152921504606846976:=by omega
  simp only at h
  split at h
  ·rename_i hpl
   split at h
   ·rename_i x hx
    cases h
    exact⟨_,_,.go rfl (fun n hn=>hn) rfl,entN_hit c l m hN p vs a hpl x hx (by omega) (by omega) hz hm.tab.sh hm.tab.rk⟩
   ·rename_i hx
    simp only [Mm.into] at h
    split at h
    ·rename_i hfl
     cases h
     exact⟨_,_,.err,entN_missfull c l m hN p vs a hpl hfl (by omega) hx hz hm.tab.sh hm.tab.rk⟩
    ·rename_i hfl
     cases h
     exact⟨_,_,.go hro (fun n hn=>by simp [frN] at hn) rfl,entN_miss c l m p vs a hpl hx (by omega) hN hz hm.tab.sh hm.tab.rk l1 l2 l3⟩
  ·rename_i hpl
   have hpl:plainC (.fn p vs) a=false:=by simpa using hpl
   simp only [Mm.into] at h
   split at h
   ·rename_i hfl
    cases h
    exact⟨_,_,.err,entN_npfull c l m hN p vs a hpl hfl (by omega)⟩
   ·rename_i hfl
    cases h
    exact⟨_,_,.go hro (fun n hn=>by simp [frN] at hn) rfl,entN_np c l m hN p vs a hpl (by omega) l1 l2 l3⟩
 ·have e:res = .err 44:=by
   cases f<;>simp [It.kind] at hfn<;>(cases h;rfl)
  subst e
  exact⟨_,_,.err,entN_stuck c l m hN f a hfn⟩
section
variable (c:List Ins) (l:Nat) (m:Mm) (p:Nat) (hat:m.at_=((p:Nat):Int)) (hst:¬ m.steps=l) (hsl:m.steps≤800000) (hp:p≤1000000) (hnm:Nm m) {b0:Nat} (hb0:b0≤800000) {N0:Nat} (hN0:N0+2200000≤1152921504606846976) (hok:OkM b0 N0 m)
include hat hst hsl hp hnm hb0 hN0 hok
theorem full_3 (hc:c[p]? = some (3,0)) (r:Rm) (n:Nat) (hr:(nxt m).exec n 3 0=some r):StepR c l m r:=by
 have hsl':m.steps≤1000000:=by omega
 have hl:m.stack.length≤900000:=by have:=hok.len;omega
 have hN:=hnm.lo
 simp only [Mm.exec] at hr
 split at hr
 ·cases hr
 ·rename_i y m1 h1
  split at hr
  ·cases hr
  ·rename_i x m2 h2
   have hok1:OkM b0 N0 (nxt m):=⟨hok.stack,hok.len,hok.vars,hok.inside,hok.frames,hok.few,hok.tab⟩
   obtain⟨hby,hok2,-⟩:=hok1.pop h1
   obtain⟨hbx,hok3,-⟩:=hok2.pop h2
   obtain⟨s1,hs1,rfl⟩:=popM_inv h1
   obtain⟨s,hs,rfl⟩:=popM_inv h2
   simp only at hs
   subst hs
   have hs:m.stack=s++[x,y]:=by simpa [nxt] using hs1
   obtain⟨out,objs',hO,he⟩:=entN_all c l b0 N0 hN0 hb0 _ x y r hbx hby hok3 hN hr
   cases hO
   ·exact .same hnm (step_apply_err c l m p hat hst hsl' hp hN s x y hs hl hc _ he)
   ·rename_i m' h1 h2 h3
    have h1':rdO m'.frames=rdO m.frames:=h1
    have hfr:frN m'.frames=frN m.frames:=by rw [← rdO_keys,h1',rdO_keys]
    refine .same hnm h3 h1' (fun n hn=>by rw [frN_app];exact List.mem_append.2 (.inr (h2 n hn))) (step_apply c l m p hat hst hsl' hp hN s x y hs hl hc m' ?_ he)
    intro n hn
    rw [frN_app,hfr] at hn
    rw [frN_app]
    rcases List.mem_append.1 hn with hn|hn
    ·exact List.mem_append.2 (.inl hn)
    ·exact List.mem_append.2 (.inr (h2 n hn))
end
def _root_.Go.Lg.Rm.ren (ρ:Nat→Nat):Rm→Rm
 | .go m => .go (msRen ρ m)
 | .stop m => .stop (msRen ρ m)
 | .err e => .err e
theorem into_ren (ρ:Nat→Nat) (m:Mm) (f a:It) (p:Nat) (vs:List It) (n:Nat) (r:Rd):(msRen ρ m).into f a p vs (some (ρ n,r))=(m.into f a p vs (some (n,r))).ren ρ:=by
 simp only [Mm.into,msRen,List.length_map]
 split
 ·rfl
 ·simp [Rm.ren,msRen,frRen]
theorem enterN_ren (ρ:Nat→Nat):∀ (k:Nat) (m:Mm) (f a:It) (n:Nat) (r:Rd),Mm.enterN k (msRen ρ m) f a (some (ρ n,r))=(Mm.enterN k m f a (some (n,r))).map (Rm.ren ρ)
 | 0,m,f,a,n,r=>rfl
 | k+1,m,f,a,n,r=>by
  cases f with
  | fn p vs =>
   simp only [Mm.enterN]
   have et:(msRen ρ m).tab=m.tab:=rfl
   rw [et]
   by_cases hpl:plainC (.fn p vs) a=true
   ·rw [if_pos hpl,if_pos hpl]
    cases hx:m.tab.get (.fn p vs) a with
    | none =>
     simp only [Option.map_some]
     exact congrArg some (into_ren ρ { m with tab:=m.tab.miss (.fn p vs) a } (.fn p vs) a p vs n r)
    | some x =>
     simp only
     cases hr:r.returned x with
     | none=>rfl
     | some q =>
      obtain⟨o,r'⟩:=q
      cases o with
      | none=>rfl
      | some fa =>
       obtain⟨f',a'⟩:=fa
       exact enterN_ren ρ k { m with tab:=m.tab.hit (.fn p vs) a } f' a' n r'
   ·rw [if_neg hpl,if_neg hpl]
    simp only [Option.map_some]
    exact congrArg some (into_ren ρ m (.fn p vs) a p vs n r)
  | _=>rfl
theorem enter_ren (ρ:Nat→Nat) (m:Mm) (f a:It) (n:Nat) (r:Rd):(msRen ρ m).enter f a (some (ρ n,r))=(m.enter f a (some (n,r))).map (Rm.ren ρ):=enterN_ren ρ _ m f a n r
theorem enterN_steps:∀ (k:Nat) (m:Mm) (f a:It) (rd:Option (Nat × Rd)) (m':Mm),Mm.enterN k m f a rd=some (.go m')→m'.steps=m.steps
 | 0,m,f,a,rd,m',h=>by simp [Mm.enterN] at h
 | k+1,m,f,a,rd,m',h=>by
  cases f with
  | fn p vs =>
   simp only [Mm.enterN] at h
   split at h
   ·split at h
    ·split at h
     ·cases h;rfl
     ·split at h
      ·cases h
      ·cases h;rfl
      ·exact enterN_steps k { m with tab:=m.tab.hit (.fn p vs) a } _ _ _ m' h
    ·simp only [Option.some.injEq,Mm.into] at h
     split at h
     ·cases h
     ·cases h;rfl
   ·simp only [Option.some.injEq,Mm.into] at h
    split at h
    ·cases h
    ·cases h;rfl
  | _=>simp [Mm.enterN] at h
open Go.Lg
set_option maxRecDepth 10000
theorem swap_keys {k:Nat} (hk:1000≤k):∀ n∈keysM,swapN 920 k n=n:=by
 intro n hn
 simp only [keysM,List.mem_cons,List.not_mem_nil,or_false] at hn
 unfold swapN
 rw [if_neg (by omega),if_neg (by omega)]
section
variable (c:List Ins) (l:Nat) (m:Mm) (p:Nat) (hat:m.at_=((p:Nat):Int)) (hst:¬ m.steps=l) (hsl:m.steps≤800000) (hp:p≤1000000) (hnm:Nm m) {b0:Nat} (hb0:b0≤800000) {N0:Nat} (hN0:N0+(3 * (b0+1024)+5) * 2200000≤1152921504606846976) (hok:OkM b0 N0 m)
include hat hst hsl hp hnm hb0 hN0 hok
theorem snew (list:Bool) (hc:c[p]? = some (bif list then 9 else 6,0)) (m0:Mm) (fr:Fr) (rr:Rd) (hrd:fr.rd=some (920,rr)) (hfr:m0.frames=m.frames++[fr]) (hfg:m0.fg=[]) (hss:m0.steps=m.steps+1)
  (he:AC Tryz.prog gl 131 [.loc 901 0,.pv (.bool list)] (mO c l (nxt m)) (.ret (.pv (.tuple []))) (mO c l m0++[(920,rdB rr)])) :
  StepTo c l true m (msRen (swapN 920 (1000+m.steps)) m0):=by
 have hN:=hnm.lo
 have hsl':m.steps≤1000000:=by omega
 have hfrn:frN [fr]=[920]:=by simp [frN,hrd]
 have h67:=step_rec_rnd c l m p hat hst hsl' hp hN list hc m0 rr (by
  intro n hn
  rw [hfr,hfg,List.append_nil,frN_app,hfrn] at hn
  rw [frN_app]
  rcases List.mem_append.1 hn with hn|hn
  ·exact .inl (List.mem_append.2 (.inl hn))
  ·exact .inr (by simpa using hn)) he
 have hne:∀ n∈frN (m.frames++m.fg),swapN 920 (1000+m.steps) n=n:=by
  intro n hn
  have h1:=hN n hn
  have h2:=hnm.hi n hn
  unfold swapN
  rw [if_neg (by omega),if_neg (by omega)]
 have hr:=AC.ren (swapN_inv 920 (1000+m.steps)) h67
 have hks:=swap_keys (k:=1000+m.steps) (by omega)
 have s1:=hks 901 (by simp [keysM])
 have s4:swapN 920 (1000+m.steps) 920=1000+m.steps:=by simp [swapN]
 have hid:msRen (swapN 920 (1000+m.steps)) m=m:=msRen_id hne
 have hfid:m.frames.map (frRen (swapN 920 (1000+m.steps)))=m.frames:=map_frRen_id fun n hn=>hne n (by rw [frN_app];exact List.mem_append.2 (.inl hn))
 rw [renO_app,mO_ren hks,mO_ren hks,hid] at hr
 have hB:(rdB rr).ren (swapN 920 (1000+m.steps))=rdB rr:=rB_ren _ _ _
 simp only [renL,V.ren,s1,Go.Lg.Out.ren,renO,s4,hB] at hr
 have hfr':(msRen (swapN 920 (1000+m.steps)) m0).frames=m.frames++[frRen (swapN 920 (1000+m.steps)) fr]:=by
  simp only [msRen,hfr,List.map_append,hfid,List.map_cons,List.map_nil]
 have hfg':(msRen (swapN 920 (1000+m.steps)) m0).fg=[]:=by simp only [msRen,hfg,List.map_nil]
 have hrd':(frRen (swapN 920 (1000+m.steps)) fr).rd=some (1000+m.steps,rr):=by simp [frRen,hrd,s4]
 have hf1:frN [frRen (swapN 920 (1000+m.steps)) fr]=[1000+m.steps]:=by simp [frN,hrd']
 refine StepTo.of (rdO m.frames) [] [(1000+m.steps,rdB rr)] (by simp) ?_ hnm (hnm.next hss ?_ ?_) (by simp [keysO]) (by simpa using hr)
 ·rw [hfr',rdO_app]
  simp [rdO,hrd']
 ·rw [hfr',frN_app,hf1,List.nodup_append]
  refine⟨hnm.nd,by simp,?_⟩
  intro x hx y hy
  simp at hy
  have:=hnm.hi x (by rw [frN_app];exact List.mem_append.2 (.inl hx))
  omega
 ·intro n hn
  rw [hfr',hfg',List.append_nil,frN_app,hf1] at hn
  rcases List.mem_append.1 hn with hn|hn
  ·exact .inl (by rw [frN_app];exact List.mem_append.2 (.inl hn))
  ·exact .inr (by simpa using hn)
end
section
variable (c:List Ins) (l:Nat) (m:Mm) (p:Nat) (hat:m.at_=((p:Nat):Int)) (hst:¬ m.steps=l) (hsl:m.steps≤800000) (hp:p≤1000000) (hnm:Nm m) {b0:Nat} (hb0:b0≤800000) {N0:Nat} (hN0:N0+(3 * (b0+1024)+5) * 2200000≤1152921504606846976) (hok:OkM b0 N0 m)
include hat hst hsl hp hnm hb0 hN0 hok
theorem full_rec (list:Bool) (hc:c[p]? = some (bif list then 9 else 6,0)) (r:Rm) (hr:(nxt m).recursion (1000+m.steps) list=some r):StepR c l m r:=by
 have hsl':m.steps≤1000000:=by omega
 have hl:m.stack.length≤900000:=by have:=hok.len;omega
 have hN:=hnm.lo
 have serr:∀ e:Nat,AC Tryz.prog gl 131 [.loc 901 0,.pv (.bool list)] (mO c l (nxt m)) (.panic (fail e)) []→StepR c l m (.err e) :=
  fun e he => .same hnm (step_rec_err c l m p hat hst hsl' hp hN list hc _ he)
 unfold Mm.recursion at hr
 split at hr
 ·cases hr
 ·rename_i x m1 h1
  split at hr
  ·cases hr
  ·rename_i f m2 h2
   split at hr
   ·cases hr
   ·rename_i b m3 h3
    have hok0:OkM b0 N0 (nxt m):=⟨hok.stack,hok.len,hok.vars,hok.inside,hok.frames,hok.few,hok.tab⟩
    obtain⟨hbx,hok1,-⟩:=hok0.pop h1
    obtain⟨hbf,hok2,-⟩:=hok1.pop h2
    obtain⟨hbb,hok3,-⟩:=hok2.pop h3
    obtain⟨s1,hs1,rfl⟩:=popM_inv h1
    obtain⟨s2,hs2,rfl⟩:=popM_inv h2
    obtain⟨s,hs3,rfl⟩:=popM_inv h3
    simp only at hs2 hs3
    subst hs3
    subst hs2
    have hs:m.stack=s++[b,f,x]:=by simpa [nxt] using hs1
    have hsn:(nxt m).stack=s++[b,f,x]:=hs
    have hl1:(nxt m).stack.length≤1000000:=by show m.stack.length≤1000000;omega
    split at hr
    ·rename_i pf vs
     split at hr
     ·rename_i hrd
      cases hr
      refine serr 44 (rec_err2 c l (nxt m) s b _ x hsn hl1 hN list rfl ?_)
      intro hk
      cases list with
      | true=>obtain⟨L,rfl⟩:=kind_2 hk;cases hrd
      | false=>obtain⟨L,rfl⟩:=kind_1 hk;cases hrd
     ·rename_i rr hrd
      split at hr
      ·rename_i hz
       cases hr
       refine .same hnm rfl rfl (fun n hn=>by rw [frN_app];exact List.mem_append.2 (.inr hn)) (step_rec_same c l m p hat hst hsl' hp hN list hc _ (fun n hn=>hn) (rec_zero c l (nxt m) s b _ x hsn hl1 hN list rfl ?_))
       cases list with
       | true =>
        cases x with
        | list L =>
         cases hrd
         simp only [List.length_eq_zero_iff] at hz
         rw [hz];rfl
        | _=>cases hrd
       | false =>
        cases x with
        | num k=>cases hrd;simp only at hz;rw [hz];rfl
        | _=>cases hrd
      ·rename_i hz
       split at hr
       ·rename_i g a r' hbeg
        have hro:=rdOf_ok hbf hbb hbx hrd
        have hrr0:rr.next=0∧rr.left=[]:=by
         unfold rdOf at hrd
         split at hrd<;>cases hrd<;>exact⟨rfl,rfl⟩
        obtain⟨hg,ha,hr1,hlt⟩:=RdM.begin ⟨hro,by rw [hrr0.2];simp⟩ (by omega) hbeg
        have hne:∀ n∈frN (m.frames++m.fg),swapN 920 (1000+m.steps) n=n:=by
         intro n hn
         have h1:=hN n hn
         have h2:=hnm.hi n hn
         unfold swapN
         rw [if_neg (by omega),if_neg (by omega)]
        have s4:swapN 920 (1000+m.steps) 920=1000+m.steps:=by simp [swapN]
        have he1:=enter_ren (swapN 920 (1000+m.steps)) (pop3 (nxt m) s b (.fn pf vs) x) g a 920 r'
        have hid:msRen (swapN 920 (1000+m.steps)) (pop3 (nxt m) s b (.fn pf vs) x)=pop3 (nxt m) s b (.fn pf vs) x:=msRen_id hne
        rw [hid,s4] at he1
        have hr2:(pop3 (nxt m) s b (.fn pf vs) x).enter g a (some (1000+m.steps,r'))=some r:=hr
        rw [he1] at hr2
        obtain⟨res0,hres,rfl⟩:=Option.map_eq_some_iff.1 hr2
        have hcnt:=hr1.ok.count
        have htwo:=hr1.two
        have htn:=hok3.tab.nums
        have hth:=hok3.tab.hits
        have hfu:rdFuel (some (920,r'))≤3 * (b0+1024)+3:=by simp only [rdFuel];omega
        have hEB:EB b0 (rdFuel (some (920,r'))) (pop3 (nxt m) s b (.fn pf vs) x) g a r' :=
         ⟨hb0,hg,ha,hr1.ok,hlt,hok3.tab.res,by
          have:(pop3 (nxt m) s b (.fn pf vs) x).tab.nums.length≤N0:=htn
          omega,by
          have:(pop3 (nxt m) s b (.fn pf vs) x).tab.hits≤N0:=hth
          omega,hok3.tab.sh,hok3.tab.rk,hok3.few,by have:=hok3.len;show s.length≤900000;simp only at this;omega⟩
        obtain⟨out,objs',hO,hA⟩:=ent_ok c l b0 _ _ g a r' res0 hEB hres (fun n hn => .inr (hN n hn))
        have fin:(∀ q,out = .panic q→objs'=[]→AC Tryz.prog gl 131 [.loc 901 0,.pv (.bool list)] (mO c l (nxt m)) (.panic q) []) →
          (∀ m' r2,out = .ret (.pv (.tuple []))→objs'=mO c l m'++[(920,rdB r2)]→(∀ n∈frN (m'.frames++m'.fg),n∈frN ((nxt m).frames++(nxt m).fg)∨n=920)→AC Tryz.prog gl 131 [.loc 901 0,.pv (.bool list)] (mO c l (nxt m)) (.ret (.pv (.tuple []))) (mO c l m'++[(920,rdB r2)])) →
          (∀ m',out = .ret (.pv (.tuple []))→objs'=mO c l m'→(∀ n∈frN (m'.frames++m'.fg),n∈frN ((nxt m).frames++(nxt m).fg))→AC Tryz.prog gl 131 [.loc 901 0,.pv (.bool list)] (mO c l (nxt m)) (.ret (.pv (.tuple []))) (mO c l m'))→StepR c l m (res0.ren (swapN 920 (1000+m.steps))):=by
         intro f1 f2 f3
         cases hO
         ·exact serr _ (f1 _ rfl rfl)
         ·rename_i m' at_ vars f a r e1 e2
          have hss:m'.steps=m.steps+1:=enterN_steps _ _ _ _ _ _ hres
          have e1':m'.frames=m.frames++[⟨at_,vars,f,a,some (920,r)⟩]:=e1
          refine snew c l m p hat hst hsl hp hnm hb0 hN0 hok list hc m' _ _ rfl e1' e2 hss (f2 m' _ rfl rfl ?_)
          intro n hn
          rw [e1',e2,List.append_nil,frN_app] at hn
          rcases List.mem_append.1 hn with hn|hn
          ·exact .inl (by show n∈frN (m.frames++m.fg);rw [frN_app];exact List.mem_append.2 (.inl hn))
          ·exact .inr (by simpa [frN] using hn)
         ·rename_i m1 x e1 e2
          have hss:(m1.push x).steps=m.steps+1:=enterN_steps _ _ _ _ _ _ hres
          have e1':(m1.push x).frames=m.frames:=e1
          have e2':(m1.push x).fg=m.fg:=e2
          have hid2:msRen (swapN 920 (1000+m.steps)) (m1.push x)=m1.push x:=msRen_id (by rw [e1',e2'];exact hne)
          show StepTo c l true m (msRen _ _)
          rw [hid2]
          exact .same hnm hss (by rw [e1']) (fun n hn=>by rw [e2'] at hn;rw [frN_app];exact List.mem_append.2 (.inr hn)) (step_rec_same c l m p hat hst hsl' hp hN list hc _ (fun n hn=>by rw [e1',e2'] at hn;exact hn) (f3 _ rfl rfl (fun n hn=>by rw [e1',e2'] at hn;exact hn)))
        cases list with
        | false =>
         cases x with
         | num k =>
          cases hrd
          simp only [Rd.begin,Option.some.injEq,Prod.mk.injEq] at hbeg
          obtain⟨rfl,rfl,rfl⟩:=hbeg
          simp only [Bd] at hbx
          refine fin (fun q e1 e2=>rec_nat_full c l (nxt m) s b _ _ hsn hl1 hN k hz (by omega) pf vs rfl rfl _ rfl q (by subst e1 e2;exact hA)) (fun m' r2 e1 e2 hm'=>rec_nat_into c l (nxt m) s b _ _ hsn hl1 hN k hz (by omega) pf vs rfl rfl _ rfl m' r2 hm' (by subst e1 e2;exact hA)) (fun m' e1 e2 hm'=>rec_nat_push c l (nxt m) s b _ _ hsn hl1 hN k hz (by omega) pf vs rfl rfl _ rfl m' hm' (by subst e1 e2;exact hA))
         | _=>cases hrd
        | true =>
         cases x with
         | list L =>
          cases hrd
          simp only [Rd.begin] at hbeg
          split at hbeg
          ·rename_i hd tl hg0
           simp only [Option.some.injEq,Prod.mk.injEq] at hbeg
           obtain⟨rfl,rfl,rfl⟩:=hbeg
           simp only [Bd] at hbx
           have hLne:¬ L=[]:=fun e=>hz (by simp [e])
           refine fin (fun q e1 e2=>rec_list_full c l (nxt m) s b _ _ hsn hl1 hN L hLne (by omega) pf vs rfl rfl hd tl hg0 _ rfl q (by subst e1 e2;exact hA)) (fun m' r2 e1 e2 hm'=>rec_list_into c l (nxt m) s b _ _ hsn hl1 hN L hLne (by omega) pf vs rfl rfl hd tl hg0 _ rfl m' r2 hm' (by subst e1 e2;exact hA)) (fun m' e1 e2 hm'=>rec_list_push c l (nxt m) s b _ _ hsn hl1 hN L hLne (by omega) pf vs rfl rfl hd tl hg0 _ rfl m' hm' (by subst e1 e2;exact hA))
          ·cases hbeg
         | _=>cases hrd
       ·cases hr
    ·rename_i hne
     cases hr
     exact serr 44 (rec_err c l (nxt m) s b f x hsn hl1 hN list (fun e=>by cases f<;>simp [It.kind] at e;exact hne _ _ rfl))
end
open Go.Lg
set_option maxRecDepth 10000
theorem keep_ren (ρ:Nat→Nat) (m:Mm) (f a x:It):(msRen ρ m).keep f a x=msRen ρ (m.keep f a x):=by
 unfold Mm.keep
 split<;>rfl
theorem keep_facts (m:Mm) (f a x:It):(m.keep f a x).frames=m.frames∧(m.keep f a x).fg=m.fg∧(m.keep f a x).steps=m.steps∧(m.keep f a x).stack=m.stack∧(m.keep f a x).at_=m.at_:=by
 unfold Mm.keep
 split<;>exact⟨rfl,rfl,rfl,rfl,rfl⟩
end Go.Proofs.YtodjpfpmhjdhbaaGreatDoor
