/- The logic of contracts; no conditions. -/
import Derived.Test.YtodjpfpmhjdhbaaGreatDoorTwiceA13
set_option linter.all false
namespace Go.Lg
theorem namesL_app (a b:List V):namesL (a++b)=namesL a++namesL b:=by
 induction a with
 | nil=>rfl
 | cons x a ih=>simp [namesL,ih]
theorem mentO_app2 (a b:List (Nat × Ob)):mentO (a++b)=mentO a++mentO b:=by
 induction a with
 | nil=>rfl
 | cons p a ih=>obtain⟨k,o⟩:=p;simp [mentO,ih]
theorem getO_keys {l:List (Nat × Ob)} {n:Nat} (h:n ∉ keysO l):getO l n=none:=by
 cases e:getO l n with
 | none=>rfl
 | some o=>exact absurd (getO_some_mem e) h
theorem AC.frz {P:Program} {gl:Nat→Option (List PV)} {f:Nat} {pre post:List V} {objs objs':List (Nat × Ob)} {out:Out} {n ver sz ty:Nat} {es:List (List PV)} (h:AC P gl f (pre ++ .pv (.slice es)::post) objs out objs')
  (hn:n ∉ keysO objs) (hn':n ∉ keysO objs'):AC P gl f (pre ++ .arr n ver es.length::post) (objs++[(n,.arr ver sz ty (pvE es))]) out objs':=by
 have hg0:=getO_keys hn
 have hget:∀ m,getO (objs++[(n,.arr ver sz ty (pvE es))]) m=match getO objs m with|some o=>some o|none=>if n=m then some (.arr ver sz ty (pvE es)) else none:=by
  intro m
  rw [getO_append]
  simp only [getO]
  cases getO objs m<;>rfl
 have hgn:getO (objs++[(n,.arr ver sz ty (pvE es))]) n=some (.arr ver sz ty (pvE es)):=by rw [hget,hg0];simp
 have hgo:∀ m o,getO objs m=some o→getO (objs++[(n,.arr ver sz ty (pvE es))]) m=some o:=by
  intro m o hm
  rw [hget,hm]
 have hsub:∀ k,(k∈keysO objs∨k∈keysO objs'∨k∈mentL (pre ++ .pv (.slice es)::post) objs)→(k∈keysO (objs++[(n,.arr ver sz ty (pvE es))])∨k∈keysO objs'∨k∈mentL (pre ++ .arr n ver es.length::post) (objs++[(n,.arr ver sz ty (pvE es))])):=by
  intro k hk
  rcases hk with hk|hk|hk
  ·exact .inl (by simp only [keysO,List.map_append,List.mem_append] at hk ⊢;exact .inl hk)
  ·exact .inr (.inl hk)
  ·refine .inr (.inr ?_)
   simp only [mentL,namesL_app,namesL,V.names,mentO_app2,List.mem_append,List.nil_append,List.mem_cons,List.not_mem_nil,or_false] at hk ⊢
   rcases hk with (hk|hk)|hk
   ·exact .inl (.inl hk)
   ·exact .inl (.inr (.inr hk))
   ·exact .inr (.inl hk)
 refine⟨h.direct,fun k hk=>hsub k (h.names k hk),fun m o hm k hk=>hsub k (h.namesO m o hm k hk),?_⟩
 intro E w vs hB hl hR
 have hob:=hB.obs n _ hgn
 obtain⟨hver,hsz,hlen,_⟩:=id hob
 obtain⟨ad,cap,hga,hlc,hlm,hh⟩:=arr_header hob
 have hpl:(pvE es).length=es.length:=by simp [pvE]
 rw [hpl] at hga hlc hlm
 have hH:∃ H':Hp,Hle E.H H'∧HeapOK { E with H:=H' } w∧(∀ b,(∀ b',blk (E.g n)=some b'→b≠b')→H' b=E.H b)∧(es=[] ∨ ∃ b,ad=some ⟨b,0,none⟩∧RepE H' es (H' b)):=by
  rcases hh with ⟨h1,h2,h3⟩|⟨b,cur,hb,hcur,hcs,hr,hfree⟩
  ·exact⟨E.H,Hle.refl _,hB.heap,fun _ _=>rfl,.inl (by simpa [pvE] using h2)⟩
  ·let H':Hp:=fun b'=>if b'=b then cur.toList else E.H b'
   have hHle:Hle E.H H':=by
    intro b'
    by_cases e:b'=b
    ·subst e;rw [hfree];exact List.nil_prefix
    ·simp [H',e]
   refine⟨H',hHle,?_,?_,.inr ⟨b,hb,?_⟩⟩
   ·intro b' hb'
    by_cases e:b'=b
    ·subst e
     exact⟨cur,ty,(0,0),hcur,by simp [H',Msk.refl],.inl rfl⟩
    ·have hb'':E.H b'≠[]:=by simpa [H',e] using hb'
     obtain⟨c,T,fr,hc,hp⟩:=hB.heap b' hb''
     exact⟨c,T,fr,hc,by simpa [H',e] using hp.1,by simpa [H',e] using hp.2⟩
   ·intro b' hne
    have:b'≠b:=hne b (by rw [hga,hb];rfl)
    simp [H',this]
   ·have hre:=RepVE.toPv (unE_pvE es) hr
    have:H' b=cur.toList:=by simp [H']
    rw [this]
    exact RepE.mono hHle es _ _ List.prefix_rfl hre
 obtain⟨H',hHle,hheap,hsame,hdata⟩:=hH
 have hE:∀ m,EExt E { E with H:=H' } m:=fun m=>EExt.of_eq rfl rfl rfl
 have hne:∀ m o,getO objs m=some o→m≠n:=fun m o hm e=>hn (e ▸ getO_some_mem hm)
 have hB':Base gl { E with H:=H' } w objs:=by
  refine⟨hheap,hB.glob.mono hHle,fun m o hm => ?_,fun m m' o o' hm hm' hmm=>hB.apart m m' o o' (hgo m o hm) (hgo m' o' hm') hmm⟩
  refine ObOK.mono (hB.obs m o (hgo m o hm)) hHle rfl rfl rfl (fun k _=>hE k) (fun b hb=>⟨rfl,hsame b (fun b' hb' e => ?_)⟩)
  exact hB.apart m n o _ (hgo m o hm) hgn (hne m o hm) b hb (e ▸ hb')
 have hl':vs.length=(pre ++ .pv (.slice es)::post).length:=by simpa using hl
 have hR':RepVL { E with H:=H' } (pre ++ .pv (.slice es)::post) vs:=by
  rw [RepVL.iff] at hR ⊢
  intro j c hj
  by_cases hjp:j=pre.length
  ·subst hjp
   have:c = .pv (.slice es):=by
    rw [List.getElem?_append_right (Nat.le_refl _)] at hj
    simpa using hj.symm
   subst this
   obtain⟨v,hv,hr⟩:=hR pre.length (.arr n ver es.length) (by rw [List.getElem?_append_right (Nat.le_refl _)];simp)
   refine⟨v,hv,?_⟩
   simp only [RepV] at hr
   obtain⟨_,_,hx⟩:=hr
   obtain⟨a',L,cap',hg',hv',hle⟩:=hx hver.symm
   rw [hga] at hg'
   cases hg'
   simp only [RepV,RepP]
   refine⟨ad,cap,hv',by omega,by omega,?_⟩
   rcases hdata with rfl|⟨b,hb,hr⟩
   ·exact .inl rfl
   ·exact .inr ⟨b,0,hb,by simpa using hr⟩
  ·have hj':(pre++V.arr n ver es.length::post)[j]? = some c:=by
    rcases Nat.lt_or_ge j pre.length with h1|h1
    ·rw [List.getElem?_append_left h1] at hj ⊢
     exact hj
    ·rw [List.getElem?_append_right h1] at hj ⊢
     obtain⟨i,hi⟩:∃ i,j-pre.length=i+1:=⟨j-pre.length-1,by omega⟩
     rw [hi] at hj ⊢
     simpa using hj
   obtain⟨v,hv,hr⟩:=hR j c hj'
   exact⟨v,hv,RepV.mono hHle c v (fun m _=>hE m) hr⟩
 refine (h.calls { E with H:=H' } w vs hB' hl' hR').mono ?_
 rintro e w' ⟨E',hd,ho⟩
 refine⟨E',⟨hd.heap,hd.obs,hd.apart,hHle.trans hd.hle,hd.size,hd.rest,?_,?_,?_,?_⟩,ho⟩
 ·intro b hb hno
  obtain⟨s1,s2⟩:=hd.same b hb (fun m o hm=>hno m o (hgo m o hm))
  exact⟨s1,by rw [s2];exact hsame b (fun b' hb' e=>hno n _ hgn (e ▸ hb'))⟩
 ·intro m o b hm hb
  rcases hd.own m o b hm hb with h1|⟨m',o',h1,h2⟩
  ·exact .inl h1
  ·exact .inr ⟨m',o',hgo m' o' h1,h2⟩
 ·intro m o hm
  rw [hget] at hm
  cases hq:getO objs m with
  | some q=>exact (hE m).trans (hd.ext m q hq)
  | none =>
   rw [hq] at hm
   simp only at hm
   split at hm
   ·rename_i e
    subst e
    obtain⟨o1,o2,o3⟩:=hd.other n hg0 (getO_keys hn')
    exact EExt.of_eq o1 o2 o3
   ·cases hm
 ·intro m hm hm'
  rw [hget] at hm
  cases hq:getO objs m with
  | some q=>rw [hq] at hm;cases hm
  | none=>exact hd.other m hq hm'
end Go.Lg
namespace Go.Lg
theorem AWP.then_frz {X:Env1} {c:Code} {σ:St} {PP:St→Prop} {Q:AEx→St→Prop} (h:AWP X c σ (thenQ (fun σ' => ∃ n ver sz ty es,getO σ'.objs n=some (.arr ver sz ty (pvE es))∧PP (σ'.frz n ver es)) Q)):AWP X c σ (thenQ PP Q):=by
 intro C E a w hC hG
 refine wp_mono (h C E a w hC hG) ?_
 rintro e a' w' ⟨E',σ',ae,hG',hrel,hq⟩
 cases ae with
 | normal =>
  obtain⟨n,ver,sz,ty,es,ho,hp⟩:=hq
  obtain⟨E2,hG2⟩:=hG'.frz ho
  exact⟨E2,_,.normal,hG2,hrel,hp⟩
 | exit i=>exact⟨E',σ',.exit i,hG',hrel,hq⟩
 | ret=>exact⟨E',σ',.ret,hG',hrel,hq⟩
 | panic p=>exact⟨E',σ',.panic p,hG',hrel,hq⟩
end Go.Lg
