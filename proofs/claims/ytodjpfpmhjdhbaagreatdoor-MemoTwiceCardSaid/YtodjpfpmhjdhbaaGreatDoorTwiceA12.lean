/- The logic of contracts; no conditions. -/
import Derived.Test.YtodjpfpmhjdhbaaGreatDoorTwiceA11
set_option linter.all false
namespace Go.Lg
def checkDrawP (ops:List Oper) (es:List Eff) (jp:Nat):Bool :=
 ((List.range (jp+1)).all fun j=>match ops[j]?,es[j]? with
  | some oj,some ej=>(edges oj).all (fun i=>decide (i<j)) && (List.range j).all fun i=>match ops[i]?,es[i]? with
   | some oi,some ei => !conflict ops.toArray oi ei oj ej || ((masks ops []).getD j 0).testBit i
   | _,_=>false
  | _,_=>false) &&
 ((ops.drop (jp+1)).all fun o=>(edges o).any fun d=>decide (jp≤d))
section
variable {X:Env1} {C:Ctx}
theorem draw_panic (hT:TOK X.P X.T) (hg:GOK X.gl C.E0.H) (hnt:C.nt=X.nt) {ops:List Oper} {es:List Eff} {σ:St} {Q:Exit→Act→World→Prop} (hlen:es.length=ops.length)
  {jp:Nat} {op:Oper} (hop:ops[jp]? = some op) (hgd:op.guard=none) {f:Nat} {args:List V} {objs:List (Nat × Ob)} {p:PV}
  (hf:calleeOf ((foldS (fun m=>decide (m<jp)) 0 (zipD ops es) σ).val X.gl) op.op=some (f,args)) (hac:AC X.P X.gl f args objs (.panic p) [])
  (hsub:subO objs (foldS (fun m=>decide (m<jp)) 0 (zipD ops es) σ).objs)
  (hep:es[jp]? = some ⟨.undef,[],[],keysO objs⟩)
  (htext:∀ i o e,i<jp→ops[i]? = some o→es[i]? = some e→Txt X ops o (foldS (fun m=>decide (m<i)) 0 (zipD ops es) σ) e) (hcheck:checkDrawP ops es jp=true)
  (hQ:∀ E τ a w v,Ga C E τ a w→RepP E.H p v→Q (.panic [{ v,recovered:=false }]) a w) :
  ∀ (fuel:Nat) (listed:Array Bool) (E:Env) (a:Act) (w:World),listed.size=ops.length→listed.toList.count false≤fuel→(∀ j,jp≤j→listed.getD j false=false) →
   (∀ j,listed.getD j false=true→∀ i,((masks ops []).getD j 0).testBit i=true→listed.getD i false=true) →
   Ga C E (foldS (fun m=>listed.getD m false) 0 (zipD ops es) σ) a w→wpAny X.P .any ops.toArray Q fuel listed a w:=by
 have hjl:jp<ops.length:=(List.getElem?_eq_some_iff.1 hop).1
 -- what the check says
 unfold checkDrawP at hcheck
 rw [Bool.and_eq_true] at hcheck
 obtain⟨hcheck,hpost⟩:=hcheck
 have hck:∀ (j:Nat) (oj:Oper) (ej:Eff),j≤jp→ops[j]? = some oj→es[j]? = some ej→(∀ d∈edges oj,d<j) ∧ ∀ (i:Nat) (oi:Oper) (ei:Eff),i<j→ops[i]? = some oi→es[i]? = some ei→conflict ops.toArray oi ei oj ej=true→((masks ops []).getD j 0).testBit i=true:=by
  intro j oj ej hjp hoj hej
  rw [List.all_eq_true] at hcheck
  have hj:=hcheck j (by simp;omega)
  simp only [hoj,hej,Bool.and_eq_true] at hj
  refine⟨fun d hd=>by simpa using List.all_eq_true.1 hj.1 d hd,?_⟩
  intro i oi ei hij hoi hei hcf
  have hi:=List.all_eq_true.1 hj.2 i (by simpa using hij)
  simp only [hoi,hei,hcf,Bool.not_true,Bool.false_or] at hi
  exact hi
 have hafterp:∀ i o,jp<i→ops[i]? = some o→∃ d∈edges o,jp≤d:=by
  intro i o hi ho
  have hm:o∈ops.drop (jp+1):=by
   rw [List.mem_iff_getElem?]
   refine⟨i-(jp+1),?_⟩
   rw [List.getElem?_drop]
   have:jp+1+(i-(jp+1))=i:=by omega
   rw [this]
   exact ho
  have:=List.all_eq_true.1 hpost o hm
  obtain⟨d,hd,h⟩:=List.any_eq_true.1 this
  exact⟨d,hd,by simpa using h⟩
 have hget:∀ (i:Nat) (o:Oper) (e:Eff),ops[i]? = some o→es[i]? = some e→(zipD ops es)[i]? = some (o.dst,e):=by
  intro i o e ho he
  simp [zipD,List.getElem?_zip_eq_some,ho,he]
 have hget':∀ (i:Nat) (d:Option Nat) (e:Eff),(zipD ops es)[i]? = some (d,e)→∃ o,ops[i]? = some o∧o.dst=d∧es[i]? = some e:=by
  intro i d e h
  simp only [zipD,List.getElem?_zip_eq_some,List.getElem?_map,Option.map_eq_some_iff] at h
  obtain⟨⟨o,ho,hd⟩,he⟩:=h
  exact⟨o,ho,hd,he⟩
 have hready:∀ (S:Nat→Bool) (j:Nat) (oj:Oper),ops[j]? = some oj→(∀ d∈edges oj,S d=true)→(∀ k,S k=true→∀ i,((masks ops []).getD k 0).testBit i=true→S i=true)→∀ i,((masks ops []).getD j 0).testBit i=true→S i=true:=by
  intro S j oj hoj hed hcl i hbit
  obtain⟨ms',h1,h2⟩:=masks_at ops [] j oj hoj
  simp only [List.length_nil,Nat.zero_add] at h1
  rw [List.getD_eq_getElem?_getD,h1] at hbit
  simp only [Option.getD_some] at hbit
  rcases maskOf_bit ms' i _ 0 hbit with h0|⟨d,hd,h0⟩
  ·simp at h0
  ·rcases h0 with rfl|h0
   ·exact hed d hd
   ·rcases h2 d with h3|h3
    ·rw [h3] at h0;simp at h0
    ·rw [h3] at h0
     exact hcl d (hed d hd) i h0
 have hnil:∀ (listed:Array Bool),listed.size=ops.length→Region.ready .any ops.toArray listed=[]→∀ i,i≤jp→listed.getD i false=true:=by
  intro listed hs hnil i
  induction i using Nat.strongRecOn with
  | _ i ih =>
   intro hi
   cases hb:listed.getD i false with
   | true=>rfl
   | false =>
    exfalso
    have hoi:ops[i]? = some ops[i]:=List.getElem?_eq_getElem (by omega)
    have hei:es[i]? = some es[i]:=List.getElem?_eq_getElem (by omega)
    have hmem:i∈Region.ready .any ops.toArray listed:=by
     unfold Region.ready
     rw [List.mem_filter]
     refine⟨by simp;omega,?_⟩
     have h1:listed.getD i true=false:=by
      rw [Array.getD_eq_getD_getElem?] at hb ⊢
      rw [Array.getElem?_eq_getElem (by omega)] at hb ⊢
      simpa using hb
     simp only [h1,Bool.not_false,Bool.true_and,List.getElem?_toArray,hoi,Option.map_some,Option.getD_some]
     rw [Array.all_eq_true']
     intro ed hed
     by_cases hbd:Region.binds .any ed=true
     ·have hlt:=(hck i _ _ hi hoi hei).1 ed.on (List.mem_map_of_mem (List.mem_filter.2 ⟨by simpa using hed,hbd⟩))
      rw [ih ed.on hlt (by omega)]
      simp
     ·simp [hbd]
    rw [hnil] at hmem
    simp at hmem
 intro fuel
 induction fuel with
 | zero =>
  intro listed E a w hs hcnt hun hcl hG
  exfalso
  have h0:listed.toList.count false=0:=by omega
  rw [List.count_eq_zero] at h0
  have:=hun jp (Nat.le_refl _)
  rw [Array.getD_eq_getD_getElem?,Array.getElem?_eq_getElem (by omega)] at this
  simp only [Option.getD_some] at this
  exact h0 (by rw [← this];simp)
 | succ fuel ih =>
  intro listed E a w hs hcnt hunp hcl hG
  refine⟨fun hn => ?_,?_⟩
  ·have:=hnil listed hs hn jp (Nat.le_refl _)
   rw [hunp jp (Nat.le_refl _)] at this
   cases this
  intro i hi
  unfold Region.ready at hi
  rw [List.mem_filter] at hi
  obtain⟨hi,hrd⟩:=hi
  have hi:i<ops.length:=by simpa using hi
  have hoi:ops[i]? = some ops[i]:=List.getElem?_eq_getElem hi
  have hei:es[i]? = some es[i]:=List.getElem?_eq_getElem (by omega)
  generalize ops[i]=o at hoi hrd
  generalize es[i]=e at hei
  simp only [List.getElem?_toArray,hoi,Option.map_some,Option.getD_some,Bool.and_eq_true,Bool.not_eq_true'] at hrd
  obtain⟨hun,hpre⟩:=hrd
  have hSi:listed.getD i false=false:=by
   rw [Array.getD_eq_getD_getElem?] at hun ⊢
   rw [Array.getElem?_eq_getElem (by omega)] at hun ⊢
   simpa using hun
  have hed:∀ d∈edges o,listed.getD d false=true:=by
   intro d hd
   obtain⟨ed,hed,rfl⟩:=List.mem_map.1 hd
   obtain⟨hed,hbd⟩:=List.mem_filter.1 hed
   rw [Array.all_eq_true'] at hpre
   have:=hpre ed (by simpa using hed)
   simpa [hbd] using this
  have hip:i≤jp:=by
   apply Nat.le_of_not_lt
   intro hgt
   obtain⟨d,hd,hdp⟩:=hafterp i o hgt hoi
   have:=hed d hd
   rw [hunp d hdp] at this
   cases this
  have hlt_of:∀ j,listed.getD j false=true→j<jp:=by
   intro j hj
   apply Nat.lt_of_not_le
   intro hle
   rw [hunp j hle] at hj
   cases hj
  have hbits:=hready (fun m=>listed.getD m false) i o hoi hed hcl
  have hbefore:∀ (j:Nat) (oj:Oper) (ej:Eff),j<i→ops[j]? = some oj→es[j]? = some ej→conflict ops.toArray oj ej o e=true→listed.getD j false=true :=
   fun j oj ej hj hoj hej hc=>hbits j ((hck i o e hip hoi hei).2 j oj ej hj hoj hej hc)
  have hafter:∀ (j:Nat) (oj:Oper) (ej:Eff),i<j→ops[j]? = some oj→es[j]? = some ej→conflict ops.toArray o e oj ej=true→listed.getD j false=false:=by
   intro j oj ej hj hoj hej hc
   cases hb:listed.getD j false with
   | false=>rfl
   | true =>
    have:=hcl j hb i ((hck j oj ej (Nat.le_of_lt (hlt_of j hb)) hoj hej).2 i o e hj hoi hei hc)
    rw [hSi] at this
    cases this
  have hslot:∀ t,t∈o.looksAt ops.toArray→getS (foldS (fun m=>decide (m<i)) 0 (zipD ops es) σ).slots t=getS (foldS (fun m=>listed.getD m false) 0 (zipD ops es) σ).slots t:=by
   intro t ht
   refine foldS_slot t _ 0 σ σ (fun j d e' hj hd => ?_) rfl
   rw [Nat.zero_add]
   obtain⟨oj,hoj,hdj,hej⟩:=hget' j d e' hj
   rw [hd] at hdj
   rcases Nat.lt_trichotomy j i with hlt|heq|hgt
   ·have hc:conflict ops.toArray oj e' o e=true:=by
     simp only [conflict,hdj,List.contains_eq_mem,ht,decide_true,Bool.true_or]
    rw [hbefore j oj e' hlt hoj hej hc]
    simp [hlt]
   ·subst heq
    rw [hSi]
    simp
   ·have hc:conflict ops.toArray o e oj e'=true:=by
     simp only [conflict,hdj,List.contains_eq_mem,ht,decide_true,Bool.or_true,Bool.true_or]
    rw [hafter j oj e' hgt hoj hej hc]
    simp;omega
  have hobj:∀ n,n∈e.rd→getO (foldS (fun m=>decide (m<i)) 0 (zipD ops es) σ).objs n=getO (foldS (fun m=>listed.getD m false) 0 (zipD ops es) σ).objs n:=by
   intro n hn
   refine foldS_obj n _ 0 σ σ (fun j d e' hj hd => ?_) rfl
   rw [Nat.zero_add]
   obtain⟨oj,hoj,hdj,hej⟩:=hget' j d e' hj
   rcases Nat.lt_trichotomy j i with hlt|heq|hgt
   ·have hc:conflict ops.toArray oj e' o e=true:=by
     simp only [conflict,Bool.or_eq_true,List.any_eq_true]
     exact .inl (.inr ⟨n,hd,.inl (by simpa using hn)⟩)
    rw [hbefore j oj e' hlt hoj hej hc]
    simp [hlt]
   ·subst heq
    rw [hSi]
    simp
   ·have hc:conflict ops.toArray o e oj e'=true:=by
     simp only [conflict,Bool.or_eq_true,List.any_eq_true]
     exact .inr ⟨n,hd,by simpa using hn⟩
    rw [hafter j oj e' hgt hoj hej hc]
    simp;omega
  have hval:∀ x∈o.op.operands,(foldS (fun m=>decide (m<i)) 0 (zipD ops es) σ).val X.gl x=(foldS (fun m=>listed.getD m false) 0 (zipD ops es) σ).val X.gl x:=by
   intro x hx
   cases x with
   | tmp t =>
    refine hslot t ?_
    simp only [Oper.looksAt,List.mem_append,List.mem_filterMap]
    exact .inl ⟨.tmp t,by simpa using hx,rfl⟩
   | const v=>rfl
   | func f=>rfl
   | global g=>rfl
  by_cases hii:i=jp
  ·subst hii
   rw [hop] at hoi
   cases hoi
   rw [hep] at hei
   cases hei
   unfold wpOp
   simp only [List.getElem?_toArray,hop]
   rw [if_pos (by simp [Region.wanted,hgd])]
   left
   have hf':=hf
   rw [calleeOf_congr hval] at hf'
   have hsub':=subO_congr (fun n hn=>hobj n hn) hsub
   obtain⟨vs,hl,hrv,hrun,hnm⟩:=call_enter hG hg hf' hac.direct
   unfold Oper.wp
   rw [hrun]
   simp only [Oper.upon]
   have hsub2:=subO_spec hsub'
   have hbase:Base X.gl E w objs:=⟨hG.heap,hg.mono hG.hle,fun n o hn=>hG.objs n o (hsub2 n o hn),fun n m o o' hn hm=>hG.apart n m o o' (hsub2 n o hn) (hsub2 m o' hm)⟩
   refine (hac.calls E w vs hbase hl hrv).mono ?_
   rintro e' w' ⟨E',hD,v,rfl,hv⟩
   have hG':=hG.called (dst:=none) (x:=.undef) (v:=undef) hD hsub2 (by simp [keysO]) (ment_used hG hnm hsub') hac.namesO (by simp [RepV]) (by simp [V.names]) (by simp)
   exact hQ E' _ a w' v hG' hv
  have hip:i<jp:=by omega
  have htx:=htext i o e hip hoi hei
  have hnw:∀ (j:Nat) (oj:Oper) (ej:Eff),j<jp→ops[j]? = some oj→es[j]? = some ej→∀ n∈ej.nw,n ∉ (foldS (fun m=>decide (m<j)) 0 (zipD ops es) σ).used:=by
   intro j oj ej hjp hoj hej n hn
   have:=htext j oj ej hjp hoj hej
   have key:∀ s,OpW X oj s ej→∀ n∈ej.nw,n ∉ s.used:=by
    intro s hw
    cases hw with
    | step r hs hc hnn=>exact hnn
    | call f args objs x objs' hf hac hsub hnn=>exact hnn
    | callR f args ro objs x objs' hf hac hro hsub hnn=>exact hnn
   rcases this.2 with ⟨_,hw⟩|⟨_,_,_,_,_,⟨_,hw⟩|⟨_,rfl⟩⟩|⟨_,_,_,_,rfl⟩
   ·exact key _ hw n hn
   ·exact key _ hw n hn
   ·simp [skipE] at hn
   ·simp [skipE] at hn
  have hnew:∀ n∈e.nw,n ∉ (foldS (fun m=>listed.getD m false) 0 (zipD ops es) σ).used:=by
   intro n hn hu
   rw [foldS_used] at hu
   have h0:=hnw i o e hip hoi hei n hn
   rw [foldS_used] at h0
   simp only [not_or,not_exists,not_and] at h0
   rcases hu with hu|⟨j,d,ej,hj,hSj,hnj⟩
   ·exact h0.1 hu
   ·rw [Nat.zero_add] at hSj
    obtain⟨oj,hoj,hdj,hej⟩:=hget' j d ej hj
    rcases Nat.lt_trichotomy j i with hlt|heq|hgt
    ·exact h0.2 j d ej hj (by simpa using hlt) hnj
    ·subst heq;rw [hSi] at hSj;cases hSj
    ·have h1:=hnw j oj ej (hlt_of j hSj) hoj hej n hnj
     rw [foldS_used] at h1
     simp only [not_or,not_exists,not_and] at h1
     exact h1.2 i o.dst e (hget i o e hoi hei) (by simpa using hgt) hn
  have hd:∀ d,o.dst=some d→d<C.nt:=by
   intro d hd'
   have:=htx.1
   rw [hd'] at this
   rw [hnt]
   exact this
  have hnext:∀ E' a' w',Ga C E' ((foldS (fun m=>listed.getD m false) 0 (zipD ops es) σ).eff o.dst e) a' w'→wpAny X.P .any ops.toArray Q fuel (listed.setIfInBounds i true) a' w':=by
   intro E' a' w' hG'
   have hS':(fun m=>(listed.setIfInBounds i true).getD m false)=fun m=>m == 0+i || listed.getD m false:=by
    funext m
    rw [Nat.zero_add,Array.getD_eq_getD_getElem?,Array.getD_eq_getD_getElem?]
    by_cases e1:m=i
    ·subst e1
     rw [Array.getElem?_setIfInBounds_self_of_lt (by omega)]
     simp
    ·rw [Array.getElem?_setIfInBounds_ne (fun h=>e1 h.symm)]
     simp [e1]
   have e1:∀ m,(listed.setIfInBounds i true).getD m false=(m == 0+i || listed.getD m false):=fun m=>congrFun hS' m
   refine ih (listed.setIfInBounds i true) E' a' w' (by simpa using hs) ?_ ?_ ?_ ?_
   ·have:=count_set listed.toList i (by
     rw [Array.getElem?_toList,Array.getElem?_eq_getElem (by omega)]
     rw [Array.getD_eq_getD_getElem?,Array.getElem?_eq_getElem (by omega)] at hSi
     simpa using hSi)
    rw [Array.toList_setIfInBounds]
    omega
   ·intro j hj
    rw [e1,hunp j hj]
    simp;omega
   ·intro j hj k hk
    rw [e1] at hj ⊢
    simp only [Nat.zero_add,Bool.or_eq_true,beq_iff_eq] at hj ⊢
    right
    rcases hj with rfl|hj
    ·exact hbits k hk
    ·exact hcl j hj k hk
   ·rw [hS']
    refine hG'.of_ext ?_ ?_ ?_
    ·intro t
     rw [foldS_slot_add t _ 0 i o.dst e σ (hget i o e hoi hei) (by simpa using hSi)]
     ·simp [St.eff,getS_putS]
     ·intro hdt j d' e' hij hj hSj hd'
      rw [Nat.zero_add] at hSj
      obtain⟨oj,hoj,hdj,hej⟩:=hget' j d' e' hj
      rw [hd'] at hdj
      have hc:conflict ops.toArray o e oj e'=true:=by simp [conflict,hdt,hdj]
      have:=hafter j oj e' hij hoj hej hc
      rw [hSj] at this
      cases this
    ·intro n
     rw [foldS_obj_add n _ 0 i o.dst e σ (hget i o e hoi hei) (by simpa using hSi)]
     ·simp only [St.eff,getO_updAll]
      cases lookW e.wr n<;>rfl
     ·intro hdt j d' e' hij hj hSj hd'
      rw [Nat.zero_add] at hSj
      obtain⟨oj,hoj,hdj,hej⟩:=hget' j d' e' hj
      have hc:conflict ops.toArray o e oj e'=true:=by
       simp only [conflict,Bool.or_eq_true,List.any_eq_true]
       exact .inl (.inr ⟨n,hdt,.inr (by simpa using hd')⟩)
      have:=hafter j oj e' hij hoj hej hc
      rw [hSj] at this
      cases this
    ·intro n hn
     simp only [St.eff,List.mem_append] at hn
     rw [foldS_used]
     rw [foldS_used] at hn
     rcases hn with hn|hn|⟨j,d,ej,hj,hSj,hnj⟩
     ·exact .inr ⟨i,o.dst,e,hget i o e hoi hei,by simp,hn⟩
     ·exact .inl hn
     ·exact .inr ⟨j,d,ej,hj,by rw [hSj];simp,hnj⟩
  unfold wpOp
  simp only [List.getElem?_toArray,hoi]
  have hrun:OpW X o (foldS (fun m=>decide (m<i)) 0 (zipD ops es) σ) e→o.wp X.P a w (wpAny X.P .any ops.toArray Q fuel (listed.setIfInBounds i true)) Q:=fun hw =>
   (hw.congr ⟨hval,hobj,hnew⟩).sound hT hg hG hd hnext
  rcases htx.2 with ⟨hgn,hw⟩|⟨j,want,b,hgs,hgv,hor⟩|⟨j,want,hgs,hgv,rfl⟩
  ·rw [if_pos (by simp [Region.wanted,hgn])]
   exact .inl (hrun hw)
  ·have hgv':gv ops (foldS (fun m=>listed.getD m false) 0 (zipD ops es) σ) j = .pv (.bool b):=by
    rw [← hgv]
    unfold gv
    split
    ·rename_i oj hoj
     split
     ·rename_i d hdj
      refine (hslot d ?_).symm
      simp only [Oper.looksAt,List.mem_append]
      right
      simp [hgs,hoj,hdj]
     ·rfl
    ·rfl
   have hy:=yield_of hG hgv'
   rcases hor with ⟨hbw,hw⟩|⟨hbw,rfl⟩
   ·rw [if_pos (by simp [Region.wanted,hgs,hy,hbw])]
    exact .inl (hrun hw)
   ·rw [if_neg (by simp [Region.wanted,hgs,hy,hbw])]
    exact hnext E _ w (skip_ga hG hd)
  ·have hgv':gv ops (foldS (fun m=>listed.getD m false) 0 (zipD ops es) σ) j = .pv (.tuple []):=by
    rw [← hgv]
    unfold gv
    split
    ·rename_i oj hoj
     split
     ·rename_i d hdj
      refine (hslot d ?_).symm
      simp only [Oper.looksAt,List.mem_append]
      right
      simp [hgs,hoj,hdj]
     ·rfl
    ·rfl
   have hy:=yield_none hG hgv'
   rw [if_neg (by simp [Region.wanted,hgs,hy])]
   exact hnext E _ w (skip_ga hG hd)
end
theorem foldS_append {S:Nat→Bool} : ∀ (a b:List (Option Nat × Eff)) (k:Nat) (σ:St),foldS S k (a++b) σ=foldS S (k+a.length) b (foldS S k a σ)
 | [],b,k,σ=>rfl
 | p::a,b,k,σ=>by
  simp only [List.cons_append,foldS,List.length_cons]
  rw [foldS_append a b (k+1)]
  congr 1
  omega
theorem foldS_none {S:Nat→Bool} : ∀ (l:List (Option Nat × Eff)) (k:Nat) (σ:St),(∀ i,k≤i→S i=false)→foldS S k l σ=σ
 | [],k,σ,_=>rfl
 | p::l,k,σ,h=>by
  simp only [foldS,h k (Nat.le_refl _)]
  exact foldS_none l (k+1) σ (fun i hi=>h i (by omega))
theorem ex_drawP {X:Env1} {σ:St} {id:Nat} {l pre post:List Oper} {op:Oper} {Q:AEx→St→Prop}
  (h:runOps X true l (fun σj tr => ∃ f args objs p,calleeOf (σj.val X.gl) op.op=some (f,args)∧AC X.P X.gl f args objs (.panic p) []∧subO objs σj.objs∧op.guard=none ∧
   checkDrawP l (tr++⟨.undef,[],[],keysO objs⟩::post.map (fun _=>skipE)) pre.length=true ∧ ∀ τ,Q (.panic p) τ) (fun _ _=>False) pre σ [])
  (hl:l=pre++op::post):AWP X (.region id l.toArray true) σ Q:=by
 intro C E a w hC hG
 obtain⟨es,hlen,ht,f,args,objs,p,hf,hac,hsub,hgd,hck,hq⟩:=runOps_text _ _ _ h
 simp only [List.nil_append] at hck
 have hz:zipD l (es++⟨.undef,[],[],keysO objs⟩::post.map (fun _=>skipE))=zipD pre es++(op.dst,⟨.undef,[],[],keysO objs⟩)::zipD post (post.map (fun _=>skipE)):=by
  subst hl
  simp only [zipD,List.map_append,List.map_cons]
  rw [List.zip_append (by simpa using hlen.symm)]
  rfl
 have hzl:(zipD pre es).length=pre.length:=by simp [zipD,hlen]
 have hj:foldS (fun m=>decide (m<pre.length)) 0 (zipD l (es++⟨.undef,[],[],keysO objs⟩::post.map (fun _=>skipE))) σ=foldS (fun _=>true) 0 (zipD pre es) σ:=by
  rw [hz,foldS_append,hzl,foldS_none _ _ _ (by intro i hi;simp;omega)]
  have key:∀ (r:List (Option Nat × Eff)) (k:Nat) (s:St),k+r.length≤pre.length→foldS (fun m=>decide (m<pre.length)) k r s=foldS (fun _=>true) k r s:=by
   intro r
   induction r with
   | nil=>intro k s _;rfl
   | cons q r ih =>
    intro k s hk
    simp only [List.length_cons] at hk
    have:k<pre.length:=by omega
    simp only [foldS,this,decide_true]
    rw [ih (k+1) _ (by omega)]
  exact key _ 0 σ (by omega)
 refine wp_region_any X.mix ?_
 have hG':Ga C E σ a { w with drawn:=w.drawn+1 }:=hG.drew
 have:=draw_panic (X:=X) (C:=C) (Q:=APost C Q) X.ok hC.glob hC.nt (ops:=l) (es:=es++⟨.undef,[],[],keysO objs⟩::post.map (fun _=>skipE)) (σ:=σ) (by subst hl;simp [hlen]) (jp:=pre.length) (op:=op)
  (by subst hl;simp) hgd (f:=f) (args:=args) (objs:=objs) (p:=p) (by rw [hj];exact hf) hac (by rw [hj];exact hsub) (by rw [← hlen];simp) (by
   intro i o e hi ho he
   have ho':pre[i]? = some o:=by
    subst hl
    rwa [List.getElem?_append_left hi] at ho
   have he':es[i]? = some e:=by
    rwa [List.getElem?_append_left (by omega)] at he
   have:=text_at pre es 0 σ ht i o e ho' he'
   rw [Nat.zero_add] at this
   rw [hz,foldS_append,hzl,foldS_none _ _ _ (by intro k hk;simp;omega)]
   exact this) hck (fun E τ a w v hG hv=>⟨E,τ,.panic p,hG,⟨v,rfl,hv⟩,hq τ⟩) l.length (Array.replicate l.length false) E a _ (by simp) (by simp [List.count_replicate]) (by
   intro j _
   rw [Array.getD_eq_getD_getElem?,Array.getElem?_replicate]
   split<;>rfl) (by
   intro j hj i _
   rw [Array.getD_eq_getD_getElem?,Array.getElem?_replicate] at hj
   split at hj<;>simp at hj) (by
   have hS:(fun m=>(Array.replicate l.length false).getD m false)=fun _=>false:=by
    funext m
    rw [Array.getD_eq_getD_getElem?,Array.getElem?_replicate]
    split<;>rfl
   rw [hS,foldS_none _ _ _ (fun _ _=>rfl)]
   exact hG')
 simpa using this
section
variable {C:Ctx} {E:Env} {σ:St} {a:Act} {w:World}
theorem Ga.thaw (h:Ga C E σ a w) {b i n sz ty:Nat} {cs:List V} (hb:getO σ.objs b=some (.box cs)) (hi:cs[i]? = some (.pv .nils)) (hn:n ∉ σ.used) :
  ∃ E',Ga C E' ⟨σ.slots,setO (setO σ.objs n (.arr 0 sz ty [])) b (.box (cs.set i (.arr n 0 0))),n::σ.used⟩ a w:=by
 obtain⟨E1,h1,hr⟩:=addArr (sz:=sz) (ty:=ty) h hn
 have hbn:b≠n:=fun e=>hn (e ▸ (h.usedO b _ hb).1)
 have hb1:getO (setO σ.objs n (.arr 0 sz ty [])) b=some (.box cs):=by rw [getO_setO,if_neg hbn];exact hb
 refine⟨E1,?_⟩
 have:=h1.change (E':=E1) b (some (.box (cs.set i (.arr n 0 0)))) (setO (setO σ.objs n (.arr 0 sz ty [])) b (.box (cs.set i (.arr n 0 0)))) (n::σ.used) none .undef undef (fun m=>getO_setO _ _ _ _) (Hle.refl _)
  (fun _ _=>⟨rfl,rfl,rfl⟩) (fun _=>EExt.refl _ _) (fun _=>⟨_,hb1⟩) (Nat.le_refl _) ⟨rfl,rfl,rfl⟩ (fun _ _ _=>⟨rfl,rfl⟩) h1.heap ?_ ?_ (fun _ h=>h) (by simp [RepV]) (by simp [V.names]) (by simp)
 ·exact this
 ·intro o e
  cases e
  obtain⟨bb,c,T,hg,hc,hl,hrep,h0⟩:=h1.objs b _ hb1
  refine⟨⟨bb,c,T,hg,hc,by simpa using hl,?_,h0⟩,(h1.usedO b _ hb1).1,?_⟩
  ·rw [RepVL.iff] at hrep ⊢
   intro j x hx
   rw [List.getElem?_set] at hx
   split at hx
   ·rename_i e
    subst e
    obtain⟨v,hv,hrv⟩:=hrep i _ hi
    have hil:i<cs.length:=(List.getElem?_eq_some_iff.1 hi).1
    rw [if_pos hil] at hx
    cases hx
    simp only [RepV,RepP] at hrv
    subst hrv
    exact⟨_,hv,hr⟩
   ·exact hrep j x hx
  ·intro m hm
   obtain⟨x,hx,hm⟩:=mem_namesL.1 (by simpa only [Ob.names] using hm)
   rcases List.mem_or_eq_of_mem_set hx with hx|rfl
   ·exact (h1.usedO b _ hb1).2 m (mem_namesL.2 ⟨x,hx,hm⟩)
   ·simp only [V.names,List.mem_singleton] at hm
    subst hm
    simp
 ·intro o bb e hbb
  exact .inr ⟨hbb,_,hb1⟩
def frbV (n:Nat) (ps:List PV):V→V
 | .loc m off=>if m=n then .pv (.ptr (ps.drop off)) else .loc m off
 | x=>x
def frbL (n:Nat) (ps:List PV):List V→List V
 | []=>[]
 | x::xs=>frbV n ps x::frbL n ps xs
def frbS (n:Nat) (ps:List PV):List (Nat × V)→List (Nat × V)
 | []=>[]
 | (t,x)::r=>(t,frbV n ps x)::frbS n ps r
def frbOb (n:Nat) (ps:List PV):Ob→Ob
 | .box cs => .box (frbL n ps cs)
 | o=>o
def frbO (n:Nat) (ps:List PV):List (Nat × Ob)→List (Nat × Ob)
 | []=>[]
 | (k,o)::r=>if k=n then frbO n ps r else (k,frbOb n ps o)::frbO n ps r
def St.frb (σ:St) (n:Nat) (ps:List PV):St:=⟨frbS n ps σ.slots,frbO n ps σ.objs,σ.used⟩
theorem frbL_len (n:Nat) (ps:List PV) (cs:List V):(frbL n ps cs).length=cs.length:=by
 induction cs with
 | nil=>rfl
 | cons c cs ih=>simp [frbL,ih]
theorem frbS_get (n:Nat) (ps:List PV) (l:List (Nat × V)) (t:Nat):getS (frbS n ps l) t=frbV n ps (getS l t):=by
 induction l with
 | nil=>rfl
 | cons p r ih =>
  obtain⟨k,x⟩:=p
  simp only [frbS,getS,ih]
  split<;>rfl
theorem frbO_get (n:Nat) (ps:List PV) (l:List (Nat × Ob)) (m:Nat):getO (frbO n ps l) m=if m=n then none else (getO l m).map (frbOb n ps):=by
 induction l with
 | nil=>simp [frbO,getO]
 | cons p r ih =>
  obtain⟨k,x⟩:=p
  simp only [frbO,getO]
  by_cases e:k=n
  ·subst e
   simp only [if_true,ih]
   by_cases e1:m=k
   ·simp [e1]
   ·have:¬ k=m:=fun h=>e1 h.symm
    simp [e1,this]
  ·simp only [e,if_false,getO,ih]
   by_cases e1:k=m
   ·subst e1;simp [e]
   ·simp [e1]
theorem frbV_names (n:Nat) (ps:List PV) (x:V):∀ m∈(frbV n ps x).names,m∈x.names:=by
 intro m hm
 unfold frbV at hm
 split at hm
 ·split at hm
  ·simp [V.names] at hm
  ·exact hm
 ·exact hm
theorem frbL_names (n:Nat) (ps:List PV) (cs:List V):∀ m∈namesL (frbL n ps cs),m∈namesL cs:=by
 induction cs with
 | nil=>intro m hm;exact hm
 | cons c cs ih =>
  intro m hm
  simp only [frbL,namesL,List.mem_append] at hm ⊢
  rcases hm with hm|hm
  ·exact .inl (frbV_names n ps c m hm)
  ·exact .inr (ih m hm)
theorem Ga.frb (h:Ga C E σ a w) {n:Nat} {ps:List PV} (ho:getO σ.objs n=some (.box (pvL ps))):∃ E',Ga C E' (σ.frb n ps) a w:=by
 obtain⟨b,cur,T,hgn,hcur,hcs,hr,hfree⟩:=h.objs n _ ho
 let H':Hp:=fun b'=>if b'=b then cur.toList else E.H b'
 have hHle:Hle E.H H':=by
  intro b'
  by_cases e:b'=b
  ·subst e;rw [hfree];exact List.nil_prefix
  ·simp [H',e]
 have hheap:HeapOK { E with H:=H' } w:=by
  intro b' hb'
  by_cases e:b'=b
  ·subst e
   exact⟨cur,T,(0,0),hcur,by simp [H',Msk.refl],.inl rfl⟩
  ·have hb'':E.H b'≠[]:=by simpa [H',e] using hb'
   obtain⟨c,T,fr,hc,hp⟩:=h.heap b' hb''
   exact⟨c,T,fr,hc,by simpa [H',e] using hp.1,by simpa [H',e] using hp.2⟩
 have hdata:RepL H' ps (H' b):=by
  have:H' b=cur.toList:=by simp [H']
  rw [this]
  exact RepL.mono hHle ps _ _ List.prefix_rfl (RepVL.toPv (unL_pvL ps) hr)
 have hsame:∀ b',b'≠b→H' b'=E.H b':=by intro b' hne;simp [H',hne]
 have hE:∀ m,EExt E { E with H:=H' } m:=fun m=>EExt.of_eq rfl rfl rfl
 have hc:=h.change (E':={ E with H:=H' }) n none (delO σ.objs n) σ.used none .undef undef (fun m=>getO_delO _ _ _) hHle (fun _ _=>⟨rfl,rfl,rfl⟩) (fun _=>hE n) (fun _=>⟨_,ho⟩) (Nat.le_refl _) ⟨rfl,rfl,rfl⟩
  (fun b' _ hne=>⟨rfl,hsame b' (fun e=>hne _ ho (by rw [e,hgn];rfl))⟩) hheap (fun o e=>by cases e) (fun o b e=>by cases e) (fun _ h=>h) (by simp [RepV]) (by simp [V.names]) (by simp)
 have hv1:∀ (x:V) (v:Value),RepV { E with H:=H' } x v→RepV { E with H:=H' } (frbV n ps x) v:=by
  intro x v hx
  unfold frbV
  split
  ·rename_i m off
   split
   ·rename_i e
    subst e
    simp only [RepV] at hx
    obtain⟨b',hg',hv⟩:=hx
    rw [hgn] at hg'
    cases hg'
    simp only [RepV,RepP]
    exact⟨b,off,hv,RepL.drop off hdata⟩
   ·exact hx
  ·exact hx
 have hvL:∀ (cs:List V) (vs:List Value),RepVL { E with H:=H' } cs vs→RepVL { E with H:=H' } (frbL n ps cs) vs:=by
  intro cs
  induction cs with
  | nil=>intro vs _;simp [frbL,RepVL]
  | cons c cs ih =>
   intro vs hr
   cases vs with
   | nil=>simp [RepVL] at hr
   | cons v vs =>
    simp only [RepVL] at hr
    simp only [frbL,RepVL]
    exact⟨hv1 c v hr.1,ih vs hr.2⟩
 refine⟨{ E with H:=H' },?_,hc.size,hc.defers,hc.heap,?_,?_,?_,?_,hc.usedG,hc.grown,hc.rest,hc.same,hc.hle,?_,hc.ext,fun k hk=>⟨(hc.keep k hk).1,?_,(hc.keep k hk).2.2⟩⟩
 ·intro t
  simp only [St.frb,frbS_get]
  exact hv1 _ _ (hc.slots t)
 ·intro m o hm
  simp only [St.frb,frbO_get] at hm
  split at hm
  ·cases hm
  ·rename_i hne
   cases hq:getO σ.objs m with
   | none=>rw [hq] at hm;cases hm
   | some q =>
    rw [hq] at hm
    simp only [Option.map_some,Option.some.injEq] at hm
    subst hm
    have hq':getO (delO σ.objs n) m=some q:=by rw [getO_delO,if_neg hne,hq]
    have hok:=hc.objs m q hq'
    cases q with
    | box cs =>
     obtain⟨b,c,T,h1,h2,h3,h4,h5⟩:=hok
     exact⟨b,c,T,h1,h2,by rw [h3,frbL_len],hvL cs _ h4,h5⟩
    | arr v s t es'=>exact hok
    | cache D F=>exact hok
    | imap es=>exact hok
 ·intro m m' o o' hm hm' hne b hb
  simp only [St.frb,frbO_get] at hm hm'
  split at hm
  ·cases hm
  ·split at hm'
   ·cases hm'
   ·cases hq:getO σ.objs m with
    | none=>rw [hq] at hm;cases hm
    | some q =>
     cases hq':getO σ.objs m' with
     | none=>rw [hq'] at hm';cases hm'
     | some q'=>exact h.apart m m' q q' hq hq' hne b hb
 ·intro t m hm
  simp only [St.frb,frbS_get] at hm
  exact h.usedS t m (frbV_names n ps _ m hm)
 ·intro m o hm
  simp only [St.frb,frbO_get] at hm
  split at hm
  ·cases hm
  ·cases hq:getO σ.objs m with
   | none=>rw [hq] at hm;cases hm
   | some q =>
    rw [hq] at hm
    simp only [Option.map_some,Option.some.injEq] at hm
    subst hm
    refine⟨(h.usedO m q hq).1,fun k hk=>(h.usedO m q hq).2 k ?_⟩
    cases q with
    | box cs=>exact frbL_names n ps cs k hk
    | arr v s t es'=>exact hk
    | cache D F=>exact hk
    | imap es=>exact hk
 ·intro m o b hm hb hlt
  simp only [St.frb,frbO_get] at hm
  split at hm
  ·cases hm
  ·cases hq:getO σ.objs m with
   | none=>rw [hq] at hm;cases hm
   | some q=>exact h.own m q b hq hb hlt
 ·simp only [St.frb,frbO_get]
  have:=(h.keep k hk).2.1
  split
  ·rfl
  ·rw [this];rfl
end
theorem ex_thaw {X:Env1} {c:Code} {σ σ':St} {Q:AEx→St→Prop} (b i n sz ty:Nat) {cs:List V} (hb:getO σ.objs b=some (.box cs)) (hi:cs[i]? = some (.pv .nils)) (hn:n ∉ σ.used)
  (hσ:(⟨σ.slots,setO (setO σ.objs n (.arr 0 sz ty [])) b (.box (cs.set i (.arr n 0 0))),n::σ.used⟩:St)=σ') (h:AWP X c σ' Q):AWP X c σ Q:=by
 intro C E a w hC hG
 obtain⟨E',hG'⟩:=hG.thaw (sz:=sz) (ty:=ty) hb hi hn
 rw [hσ] at hG'
 exact h C E' a w hC hG'
theorem ex_frb {X:Env1} {c:Code} {σ σ':St} {Q:AEx→St→Prop} (n:Nat) {ps:List PV} (ho:getO σ.objs n=some (.box (pvL ps))) (hσ:σ.frb n ps=σ') (h:AWP X c σ' Q):AWP X c σ Q:=by
 intro C E a w hC hG
 obtain⟨E',hG'⟩:=hG.frb ho
 rw [hσ] at hG'
 exact h C E' a w hC hG'
end Go.Lg
