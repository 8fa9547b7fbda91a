/- The logic of contracts; no conditions. -/
import Derived.Test.YtodjpfpmhjdhbaaGreatDoorTwiceA8
set_option linter.all false
namespace Go.Lg
def edges (o:Oper):List Nat:=(o.after.toList.filter (Region.binds .any)).map (·.on)
def maskOf (ms:List Nat) (l:List Nat):Nat:=l.foldl (fun m i=>m ||| (1 <<< i) ||| ms.getD i 0) 0
def masks:List Oper→List Nat→List Nat
 | [],ms=>ms
 | o::r,ms=>masks r (ms++[maskOf ms (edges o)])
def conflict (ops:Array Oper) (o1:Oper) (e1:Eff) (o2:Oper) (e2:Eff):Bool :=
 (match o1.dst with|some d=>(o2.looksAt ops).contains d || o2.dst == some d|none=>false) ||
 (match o2.dst with|some d=>(o1.looksAt ops).contains d|none=>false) ||
 e1.wn.any (fun n=>e2.rd.contains n || e2.wn.contains n) || e2.wn.any (fun n=>e1.rd.contains n)
def checkDraw (ops:List Oper) (es:List Eff):Bool :=
 (List.range ops.length).all fun j=>match ops[j]?,es[j]? with
  | some oj,some ej=>(edges oj).all (fun i=>decide (i<j)) && (List.range j).all fun i=>match ops[i]?,es[i]? with
   | some oi,some ei => !conflict ops.toArray oi ei oj ej || ((masks ops []).getD j 0).testBit i
   | _,_=>false
  | _,_=>false
theorem maskOf_bit (ms:List Nat) (i:Nat):∀ (l:List Nat) (m:Nat),(l.foldl (fun m i=>m ||| (1 <<< i) ||| ms.getD i 0) m).testBit i=true→m.testBit i=true ∨ ∃ d∈l,d=i∨(ms.getD d 0).testBit i=true
 | [],m,h => .inl h
 | d::l,m,h=>by
  simp only [List.foldl_cons] at h
  rcases maskOf_bit ms i l _ h with h|⟨d',hd',h⟩
  ·simp only [Nat.testBit_or,Bool.or_eq_true] at h
   rcases h with (h|h)|h
   ·exact .inl h
   ·right
    refine⟨d,by simp,.inl ?_⟩
    simp only [Nat.testBit_shiftLeft,Bool.and_eq_true,decide_eq_true_eq] at h
    obtain⟨h1,h2⟩:=h
    have:i-d=0:=by
     cases hq:i-d with
     | zero=>rfl
     | succ k=>rw [hq] at h2;simp [Nat.testBit_succ] at h2
    omega
   ·exact .inr ⟨d,by simp,.inr h⟩
  ·exact .inr ⟨d',by simp [hd'],h⟩
theorem masks_get:∀ (l:List Oper) (ms:List Nat) (j:Nat),j<ms.length→(masks l ms)[j]? = ms[j]?
 | [],_,_,_=>rfl
 | o::r,ms,j,h=>by
  simp only [masks]
  rw [masks_get r _ j (by simp;omega),List.getElem?_append_left h]
theorem masks_at:∀ (l:List Oper) (ms:List Nat) (i:Nat) (o:Oper),l[i]? = some o→∃ ms',(masks l ms)[ms.length+i]? = some (maskOf ms' (edges o)) ∧ ∀ d,(ms'.getD d 0=0∨ms'.getD d 0=(masks l ms).getD d 0)
 | [],_,_,_,h=>by simp at h
 | o'::r,ms,0,o,h=>by
  simp only [List.getElem?_cons_zero,Option.some.injEq] at h
  subst h
  simp only [masks]
  refine⟨ms,?_,fun d => ?_⟩
  ·rw [masks_get r _ _ (by simp)]
   simp
  ·by_cases hd:d<ms.length
   ·right
    rw [List.getD_eq_getElem?_getD,List.getD_eq_getElem?_getD,masks_get r _ d (by simp;omega),List.getElem?_append_left hd]
   ·left
    rw [List.getD_eq_getElem?_getD,List.getElem?_eq_none (by omega)]
    rfl
 | o'::r,ms,i+1,o,h=>by
  simp only [masks]
  have:=masks_at r (ms++[maskOf ms (edges o')]) i o (by simpa using h)
  simpa [Nat.add_assoc,Nat.add_comm 1 i] using this
def Txt (X:Env1) (ops:List Oper) (o:Oper) (σ:St) (e:Eff):Prop :=
 dstOK X o.dst∧((o.guard=none∧OpW X o σ e)∨(∃ j want b,o.guard=some (j,want)∧gv ops σ j = .pv (.bool b)∧((b=want∧OpW X o σ e)∨(b≠want∧e=skipE))) ∨ ∃ j want,o.guard=some (j,want)∧gv ops σ j = .pv (.tuple [])∧e=skipE)
def TextFrom (X:Env1) (ops:List Oper):List Oper→List Eff→St→Prop
 | [],[],_=>True
 | o::l,e::es,σ=>Txt X ops o σ e∧TextFrom X ops l es (σ.eff o.dst e)
 | _,_,_=>False
def zipD (l:List Oper) (es:List Eff):List (Option Nat × Eff):=(l.map (·.dst)).zip es
theorem runOps_text {X:Env1} {ops:List Oper} {K:St→List Eff→Prop} {Qp:PV→St→Prop} : ∀ (l:List Oper) (σ:St) (tr:List Eff),runOps X true ops K Qp l σ tr →
  ∃ es,es.length=l.length∧TextFrom X ops l es σ∧K (foldS (fun _=>true) 0 (zipD l es) σ) (tr++es)
 | [],σ,tr,h=>⟨[],rfl,trivial,by simpa [runOps,zipD,foldS] using h⟩
 | o::rest,σ,tr,h=>by
  simp only [runOps,cond_true] at h
  obtain⟨hd,h⟩:=h
  have key:∀ e,Txt X ops o σ e→runOps X true ops K Qp rest (σ.eff o.dst e) (tr++[e])→∃ es,es.length=(o::rest).length∧TextFrom X ops (o::rest) es σ∧K (foldS (fun _=>true) 0 (zipD (o::rest) es) σ) (tr++es):=by
   intro e ht hr
   obtain⟨es,h1,h2,h3⟩:=runOps_text rest _ _ hr
   refine⟨e::es,by simp [h1],⟨ht,h2⟩,?_⟩
   simp only [zipD,List.map_cons,List.zip_cons_cons,foldS,if_true]
   have hk:∀ (l:List (Option Nat × Eff)) (k:Nat) (s:St),foldS (fun _=>true) k l s=foldS (fun _=>true) 0 l s:=by
    intro l
    induction l with
    | nil=>intro k s;rfl
    | cons p r ih=>intro k s;simp only [foldS,if_true];rw [ih (k+1),ih (0+1)]
   rw [hk]
   simpa [zipD] using h3
  unfold guardC at h
  split at h
  ·rename_i hg
   obtain⟨e,hw,hn⟩:=opStep_draw h
   exact key e ⟨hd,.inl ⟨hg,hw⟩⟩ hn
  ·rename_i j want hg
   unfold caseG at h
   split at h
   ·rename_i b hb
    split at h
    ·rename_i hbw
     obtain⟨e,hw,hn⟩:=opStep_draw h
     exact key e ⟨hd,.inr (.inl ⟨j,want,b,hg,hb,.inl ⟨hbw,hw⟩⟩)⟩ hn
    ·rename_i hbw
     exact key skipE ⟨hd,.inr (.inl ⟨j,want,b,hg,hb,.inr ⟨hbw,rfl⟩⟩)⟩ h
   ·rename_i hb
    exact key skipE ⟨hd,.inr (.inr ⟨j,want,hg,hb,rfl⟩)⟩ h
   ·cases h
theorem text_at {X:Env1} {ops:List Oper} : ∀ (l:List Oper) (es:List Eff) (k:Nat) (σ:St),TextFrom X ops l es σ→∀ i o e,l[i]? = some o→es[i]? = some e →
  Txt X ops o (foldS (fun m=>decide (m<k+i)) k (zipD l es) σ) e
 | [],_,_,_,_,i,o,e,h,_=>by simp at h
 | o'::l,[],_,_,h,_,_,_,_,_=>by simp [TextFrom] at h
 | o'::l,e'::es,k,σ,h,0,o,e,ho,he=>by
  simp only [List.getElem?_cons_zero,Option.some.injEq] at ho he
  subst ho he
  simp only [TextFrom] at h
  have hf:∀ (l:List (Option Nat × Eff)) (j:Nat) (s:St),k≤j→foldS (fun m=>decide (m<k+0)) j l s=s:=by
   intro l
   induction l with
   | nil=>intro j s _;rfl
   | cons p r ih =>
    intro j s hj
    have:¬ j<k+0:=by omega
    simp only [foldS,this,decide_false]
    exact ih (j+1) s (by omega)
  rw [hf _ k σ (Nat.le_refl _)]
  exact h.1
 | o'::l,e'::es,k,σ,h,i+1,o,e,ho,he=>by
  simp only [TextFrom] at h
  have:=text_at l es (k+1) _ h.2 i o e (by simpa using ho) (by simpa using he)
  simp only [zipD,List.map_cons,List.zip_cons_cons,foldS]
  have hk:k<k+(i+1):=by omega
  simp only [hk,decide_true,if_true]
  rw [show k+(i+1)=k+1+i by omega]
  simpa [zipD] using this
theorem count_set:∀ (l:List Bool) (i:Nat),l[i]? = some false→(l.set i true).count false+1=l.count false
 | [],i,h=>by simp at h
 | b::l,0,h=>by
  simp only [List.getElem?_cons_zero,Option.some.injEq] at h
  subst h
  simp
 | b::l,i+1,h=>by
  have:=count_set l i (by simpa using h)
  simp only [List.set_cons_succ,List.count_cons]
  omega
section
variable {X:Env1} {C:Ctx}
theorem draw_any (hT:TOK X.P X.T) (hg:GOK X.gl C.E0.H) (hnt:C.nt=X.nt) {ops:List Oper} {es:List Eff} {σ:St} {Q:Exit→Act→World→Prop} (hlen:es.length=ops.length)
  (htext:TextFrom X ops ops es σ) (hcheck:checkDraw ops es=true)
  (hQ:∀ E a w,Ga C E (foldS (fun _=>true) 0 (zipD ops es) σ) a w→Q .normal a w) :
  ∀ (fuel:Nat) (listed:Array Bool) (E:Env) (a:Act) (w:World),listed.size=ops.length→listed.toList.count false≤fuel →
   (∀ j,listed.getD j false=true→∀ i,((masks ops []).getD j 0).testBit i=true→listed.getD i false=true) →
   Ga C E (foldS (fun m=>listed.getD m false) 0 (zipD ops es) σ) a w→wpAny X.P .any ops.toArray Q fuel listed a w:=by
 -- what the check says
 have hck:∀ (j:Nat) (oj:Oper) (ej:Eff),ops[j]? = some oj→es[j]? = some ej→(∀ d∈edges oj,d<j) ∧ ∀ (i:Nat) (oi:Oper) (ei:Eff),i<j→ops[i]? = some oi→es[i]? = some ei→conflict ops.toArray oi ei oj ej=true→((masks ops []).getD j 0).testBit i=true:=by
  intro j oj ej hoj hej
  have hjl:j<ops.length:=(List.getElem?_eq_some_iff.1 hoj).1
  unfold checkDraw at hcheck
  rw [List.all_eq_true] at hcheck
  have hj:=hcheck j (by simpa using hjl)
  simp only [hoj,hej,Bool.and_eq_true] at hj
  refine⟨fun d hd=>by simpa using List.all_eq_true.1 hj.1 d hd,?_⟩
  intro i oi ei hij hoi hei hcf
  have hi:=List.all_eq_true.1 hj.2 i (by simpa using hij)
  simp only [hoi,hei,hcf,Bool.not_true,Bool.false_or] at hi
  exact hi
 have hget:∀ (i:Nat) (o:Oper) (e:Eff),ops[i]? = some o→es[i]? = some e→(zipD ops es)[i]? = some (o.dst,e):=by
  intro i o e ho he
  simp [zipD,List.getElem?_zip_eq_some,ho,he]
 have hget':∀ (i:Nat) (d:Option Nat) (e:Eff),(zipD ops es)[i]? = some (d,e)→∃ o,ops[i]? = some o∧o.dst=d∧es[i]? = some e:=by
  intro i d e h
  simp only [zipD,List.getElem?_zip_eq_some,List.getElem?_map,Option.map_eq_some_iff] at h
  obtain⟨⟨o,ho,hd⟩,he⟩:=h
  exact⟨o,ho,hd,he⟩
 -- the bits of an operation that is ready
 have hready:∀ (S:Nat→Bool) (j:Nat) (oj:Oper),ops[j]? = some oj→(∀ d∈edges oj,S d=true)→(∀ k,S k=true→∀ i,((masks ops []).getD k 0).testBit i=true→S i=true)→∀ i,((masks ops []).getD j 0).testBit i=true→S i=true:=by
  intro S j oj hoj hed hcl i hbit
  obtain⟨ms',h1,h2⟩:=masks_at ops [] j oj hoj
  simp only [List.length_nil,Nat.zero_add] at h1
  rw [List.getD_eq_getElem?_getD,h1] at hbit
  simp only [Option.getD_some] at hbit
  rcases maskOf_bit ms' i _ 0 hbit with h0|⟨d,hd,h0⟩
  ·simp at h0
  ·rcases h0 with rfl|h0
   ·exact hed d hd
   ·rcases h2 d with h3|h3
    ·rw [h3] at h0;simp at h0
    ·rw [h3] at h0
     exact hcl d (hed d hd) i h0
 have hallQ:∀ (listed:Array Bool) (E:Env) (a:Act) (w:World),listed.size=ops.length→(∀ i,i<ops.length→listed.getD i false=true)→Ga C E (foldS (fun m=>listed.getD m false) 0 (zipD ops es) σ) a w→Q .normal a w:=by
  intro listed E a w hs hall hG
  refine hQ E a w (hG.of_ext ?_ ?_ ?_)
  ·intro t
   refine foldS_slot t _ 0 σ σ (fun i d e hi _ => ?_) rfl
   obtain⟨o,ho,_⟩:=hget' i d e hi
   rw [Nat.zero_add,hall i (List.getElem?_eq_some_iff.1 ho).1]
  ·intro n
   refine foldS_obj n _ 0 σ σ (fun i d e hi _ => ?_) rfl
   obtain⟨o,ho,_⟩:=hget' i d e hi
   rw [Nat.zero_add,hall i (List.getElem?_eq_some_iff.1 ho).1]
  ·intro n hn
   rw [foldS_used] at hn ⊢
   rcases hn with hn|⟨i,d,e,hi,_,hne⟩
   ·exact .inl hn
   ·exact .inr ⟨i,d,e,hi,rfl,hne⟩
 have hnil:∀ (listed:Array Bool),listed.size=ops.length→Region.ready .any ops.toArray listed=[]→∀ i,i<ops.length→listed.getD i false=true:=by
  intro listed hs hnil i
  induction i using Nat.strongRecOn with
  | _ i ih =>
   intro hi
   cases hb:listed.getD i false with
   | true=>rfl
   | false =>
    exfalso
    have hoi:ops[i]? = some ops[i]:=List.getElem?_eq_getElem hi
    have hei:es[i]? = some es[i]:=List.getElem?_eq_getElem (by omega)
    have hmem:i∈Region.ready .any ops.toArray listed:=by
     unfold Region.ready
     rw [List.mem_filter]
     refine⟨by simpa using hi,?_⟩
     have h1:listed.getD i true=false:=by
      rw [Array.getD_eq_getD_getElem?] at hb ⊢
      rw [Array.getElem?_eq_getElem (by omega)] at hb ⊢
      simpa using hb
     simp only [h1,Bool.not_false,Bool.true_and,List.getElem?_toArray,hoi,Option.map_some,Option.getD_some]
     rw [Array.all_eq_true']
     intro ed hed
     by_cases hbd:Region.binds .any ed=true
     ·have hlt:=(hck i _ _ hoi hei).1 ed.on (List.mem_map_of_mem (List.mem_filter.2 ⟨by simpa using hed,hbd⟩))
      rw [ih ed.on hlt (by omega)]
      simp
     ·simp [hbd]
    rw [hnil] at hmem
    simp at hmem
 intro fuel
 induction fuel with
 | zero =>
  intro listed E a w hs hcnt hcl hG
  have hall:∀ i,i<ops.length→listed.getD i false=true:=by
   intro i hi
   have h0:listed.toList.count false=0:=by omega
   rw [List.count_eq_zero] at h0
   rw [Array.getD_eq_getD_getElem?,Array.getElem?_eq_getElem (by omega)]
   simp only [Option.getD_some]
   cases hb:listed[i] with
   | true=>rfl
   | false=>exact absurd (by rw [← hb];simp) h0
  refine⟨?_,hallQ listed E a w hs hall hG⟩
  unfold Region.ready
  rw [List.filter_eq_nil_iff]
  intro i hi
  have hi':i<ops.length:=by simpa using hi
  have:=hall i hi'
  have h1:listed.getD i true=true:=by
   rw [Array.getD_eq_getD_getElem?] at this ⊢
   rw [Array.getElem?_eq_getElem (by omega)] at this ⊢
   simpa using this
  simp [h1]
 | succ fuel ih =>
  intro listed E a w hs hcnt hcl hG
  refine⟨fun hn=>hallQ listed E a w hs (hnil listed hs hn) hG,?_⟩
  intro i hi
  unfold Region.ready at hi
  rw [List.mem_filter] at hi
  obtain⟨hi,hrd⟩:=hi
  have hi:i<ops.length:=by simpa using hi
  have hoi:ops[i]? = some ops[i]:=List.getElem?_eq_getElem hi
  have hei:es[i]? = some es[i]:=List.getElem?_eq_getElem (by omega)
  generalize ops[i]=o at hoi hrd
  generalize es[i]=e at hei
  simp only [List.getElem?_toArray,hoi,Option.map_some,Option.getD_some,Bool.and_eq_true,Bool.not_eq_true'] at hrd
  obtain⟨hun,hpre⟩:=hrd
  have hSi:listed.getD i false=false:=by
   rw [Array.getD_eq_getD_getElem?] at hun ⊢
   rw [Array.getElem?_eq_getElem (by omega)] at hun ⊢
   simpa using hun
  have hed:∀ d∈edges o,listed.getD d false=true:=by
   intro d hd
   obtain⟨ed,hed,rfl⟩:=List.mem_map.1 hd
   obtain⟨hed,hbd⟩:=List.mem_filter.1 hed
   rw [Array.all_eq_true'] at hpre
   have:=hpre ed (by simpa using hed)
   simpa [hbd] using this
  have hbits:=hready (fun m=>listed.getD m false) i o hoi hed hcl
  -- conflicts
  have hbefore:∀ (j:Nat) (oj:Oper) (ej:Eff),j<i→ops[j]? = some oj→es[j]? = some ej→conflict ops.toArray oj ej o e=true→listed.getD j false=true :=
   fun j oj ej hj hoj hej hc=>hbits j ((hck i o e hoi hei).2 j oj ej hj hoj hej hc)
  have hafter:∀ (j:Nat) (oj:Oper) (ej:Eff),i<j→ops[j]? = some oj→es[j]? = some ej→conflict ops.toArray o e oj ej=true→listed.getD j false=false:=by
   intro j oj ej hj hoj hej hc
   cases hb:listed.getD j false with
   | false=>rfl
   | true =>
    have:=hcl j hb i ((hck j oj ej hoj hej).2 i o e hj hoi hei hc)
    rw [hSi] at this
    cases this
  have htx:=text_at ops es 0 σ htext i o e hoi hei
  rw [Nat.zero_add] at htx
  -- slots that are read
  have hslot:∀ t,t∈o.looksAt ops.toArray→getS (foldS (fun m=>decide (m<i)) 0 (zipD ops es) σ).slots t=getS (foldS (fun m=>listed.getD m false) 0 (zipD ops es) σ).slots t:=by
   intro t ht
   refine foldS_slot t _ 0 σ σ (fun j d e' hj hd => ?_) rfl
   rw [Nat.zero_add]
   obtain⟨oj,hoj,hdj,hej⟩:=hget' j d e' hj
   rw [hd] at hdj
   rcases Nat.lt_trichotomy j i with hlt|heq|hgt
   ·have hc:conflict ops.toArray oj e' o e=true:=by
     simp only [conflict,hdj,List.contains_eq_mem,ht,decide_true,Bool.true_or]
    rw [hbefore j oj e' hlt hoj hej hc]
    simp [hlt]
   ·subst heq
    rw [hSi]
    simp
   ·have hc:conflict ops.toArray o e oj e'=true:=by
     simp only [conflict,hdj,List.contains_eq_mem,ht,decide_true,Bool.or_true,Bool.true_or]
    rw [hafter j oj e' hgt hoj hej hc]
    simp;omega
  have hobj:∀ n,n∈e.rd→getO (foldS (fun m=>decide (m<i)) 0 (zipD ops es) σ).objs n=getO (foldS (fun m=>listed.getD m false) 0 (zipD ops es) σ).objs n:=by
   intro n hn
   refine foldS_obj n _ 0 σ σ (fun j d e' hj hd => ?_) rfl
   rw [Nat.zero_add]
   obtain⟨oj,hoj,hdj,hej⟩:=hget' j d e' hj
   rcases Nat.lt_trichotomy j i with hlt|heq|hgt
   ·have hc:conflict ops.toArray oj e' o e=true:=by
     simp only [conflict,Bool.or_eq_true,List.any_eq_true]
     exact .inl (.inr ⟨n,hd,.inl (by simpa using hn)⟩)
    rw [hbefore j oj e' hlt hoj hej hc]
    simp [hlt]
   ·subst heq
    rw [hSi]
    simp
   ·have hc:conflict ops.toArray o e oj e'=true:=by
     simp only [conflict,Bool.or_eq_true,List.any_eq_true]
     exact .inr ⟨n,hd,by simpa using hn⟩
    rw [hafter j oj e' hgt hoj hej hc]
    simp;omega
  have hval:∀ x∈o.op.operands,(foldS (fun m=>decide (m<i)) 0 (zipD ops es) σ).val X.gl x=(foldS (fun m=>listed.getD m false) 0 (zipD ops es) σ).val X.gl x:=by
   intro x hx
   cases x with
   | tmp t =>
    refine hslot t ?_
    simp only [Oper.looksAt,List.mem_append,List.mem_filterMap]
    exact .inl ⟨.tmp t,by simpa using hx,rfl⟩
   | const v=>rfl
   | func f=>rfl
   | global g=>rfl
  -- new names
  have hnw:∀ (j:Nat) (oj:Oper) (ej:Eff),ops[j]? = some oj→es[j]? = some ej→∀ n∈ej.nw,n ∉ (foldS (fun m=>decide (m<j)) 0 (zipD ops es) σ).used:=by
   intro j oj ej hoj hej n hn
   have:=text_at ops es 0 σ htext j oj ej hoj hej
   rw [Nat.zero_add] at this
   have key:∀ s,OpW X oj s ej→∀ n∈ej.nw,n ∉ s.used:=by
    intro s hw
    cases hw with
    | step r hs hc hnn=>exact hnn
    | call f args objs x objs' hf hac hsub hnn=>exact hnn
    | callR f args ro objs x objs' hf hac hro hsub hnn=>exact hnn
   rcases this.2 with ⟨_,hw⟩|⟨_,_,_,_,_,⟨_,hw⟩|⟨_,rfl⟩⟩|⟨_,_,_,_,rfl⟩
   ·exact key _ hw n hn
   ·exact key _ hw n hn
   ·simp [skipE] at hn
   ·simp [skipE] at hn
  have hnew:∀ n∈e.nw,n ∉ (foldS (fun m=>listed.getD m false) 0 (zipD ops es) σ).used:=by
   intro n hn hu
   rw [foldS_used] at hu
   have h0:=hnw i o e hoi hei n hn
   rw [foldS_used] at h0
   simp only [not_or,not_exists,not_and] at h0
   rcases hu with hu|⟨j,d,ej,hj,hSj,hnj⟩
   ·exact h0.1 hu
   ·rw [Nat.zero_add] at hSj
    obtain⟨oj,hoj,hdj,hej⟩:=hget' j d ej hj
    rcases Nat.lt_trichotomy j i with hlt|heq|hgt
    ·exact h0.2 j d ej hj (by simpa using hlt) hnj
    ·subst heq;rw [hSi] at hSj;cases hSj
    ·have h1:=hnw j oj ej hoj hej n hnj
     rw [foldS_used] at h1
     simp only [not_or,not_exists,not_and] at h1
     exact h1.2 i o.dst e (hget i o e hoi hei) (by simpa using hgt) hn
  have hd:∀ d,o.dst=some d→d<C.nt:=by
   intro d hd'
   have:=htx.1
   rw [hd'] at this
   rw [hnt]
   exact this
  -- the state behind it
  have hnext:∀ E' a' w',Ga C E' ((foldS (fun m=>listed.getD m false) 0 (zipD ops es) σ).eff o.dst e) a' w'→wpAny X.P .any ops.toArray Q fuel (listed.setIfInBounds i true) a' w':=by
   intro E' a' w' hG'
   have hS':(fun m=>(listed.setIfInBounds i true).getD m false)=fun m=>m == 0+i || listed.getD m false:=by
    funext m
    rw [Nat.zero_add,Array.getD_eq_getD_getElem?,Array.getD_eq_getD_getElem?]
    by_cases e1:m=i
    ·subst e1
     rw [Array.getElem?_setIfInBounds_self_of_lt (by omega)]
     simp
    ·rw [Array.getElem?_setIfInBounds_ne (fun h=>e1 h.symm)]
     simp [e1]
   refine ih (listed.setIfInBounds i true) E' a' w' (by simpa using hs) ?_ ?_ ?_
   ·have:=count_set listed.toList i (by
     rw [Array.getElem?_toList,Array.getElem?_eq_getElem (by omega)]
     rw [Array.getD_eq_getD_getElem?,Array.getElem?_eq_getElem (by omega)] at hSi
     simpa using hSi)
    rw [Array.toList_setIfInBounds]
    omega
   ·intro j hj k hk
    have e1:∀ m,(listed.setIfInBounds i true).getD m false=(m == 0+i || listed.getD m false):=fun m=>congrFun hS' m
    rw [e1] at hj ⊢
    simp only [Nat.zero_add,Bool.or_eq_true,beq_iff_eq] at hj ⊢
    right
    rcases hj with rfl|hj
    ·exact hbits k hk
    ·exact hcl j hj k hk
   ·rw [hS']
    refine hG'.of_ext ?_ ?_ ?_
    ·intro t
     rw [foldS_slot_add t _ 0 i o.dst e σ (hget i o e hoi hei) (by simpa using hSi)]
     ·simp [St.eff,getS_putS]
     ·intro hdt j d' e' hij hj hSj hd'
      rw [Nat.zero_add] at hSj
      obtain⟨oj,hoj,hdj,hej⟩:=hget' j d' e' hj
      rw [hd'] at hdj
      have hc:conflict ops.toArray o e oj e'=true:=by simp [conflict,hdt,hdj]
      have:=hafter j oj e' hij hoj hej hc
      rw [hSj] at this
      cases this
    ·intro n
     rw [foldS_obj_add n _ 0 i o.dst e σ (hget i o e hoi hei) (by simpa using hSi)]
     ·simp only [St.eff,getO_updAll]
      cases lookW e.wr n<;>rfl
     ·intro hdt j d' e' hij hj hSj hd'
      rw [Nat.zero_add] at hSj
      obtain⟨oj,hoj,hdj,hej⟩:=hget' j d' e' hj
      have hc:conflict ops.toArray o e oj e'=true:=by
       simp only [conflict,Bool.or_eq_true,List.any_eq_true]
       exact .inl (.inr ⟨n,hdt,.inr (by simpa using hd')⟩)
      have:=hafter j oj e' hij hoj hej hc
      rw [hSj] at this
      cases this
    ·intro n hn
     simp only [St.eff,List.mem_append] at hn
     rw [foldS_used]
     rw [foldS_used] at hn
     rcases hn with hn|hn|⟨j,d,ej,hj,hSj,hnj⟩
     ·exact .inr ⟨i,o.dst,e,hget i o e hoi hei,by simp,hn⟩
     ·exact .inl hn
     ·exact .inr ⟨j,d,ej,hj,by rw [hSj];simp,hnj⟩
  unfold wpOp
  simp only [List.getElem?_toArray,hoi]
  have hrun:OpW X o (foldS (fun m=>decide (m<i)) 0 (zipD ops es) σ) e→o.wp X.P a w (wpAny X.P .any ops.toArray Q fuel (listed.setIfInBounds i true)) Q:=fun hw =>
   (hw.congr ⟨hval,hobj,hnew⟩).sound hT hg hG hd hnext
  rcases htx.2 with ⟨hgn,hw⟩|⟨j,want,b,hgs,hgv,hor⟩|⟨j,want,hgs,hgv,rfl⟩
  ·rw [if_pos (by simp [Region.wanted,hgn])]
   exact .inl (hrun hw)
  ·have hgv':gv ops (foldS (fun m=>listed.getD m false) 0 (zipD ops es) σ) j = .pv (.bool b):=by
    rw [← hgv]
    unfold gv
    split
    ·rename_i oj hoj
     split
     ·rename_i d hdj
      refine (hslot d ?_).symm
      simp only [Oper.looksAt,List.mem_append]
      right
      simp [hgs,hoj,hdj]
     ·rfl
    ·rfl
   have hy:=yield_of hG hgv'
   rcases hor with ⟨hbw,hw⟩|⟨hbw,rfl⟩
   ·rw [if_pos (by simp [Region.wanted,hgs,hy,hbw])]
    exact .inl (hrun hw)
   ·rw [if_neg (by simp [Region.wanted,hgs,hy,hbw])]
    exact hnext E _ w (skip_ga hG hd)
  ·have hgv':gv ops (foldS (fun m=>listed.getD m false) 0 (zipD ops es) σ) j = .pv (.tuple []):=by
    rw [← hgv]
    unfold gv
    split
    ·rename_i oj hoj
     split
     ·rename_i d hdj
      refine (hslot d ?_).symm
      simp only [Oper.looksAt,List.mem_append]
      right
      simp [hgs,hoj,hdj]
     ·rfl
    ·rfl
   have hy:=yield_none hG hgv'
   rw [if_neg (by simp [Region.wanted,hgs,hy])]
   exact hnext E _ w (skip_ga hG hd)
end
inductive AEx where
 | normal
 | exit (id:Nat)
 | ret
 | panic (p:PV)
def ERel (E:Env):AEx→Exit→Prop
 | .normal,e=>e = .normal
 | .exit i,e=>e = .exit i
 | .ret,e=>e = .ret
 | .panic p,e => ∃ v,e = .panic [{ v,recovered:=false }]∧RepP E.H p v
structure COK (X:Env1) (C:Ctx):Prop where
 glob:GOK X.gl C.E0.H
 nt:C.nt=X.nt
 given:∀ n o,getO C.given n=some o→n∈X.given
 ms:∀ n∈C.ms,n∈X.given
 defs:∀ n∈namesD C.defs,n∈X.given
def APost (C:Ctx) (Q:AEx→St→Prop) (e:Exit) (a:Act) (w:World):Prop:=∃ E σ ae,Ga C E σ a w∧ERel E ae e∧Q ae σ
def AWP (X:Env1) (c:Code) (σ:St) (Q:AEx→St→Prop):Prop :=
 ∀ C E a w,COK X C→Ga C E σ a w→c.wp X.P (APost C Q) a w
def thenQ (next:St→Prop) (Q:AEx→St→Prop):AEx→St→Prop
 | .normal,σ=>next σ
 | e,σ=>Q e σ
def blockQ (id:Nat) (Q:AEx→St→Prop):AEx→St→Prop
 | .exit i,σ=>if i=id then Q .normal σ else Q (.exit i) σ
 | e,σ=>Q e σ
@[congr] theorem thenQ_congr {next:St→Prop} {Q:AEx→St→Prop} {e e':AEx} {σ σ':St} (h:e=e') (h':σ=σ'):thenQ next Q e σ=thenQ next Q e' σ':=by rw [h,h']
@[congr] theorem blockQ_congr {id:Nat} {Q:AEx→St→Prop} {e e':AEx} {σ σ':St} (h:e=e') (h':σ=σ'):blockQ id Q e σ=blockQ id Q e' σ':=by rw [h,h']
@[congr] theorem AWP_congr {X:Env1} {c:Code} {σ σ':St} {Q:AEx→St→Prop} (h:σ=σ'):AWP X c σ Q=AWP X c σ' Q:=by rw [h]
theorem thenQ_panic (next:St→Prop) (Q:AEx→St→Prop) (p:PV) (σ:St):thenQ next Q (.panic p) σ=Q (.panic p) σ:=rfl
theorem blockQ_same (id:Nat) (Q:AEx→St→Prop) (σ:St):blockQ id Q (.exit id) σ=Q .normal σ:=by simp [blockQ]
theorem blockQ_other {id i:Nat} (h:(i == id)=false) (Q:AEx→St→Prop) (σ:St):blockQ id Q (.exit i) σ=Q (.exit i) σ:=by
 have:¬ i=id:=by simpa using h
 simp [blockQ,this]
theorem blockQ_panic (id:Nat) (Q:AEx→St→Prop) (p:PV) (σ:St):blockQ id Q (.panic p) σ=Q (.panic p) σ:=rfl
def caseB (v:V) (yes no:Prop):Prop:=match v with
 | .pv (.bool b)=>(b=true→yes)∧(b=false→no)
 | _=>False
theorem caseB_true (yes no:Prop):caseB (.pv (.bool true)) yes no=yes:=by simp [caseB]
theorem caseB_false (yes no:Prop):caseB (.pv (.bool false)) yes no=no:=by simp [caseB]
theorem caseB_dec {p:Prop} [Decidable p] {yes no:Prop} (h1:p→yes) (h2:¬ p→no):caseB (.pv (.bool (decide p))) yes no:=⟨fun h=>h1 (by simpa using h),fun h=>h2 (by simpa using h)⟩
@[congr] theorem caseB_congr {v v':V} {yes no:Prop} (h:v=v'):caseB v yes no=caseB v' yes no:=by rw [h]
def exec (X:Env1):Code→St→(AEx→St→Prop)→Prop
 | .skip,σ,Q=>Q .normal σ
 | .seq a b,σ,Q=>exec X a σ (thenQ (fun σ'=>exec X b σ' Q) Q)
 | .cond c x y,σ,Q=>caseB (σ.val X.gl c) (exec X x σ Q) (exec X y σ Q)
 | .block id b,σ,Q=>exec X b σ (blockQ id Q)
 | .exit id,σ,Q=>Q (.exit id) σ
 | .ret,σ,Q=>Q .ret σ
 | .region _ ops false,σ,Q=>runOps X false ops.toList (fun σ' _=>Q .normal σ') (fun p σ'=>Q (.panic p) σ') ops.toList σ []
 | .region _ ops true,σ,Q=>runOps X true ops.toList (fun σ' tr=>checkDraw ops.toList tr=true∧Q .normal σ') (fun _ _=>False) ops.toList σ []
 | .loop b,σ,Q=>AWP X (.loop b) σ Q
 | _,_,_=>False
@[congr] theorem exec_congr {X:Env1} {c:Code} {σ σ':St} {Q:AEx→St→Prop} (h:σ=σ'):exec X c σ Q=exec X c σ' Q:=by rw [h]
theorem AWP.mono {X:Env1} {c:Code} {σ:St} {Q Q':AEx→St→Prop} (h:AWP X c σ Q) (hq:∀ e σ,Q e σ→Q' e σ):AWP X c σ Q' :=
 fun C E a w hC hG=>wp_mono (h C E a w hC hG) fun _ _ _ ⟨E',σ',ae,h1,h2,h3⟩=>⟨E',σ',ae,h1,h2,hq _ _ h3⟩
theorem AWP.seq {X:Env1} {x y:Code} {σ:St} {Q:AEx→St→Prop} (h:AWP X x σ (thenQ (fun σ'=>AWP X y σ' Q) Q)):AWP X (.seq x y) σ Q:=by
 intro C E a w hC hG
 refine wp_seq (wp_mono (h C E a w hC hG) ?_)
 rintro e a' w' ⟨E',σ',ae,hG',hr,hq⟩
 cases ae with
 | normal=>cases hr;exact hq C E' a' w' hC hG'
 | exit i=>cases hr;exact⟨E',σ',.exit i,hG',rfl,hq⟩
 | ret=>cases hr;exact⟨E',σ',.ret,hG',rfl,hq⟩
 | panic p=>obtain⟨v,rfl,hv⟩:=hr;exact⟨E',σ',.panic p,hG',⟨v,rfl,hv⟩,hq⟩
theorem AWP.block {X:Env1} {id:Nat} {x:Code} {σ:St} {Q:AEx→St→Prop} (h:AWP X x σ (blockQ id Q)):AWP X (.block id x) σ Q:=by
 intro C E a w hC hG
 refine wp_block (wp_mono (h C E a w hC hG) ?_)
 rintro e a' w' ⟨E',σ',ae,hG',hr,hq⟩
 cases ae with
 | normal=>cases hr;exact⟨E',σ',.normal,hG',rfl,hq⟩
 | exit i =>
  cases hr
  simp only [blockQ] at hq
  simp only [Exit.inBlock]
  split
  ·rename_i e;rw [if_pos e] at hq;exact⟨E',σ',.normal,hG',rfl,hq⟩
  ·rename_i e;rw [if_neg e] at hq;exact⟨E',σ',.exit i,hG',rfl,hq⟩
 | ret=>cases hr;exact⟨E',σ',.ret,hG',rfl,hq⟩
 | panic p=>obtain⟨v,rfl,hv⟩:=hr;exact⟨E',σ',.panic p,hG',⟨v,rfl,hv⟩,hq⟩
theorem exec_sound {X:Env1} (hT:TOK X.P X.T) (hm:X.P.follows .mixedOrders=true):∀ (c:Code) (σ:St) (Q:AEx→St→Prop),exec X c σ Q→AWP X c σ Q
 | .skip,σ,Q,h=>fun C E a w hC hG=>wp_skip ⟨E,σ,.normal,hG,rfl,h⟩
 | .seq x y,σ,Q,h=>by
  simp only [exec] at h
  refine AWP.seq (AWP.mono (exec_sound hT hm x σ _ h) ?_)
  intro e σ' hq
  cases e with
  | normal=>exact exec_sound hT hm y σ' Q hq
  | exit i=>exact hq
  | ret=>exact hq
  | panic p=>exact hq
 | .cond c x y,σ,Q,h=>by
  intro C E a w hC hG
  simp only [exec] at h
  have hv:=val_rep hG hC.glob c
  unfold caseB at h
  split at h
  ·rename_i b e
   rw [e] at hv
   exact wp_cond_split (rep_bool hv) (fun hb=>exec_sound hT hm x σ Q (h.1 hb) C E a w hC hG) (fun hb=>exec_sound hT hm y σ Q (h.2 hb) C E a w hC hG)
  ·cases h
 | .block id x,σ,Q,h=>by
  simp only [exec] at h
  exact AWP.block (exec_sound hT hm x σ _ h)
 | .exit id,σ,Q,h=>fun C E a w hC hG=>wp_exit ⟨E,σ,.exit id,hG,rfl,h⟩
 | .ret,σ,Q,h=>fun C E a w hC hG=>wp_ret ⟨E,σ,.ret,hG,rfl,h⟩
 | .region id ops false,σ,Q,h=>by
  intro C E a w hC hG
  simp only [exec] at h
  refine wp_region_list ?_
  have:=runOps_seq (X:=X) (C:=C) (Q:=APost C Q) hT hC.glob hC.nt (ops:=ops.toList) (fun E σ tr a w hG hK=>⟨E,σ,.normal,hG,rfl,hK⟩) (fun E σ p v a w hG hq hv=>⟨E,σ,.panic p,hG,⟨v,rfl,hv⟩,hq⟩) ops.toList σ [] E a w h hG
  simpa using this
 | .region id ops true,σ,Q,h=>by
  intro C E a w hC hG
  simp only [exec] at h
  obtain⟨es,hl,ht,hc,hq⟩:=runOps_text _ _ _ h
  simp only [List.nil_append] at hc
  refine wp_region_any hm ?_
  have hG':Ga C E σ a { w with drawn:=w.drawn+1 }:=hG.drew
  have:=draw_any (X:=X) (C:=C) (Q:=APost C Q) hT hC.glob hC.nt hl ht hc (fun E a w hG=>⟨E,_,.normal,hG,rfl,hq⟩) ops.size (Array.replicate ops.size false) E a _ (by simp) (by
   simp [List.count_replicate]) (by
   intro j hj i _
   rw [Array.getD_eq_getD_getElem?] at hj
   by_cases hlt:j<ops.size
   ·rw [Array.getElem?_replicate,if_pos hlt] at hj;simp at hj
   ·rw [Array.getElem?_replicate,if_neg hlt] at hj;simp at hj) (hG'.of_ext (by
    intro t
    rw [foldS_slot (S':=fun _=>false) t _ 0 σ σ (fun i d e _ _ => ?_) rfl]
    ·have hf:∀ (r:List (Option Nat × Eff)) (k:Nat) (s:St),foldS (fun _=>false) k r s=s:=by
      intro r;induction r with
      | nil=>intro k s;rfl
      | cons p r ih=>intro k s;simp [foldS,ih]
     rw [hf]
    ·rw [Array.getD_eq_getD_getElem?,Array.getElem?_replicate]
     split<;>rfl) (by
    intro n
    rw [foldS_obj (S':=fun _=>false) n _ 0 σ σ (fun i d e _ _ => ?_) rfl]
    ·have hf:∀ (r:List (Option Nat × Eff)) (k:Nat) (s:St),foldS (fun _=>false) k r s=s:=by
      intro r;induction r with
      | nil=>intro k s;rfl
      | cons p r ih=>intro k s;simp [foldS,ih]
     rw [hf]
    ·rw [Array.getD_eq_getD_getElem?,Array.getElem?_replicate]
     split<;>rfl) (by
    intro n hn
    rw [foldS_used]
    exact .inl hn))
  simpa using this
 | .loop b,σ,Q,h=>h
 | .rangeFunc _ _ _ _,_,_,h=>h.elim
 | .scope _,_,_,h=>h.elim
 | .label _,_,_,h=>h.elim
 | .goto _,_,_,h=>h.elim
 | .refuse _,_,_,h=>h.elim
def subL:List Nat→List Nat→Prop
 | [],_=>True
 | n::r,u=>n∈u∧subL r u
def slotsLe:List (Nat × V)→List (Nat × V)→Prop
 | [],_=>True
 | (t,x)::r,l=>getS l t=x∧slotsLe r l
def namesSl:List (Nat × V)→List Nat
 | []=>[]
 | (_,x)::r=>x.names++namesSl r
def namesOb:List (Nat × Ob)→List Nat
 | []=>[]
 | (n,o)::r=>n::o.names++namesOb r
structure Weak (X:Env1) (σ τ:St):Prop where
 slots:slotsLe τ.slots σ.slots
 objs:subO τ.objs σ.objs
 names:subL (namesSl τ.slots++namesOb τ.objs++X.given) τ.used
theorem subL_spec:∀ {l u:List Nat},subL l u→∀ n∈l,n∈u
 | [],_,_,n,h=>by simp at h
 | k::r,u,hf,n,h=>by
  simp only [subL] at hf
  rcases List.mem_cons.1 h with rfl|h
  ·exact hf.1
  ·exact subL_spec hf.2 n h
theorem slotsLe_spec:∀ {l m:List (Nat × V)},slotsLe l m→∀ t,getS l t = .undef∨getS l t=getS m t
 | [],_,_,t => .inl rfl
 | (k,x)::r,m,h,t=>by
  simp only [slotsLe] at h
  simp only [getS]
  split
  ·rename_i e;subst e;exact .inr h.1.symm
  ·exact slotsLe_spec h.2 t
theorem namesSl_get {l:List (Nat × V)} {t n:Nat} (h:n∈(getS l t).names):n∈namesSl l:=by
 induction l with
 | nil=>simp [getS,V.names] at h
 | cons p r ih =>
  obtain⟨k,x⟩:=p
  simp only [getS] at h
  simp only [namesSl,List.mem_append]
  split at h
  ·exact .inl h
  ·exact .inr (ih h)
theorem namesOb_get {l:List (Nat × Ob)} {m:Nat} {o:Ob} (h:getO l m=some o):m∈namesOb l ∧ ∀ n∈o.names,n∈namesOb l:=by
 induction l with
 | nil=>simp [getO] at h
 | cons p r ih =>
  obtain⟨k,x⟩:=p
  simp only [getO] at h
  split at h
  ·rename_i e;cases h;subst e
   exact⟨by simp [namesOb],fun n hn=>by simp [namesOb,hn]⟩
  ·obtain⟨h1,h2⟩:=ih h
   exact⟨by simp [namesOb,h1],fun n hn=>by simp [namesOb,h2 n hn]⟩
theorem Weak.ga {X:Env1} {σ τ:St} (h:Weak X σ τ) {C:Ctx} (hC:COK X C) {E:Env} {a:Act} {w:World} (hG:Ga C E σ a w):Ga C E τ a w:=by
 have hs:=slotsLe_spec h.slots
 have ho:=subO_spec h.objs
 have hn:=subL_spec h.names
 refine⟨?_,hG.size,⟨hG.defers.1,fun n hm=>hn n (by simp [hC.defs n hm])⟩,hG.heap,fun n o hno=>hG.objs n o (ho n o hno),fun n m o o' hno hmo=>hG.apart n m o o' (ho n o hno) (ho m o' hmo),?_,?_,?_,hG.grown,hG.rest,hG.same,hG.hle,fun n o b hno=>hG.own n o b (ho n o hno),hG.ext,fun n hm=>⟨hn n (by simp [hC.ms n hm]),?_,(hG.keep n hm).2.2⟩⟩
 rotate_left 4
 ·cases e:getO τ.objs n with
  | none=>rfl
  | some o =>
   have:=ho n o e
   rw [(hG.keep n hm).2.1] at this
   cases this
 ·intro t
  rcases hs t with e|e
  ·rw [e];simp [RepV]
  ·rw [e];exact hG.slots t
 ·intro t n hnn
  exact hn n (by simp [namesSl_get hnn])
 ·intro n o hno
  obtain⟨h1,h2⟩:=namesOb_get hno
  exact⟨hn n (by simp [h1]),fun m hm=>hn m (by simp [h2 m hm])⟩
 ·intro n o hno
  exact hn n (by simp [hC.given n o hno])
theorem AWP.weaken {X:Env1} {c:Code} {σ τ:St} {Q:AEx→St→Prop} (hw:Weak X σ τ) (h:AWP X c τ Q):AWP X c σ Q :=
 fun C E a w hC hG=>h C E a w hC (hw.ga hC hG)
theorem exists_least {p:Nat→Prop} (h:∃ m,p m):∃ m,p m ∧ ∀ k,p k→m≤k:=by
 obtain⟨m,hm⟩:=h
 induction m using Nat.strongRecOn with
 | _ m ih =>
  by_cases hk:∃ k,k<m∧p k
  ·obtain⟨k,hlt,hp⟩:=hk
   exact ih k hlt hp
  ·refine⟨m,hm,fun k hp => ?_⟩
   apply Nat.le_of_not_lt
   intro hlt
   exact hk ⟨k,hlt,hp⟩
open Classical in
theorem AWP.loop {X:Env1} {b:Code} {σ:St} {Q:AEx→St→Prop} {ι:Type} (I:ι→St) (μ:ι→Nat) (i₀:ι) (h0:Weak X σ (I i₀))
  (hr:∀ i,AWP X b (I i) (thenQ (fun σ' => ∃ j,μ j<μ i∧Weak X σ' (I j)) Q)):AWP X (.loop b) σ Q:=by
 intro C E a w hC hG
 let ok (a:Act) (w:World) (m:Nat):Prop:=∃ i E,Ga C E (I i) a w∧μ i=m
 let M (a:Act) (w:World):Nat:=if h:∃ m,ok a w m then Classical.choose (exists_least h) else 0
 have hMs:∀ a w (h:∃ m,ok a w m),ok a w (M a w) ∧ ∀ k,ok a w k→M a w≤k:=by
  intro a w h
  have:M a w=Classical.choose (exists_least h):=by simp only [M];rw [dif_pos h]
  rw [this]
  exact Classical.choose_spec (exists_least h)
 refine wp_loop (fun a w => ∃ m,ok a w m) M ⟨μ i₀,i₀,E,h0.ga hC hG,rfl⟩ ?_
 intro a w hI
 obtain⟨⟨i,E,hG,hi⟩,_⟩:=hMs a w hI
 refine wp_mono (hr i C E a w hC hG) ?_
 rintro e a' w' ⟨E',σ',ae,hG',hrel,hq⟩
 cases ae with
 | normal =>
  cases hrel
  obtain⟨j,hj,hw⟩:=hq
  have hok:∃ m,ok a' w' m:=⟨μ j,j,E',hw.ga hC hG',rfl⟩
  refine⟨hok,?_⟩
  rw [← hi]
  exact Nat.lt_of_le_of_lt ((hMs a' w' hok).2 _ ⟨j,E',hw.ga hC hG',rfl⟩) hj
 | exit i=>cases hrel;exact⟨E',σ',.exit i,hG',rfl,hq⟩
 | ret=>cases hrel;exact⟨E',σ',.ret,hG',rfl,hq⟩
 | panic p=>obtain⟨v,rfl,hv⟩:=hrel;exact⟨E',σ',.panic p,hG',⟨v,rfl,hv⟩,hq⟩
end Go.Lg
