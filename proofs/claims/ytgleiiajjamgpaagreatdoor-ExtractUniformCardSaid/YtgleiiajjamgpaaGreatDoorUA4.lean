/- The logic of contracts; no conditions. -/
import Derived.Test.YtgleiiajjamgpaaGreatDoorUA3
import Derived.LoopN
import Derived.Defers
import Derived.Recover
set_option linter.all false
namespace Go.Lg
def qGa (o:Oper):List Nat:=(o.after.toList.filter (Region.binds .any)).map (·.on)
def qO3 (ms:List Nat) (l:List Nat):Nat:=l.foldl (fun m i=>m ||| (1 <<< i) ||| ms.getD i 0) 0
def qKz:List Oper→List Nat→List Nat
 | [],ms=>ms
 | o::r,ms=>qKz r (ms++[qO3 ms (qGa o)])
def qQy (ops:Array Oper) (o1:Oper) (e1:Eff) (o2:Oper) (e2:Eff):Bool :=
 (match o1.dst with|some d=>(o2.looksAt ops).contains d || o2.dst == some d|none=>false) ||
 (match o2.dst with|some d=>(o1.looksAt ops).contains d|none=>false) ||
 e1.wn.any (fun n=>e2.rd.contains n || e2.wn.contains n) || e2.wn.any (fun n=>e1.rd.contains n)
def qWq (ops:List Oper) (es:List Eff):Bool :=
 (List.range ops.length).all fun j=>match ops[j]?,es[j]? with
  | some oj,some ej=>(qGa oj).all (fun i=>decide (i<j)) && (List.range j).all fun i=>match ops[i]?,es[i]? with
   | some oi,some ei => !qQy ops.toArray oi ei oj ej || ((qKz ops []).getD j 0).testBit i
   | _,_=>false
  | _,_=>false
theorem qDc (ms:List Nat) (i:Nat):∀ (l:List Nat) (m:Nat),(l.foldl (fun m i=>m ||| (1 <<< i) ||| ms.getD i 0) m).testBit i=true→m.testBit i=true ∨ ∃ d∈l,d=i∨(ms.getD d 0).testBit i=true
 | [],m,h => .inl h
 | d::l,m,h=>by
  simp only [List.foldl_cons] at h
  rcases qDc ms i l _ h with h|⟨d',hd',h⟩
  ·simp only [Nat.testBit_or,Bool.or_eq_true] at h
   rcases h with (h|h)|h
   ·exact .inl h
   ·right
    refine⟨d,by simp,.inl ?_⟩
    simp only [Nat.testBit_shiftLeft,Bool.and_eq_true,decide_eq_true_eq] at h
    obtain⟨h1,h2⟩:=h
    have:i-d=0:=by
     cases hq:i-d with
     | zero=>rfl
     | succ k=>rw [hq] at h2;simp [Nat.testBit_succ] at h2
    omega
   ·exact .inr ⟨d,by simp,.inr h⟩
  ·exact .inr ⟨d',by simp [hd'],h⟩
theorem qBd:∀ (l:List Oper) (ms:List Nat) (j:Nat),j<ms.length→(qKz l ms)[j]? = ms[j]?
 | [],_,_,_=>rfl
 | o::r,ms,j,h=>by
  simp only [qKz]
  rw [qBd r _ j (by simp;omega),List.getElem?_append_left h]
theorem qLk:∀ (l:List Oper) (ms:List Nat) (i:Nat) (o:Oper),l[i]? = some o→∃ ms',(qKz l ms)[ms.length+i]? = some (qO3 ms' (qGa o)) ∧ ∀ d,(ms'.getD d 0=0∨ms'.getD d 0=(qKz l ms).getD d 0)
 | [],_,_,_,h=>by simp at h
 | o'::r,ms,0,o,h=>by
  simp only [List.getElem?_cons_zero,Option.some.injEq] at h
  subst h
  simp only [qKz]
  refine⟨ms,?_,fun d => ?_⟩
  ·rw [qBd r _ _ (by simp)]
   simp
  ·by_cases hd:d<ms.length
   ·right
    rw [List.getD_eq_getElem?_getD,List.getD_eq_getElem?_getD,qBd r _ d (by simp;omega),List.getElem?_append_left hd]
   ·left
    rw [List.getD_eq_getElem?_getD,List.getElem?_eq_none (by omega)]
    rfl
 | o'::r,ms,i+1,o,h=>by
  simp only [qKz]
  have:=qLk r (ms++[qO3 ms (qGa o')]) i o (by simpa using h)
  simpa [Nat.add_assoc,Nat.add_comm 1 i] using this
def Txt (X:qZ5) (ops:List Oper) (o:Oper) (σ:St) (e:Eff):Prop :=
 zVz X o.dst∧((o.guard=none∧OpW X o σ e)∨(∃ j want b,o.guard=some (j,want)∧gv ops σ j = .pv (.bool b)∧((b=want∧OpW X o σ e)∨(b≠want∧e=qY6))) ∨ ∃ j want,o.guard=some (j,want)∧gv ops σ j = .pv (.tuple [])∧e=qY6)
def qZm (X:qZ5) (ops:List Oper):List Oper→List Eff→St→Prop
 | [],[],_=>True
 | o::l,e::es,σ=>Txt X ops o σ e∧qZm X ops l es (σ.eff o.dst e)
 | _,_,_=>False
def qXj (l:List Oper) (es:List Eff):List (Option Nat × Eff):=(l.map (·.dst)).zip es
theorem qIf {X:qZ5} {ops:List Oper} : ∀ (l:List Oper) (es:List Eff) (k:Nat) (σ:St),qZm X ops l es σ→∀ i o e,l[i]? = some o→es[i]? = some e →
  Txt X ops o (qQw (fun m=>decide (m<k+i)) k (qXj l es) σ) e
 | [],_,_,_,_,i,o,e,h,_=>by simp at h
 | o'::l,[],_,_,h,_,_,_,_,_=>by simp [qZm] at h
 | o'::l,e'::es,k,σ,h,0,o,e,ho,he=>by
  simp only [List.getElem?_cons_zero,Option.some.injEq] at ho he
  subst ho he
  simp only [qZm] at h
  have hf:∀ (l:List (Option Nat × Eff)) (j:Nat) (s:St),k≤j→qQw (fun m=>decide (m<k+0)) j l s=s:=by
   intro l
   induction l with
   | nil=>intro j s _;rfl
   | cons p r ih =>
    intro j s hj
    have:¬ j<k+0:=by omega
    simp only [qQw,this,decide_false]
    exact ih (j+1) s (by omega)
  rw [hf _ k σ (Nat.le_refl _)]
  exact h.1
 | o'::l,e'::es,k,σ,h,i+1,o,e,ho,he=>by
  simp only [qZm] at h
  have:=qIf l es (k+1) _ h.2 i o e (by simpa using ho) (by simpa using he)
  simp only [qXj,List.map_cons,List.zip_cons_cons,qQw]
  have hk:k<k+(i+1):=by omega
  simp only [hk,decide_true,if_true]
  rw [show k+(i+1)=k+1+i by omega]
  simpa [qXj] using this
theorem qGb:∀ (l:List Bool) (i:Nat),l[i]? = some false→(l.set i true).count false+1=l.count false
 | [],i,h=>by simp at h
 | b::l,0,h=>by
  simp only [List.getElem?_cons_zero,Option.some.injEq] at h
  subst h
  simp
 | b::l,i+1,h=>by
  have:=qGb l i (by simpa using h)
  simp only [List.set_cons_succ,List.count_cons]
  omega
section
variable {X:qZ5} {C:Ctx}
theorem qTr (hT:TOK X.P X.T) (hg:GOK X.gl C.E0.H) (hnt:C.nt=X.nt) {ops:List Oper} {es:List Eff} {σ:St} {Q:Exit→Act→World→Prop} (hlen:es.length=ops.length)
  (htext:qZm X ops ops es σ) (hcheck:qWq ops es=true)
  (hQ:∀ E a w,Ga C E (qQw (fun _=>true) 0 (qXj ops es) σ) a w→Q .normal a w) :
  ∀ (fuel:Nat) (listed:Array Bool) (E:Env) (a:Act) (w:World),listed.size=ops.length→listed.toList.count false≤fuel →
   (∀ j,listed.getD j false=true→∀ i,((qKz ops []).getD j 0).testBit i=true→listed.getD i false=true) →
   Ga C E (qQw (fun m=>listed.getD m false) 0 (qXj ops es) σ) a w→wpAny X.P .any ops.toArray Q fuel listed a w:=by
 -- what the check says
 have hck:∀ (j:Nat) (oj:Oper) (ej:Eff),ops[j]? = some oj→es[j]? = some ej→(∀ d∈qGa oj,d<j) ∧ ∀ (i:Nat) (oi:Oper) (ei:Eff),i<j→ops[i]? = some oi→es[i]? = some ei→qQy ops.toArray oi ei oj ej=true→((qKz ops []).getD j 0).testBit i=true:=by
  intro j oj ej hoj hej
  have hjl:j<ops.length:=(List.getElem?_eq_some_iff.1 hoj).1
  unfold qWq at hcheck
  rw [List.all_eq_true] at hcheck
  have hj:=hcheck j (by simpa using hjl)
  simp only [hoj,hej,Bool.and_eq_true] at hj
  refine⟨fun d hd=>by simpa using List.all_eq_true.1 hj.1 d hd,?_⟩
  intro i oi ei hij hoi hei hcf
  have hi:=List.all_eq_true.1 hj.2 i (by simpa using hij)
  simp only [hoi,hei,hcf,Bool.not_true,Bool.false_or] at hi
  exact hi
 have hget:∀ (i:Nat) (o:Oper) (e:Eff),ops[i]? = some o→es[i]? = some e→(qXj ops es)[i]? = some (o.dst,e):=by
  intro i o e ho he
  simp [qXj,List.getElem?_zip_eq_some,ho,he]
 have hget':∀ (i:Nat) (d:Option Nat) (e:Eff),(qXj ops es)[i]? = some (d,e)→∃ o,ops[i]? = some o∧o.dst=d∧es[i]? = some e:=by
  intro i d e h
  simp only [qXj,List.getElem?_zip_eq_some,List.getElem?_map,Option.map_eq_some_iff] at h
  obtain⟨⟨o,ho,hd⟩,he⟩:=h
  exact⟨o,ho,hd,he⟩
 -- the bits of an operation that is ready
 have hready:∀ (S:Nat→Bool) (j:Nat) (oj:Oper),ops[j]? = some oj→(∀ d∈qGa oj,S d=true)→(∀ k,S k=true→∀ i,((qKz ops []).getD k 0).testBit i=true→S i=true)→∀ i,((qKz ops []).getD j 0).testBit i=true→S i=true:=by
  intro S j oj hoj hed hcl i hbit
  obtain⟨ms',h1,h2⟩:=qLk ops [] j oj hoj
  simp only [List.length_nil,Nat.zero_add] at h1
  rw [List.getD_eq_getElem?_getD,h1] at hbit
  simp only [Option.getD_some] at hbit
  rcases qDc ms' i _ 0 hbit with h0|⟨d,hd,h0⟩
  ·simp at h0
  ·rcases h0 with rfl|h0
   ·exact hed d hd
   ·rcases h2 d with h3|h3
    ·rw [h3] at h0;simp at h0
    ·rw [h3] at h0
     exact hcl d (hed d hd) i h0
 have hallQ:∀ (listed:Array Bool) (E:Env) (a:Act) (w:World),listed.size=ops.length→(∀ i,i<ops.length→listed.getD i false=true)→Ga C E (qQw (fun m=>listed.getD m false) 0 (qXj ops es) σ) a w→Q .normal a w:=by
  intro listed E a w hs hall hG
  refine hQ E a w (hG.of_ext ?_ ?_ ?_)
  ·intro t
   refine qJp t _ 0 σ σ (fun i d e hi _ => ?_) rfl
   obtain⟨o,ho,_⟩:=hget' i d e hi
   rw [Nat.zero_add,hall i (List.getElem?_eq_some_iff.1 ho).1]
  ·intro n
   refine qVr n _ 0 σ σ (fun i d e hi _ => ?_) rfl
   obtain⟨o,ho,_⟩:=hget' i d e hi
   rw [Nat.zero_add,hall i (List.getElem?_eq_some_iff.1 ho).1]
  ·intro n hn
   rw [qZz] at hn ⊢
   rcases hn with hn|⟨i,d,e,hi,_,hne⟩
   ·exact .inl hn
   ·exact .inr ⟨i,d,e,hi,rfl,hne⟩
 have hnil:∀ (listed:Array Bool),listed.size=ops.length→Region.ready .any ops.toArray listed=[]→∀ i,i<ops.length→listed.getD i false=true:=by
  intro listed hs hnil i
  induction i using Nat.strongRecOn with
  | _ i ih =>
   intro hi
   cases hb:listed.getD i false with
   | true=>rfl
   | false =>
    exfalso
    have hoi:ops[i]? = some ops[i]:=List.getElem?_eq_getElem hi
    have hei:es[i]? = some es[i]:=List.getElem?_eq_getElem (by omega)
    have hmem:i∈Region.ready .any ops.toArray listed:=by
     unfold Region.ready
     rw [List.mem_filter]
     refine⟨by simpa using hi,?_⟩
     have h1:listed.getD i true=false:=by
      rw [Array.getD_eq_getD_getElem?] at hb ⊢
      rw [Array.getElem?_eq_getElem (by omega)] at hb ⊢
      simpa using hb
     simp only [h1,Bool.not_false,Bool.true_and,List.getElem?_toArray,hoi,Option.map_some,Option.getD_some]
     rw [Array.all_eq_true']
     intro ed hed
     by_cases hbd:Region.binds .any ed=true
     ·have hlt:=(hck i _ _ hoi hei).1 ed.on (List.mem_map_of_mem (List.mem_filter.2 ⟨by simpa using hed,hbd⟩))
      rw [ih ed.on hlt (by omega)]
      simp
     ·simp [hbd]
    rw [hnil] at hmem
    simp at hmem
 intro fuel
 induction fuel with
 | zero =>
  intro listed E a w hs hcnt hcl hG
  have hall:∀ i,i<ops.length→listed.getD i false=true:=by
   intro i hi
   have h0:listed.toList.count false=0:=by omega
   rw [List.count_eq_zero] at h0
   rw [Array.getD_eq_getD_getElem?,Array.getElem?_eq_getElem (by omega)]
   simp only [Option.getD_some]
   cases hb:listed[i] with
   | true=>rfl
   | false=>exact absurd (by rw [← hb];simp) h0
  refine⟨?_,hallQ listed E a w hs hall hG⟩
  unfold Region.ready
  rw [List.filter_eq_nil_iff]
  intro i hi
  have hi':i<ops.length:=by simpa using hi
  have:=hall i hi'
  have h1:listed.getD i true=true:=by
   rw [Array.getD_eq_getD_getElem?] at this ⊢
   rw [Array.getElem?_eq_getElem (by omega)] at this ⊢
   simpa using this
  simp [h1]
 | succ fuel ih =>
  intro listed E a w hs hcnt hcl hG
  refine⟨fun hn=>hallQ listed E a w hs (hnil listed hs hn) hG,?_⟩
  intro i hi
  unfold Region.ready at hi
  rw [List.mem_filter] at hi
  obtain⟨hi,hrd⟩:=hi
  have hi:i<ops.length:=by simpa using hi
  have hoi:ops[i]? = some ops[i]:=List.getElem?_eq_getElem hi
  have hei:es[i]? = some es[i]:=List.getElem?_eq_getElem (by omega)
  generalize ops[i]=o at hoi hrd
  generalize es[i]=e at hei
  simp only [List.getElem?_toArray,hoi,Option.map_some,Option.getD_some,Bool.and_eq_true,Bool.not_eq_true'] at hrd
  obtain⟨hun,hpre⟩:=hrd
  have hSi:listed.getD i false=false:=by
   rw [Array.getD_eq_getD_getElem?] at hun ⊢
   rw [Array.getElem?_eq_getElem (by omega)] at hun ⊢
   simpa using hun
  have hed:∀ d∈qGa o,listed.getD d false=true:=by
   intro d hd
   obtain⟨ed,hed,rfl⟩:=List.mem_map.1 hd
   obtain⟨hed,hbd⟩:=List.mem_filter.1 hed
   rw [Array.all_eq_true'] at hpre
   have:=hpre ed (by simpa using hed)
   simpa [hbd] using this
  have hbits:=hready (fun m=>listed.getD m false) i o hoi hed hcl
  -- conflicts
  have hbefore:∀ (j:Nat) (oj:Oper) (ej:Eff),j<i→ops[j]? = some oj→es[j]? = some ej→qQy ops.toArray oj ej o e=true→listed.getD j false=true :=
   fun j oj ej hj hoj hej hc=>hbits j ((hck i o e hoi hei).2 j oj ej hj hoj hej hc)
  have hafter:∀ (j:Nat) (oj:Oper) (ej:Eff),i<j→ops[j]? = some oj→es[j]? = some ej→qQy ops.toArray o e oj ej=true→listed.getD j false=false:=by
   intro j oj ej hj hoj hej hc
   cases hb:listed.getD j false with
   | false=>rfl
   | true =>
    have:=hcl j hb i ((hck j oj ej hoj hej).2 i o e hj hoi hei hc)
    rw [hSi] at this
    cases this
  have htx:=qIf ops es 0 σ htext i o e hoi hei
  rw [Nat.zero_add] at htx
  -- slots that are read
  have hslot:∀ t,t∈o.looksAt ops.toArray→qZw (qQw (fun m=>decide (m<i)) 0 (qXj ops es) σ).slots t=qZw (qQw (fun m=>listed.getD m false) 0 (qXj ops es) σ).slots t:=by
   intro t ht
   refine qJp t _ 0 σ σ (fun j d e' hj hd => ?_) rfl
   rw [Nat.zero_add]
   obtain⟨oj,hoj,hdj,hej⟩:=hget' j d e' hj
   rw [hd] at hdj
   rcases Nat.lt_trichotomy j i with hlt|heq|hgt
   ·have hc:qQy ops.toArray oj e' o e=true:=by
     simp only [qQy,hdj,List.contains_eq_mem,ht,decide_true,Bool.true_or]
    rw [hbefore j oj e' hlt hoj hej hc]
    simp [hlt]
   ·subst heq
    rw [hSi]
    simp
   ·have hc:qQy ops.toArray o e oj e'=true:=by
     simp only [qQy,hdj,List.contains_eq_mem,ht,decide_true,Bool.or_true,Bool.true_or]
    rw [hafter j oj e' hgt hoj hej hc]
    simp;omega
  have hobj:∀ n,n∈e.rd→qQc (qQw (fun m=>decide (m<i)) 0 (qXj ops es) σ).objs n=qQc (qQw (fun m=>listed.getD m false) 0 (qXj ops es) σ).objs n:=by
   intro n hn
   refine qVr n _ 0 σ σ (fun j d e' hj hd => ?_) rfl
   rw [Nat.zero_add]
   obtain⟨oj,hoj,hdj,hej⟩:=hget' j d e' hj
   rcases Nat.lt_trichotomy j i with hlt|heq|hgt
   ·have hc:qQy ops.toArray oj e' o e=true:=by
     simp only [qQy,Bool.or_eq_true,List.any_eq_true]
     exact .inl (.inr ⟨n,hd,.inl (by simpa using hn)⟩)
    rw [hbefore j oj e' hlt hoj hej hc]
    simp [hlt]
   ·subst heq
    rw [hSi]
    simp
   ·have hc:qQy ops.toArray o e oj e'=true:=by
     simp only [qQy,Bool.or_eq_true,List.any_eq_true]
     exact .inr ⟨n,hd,by simpa using hn⟩
    rw [hafter j oj e' hgt hoj hej hc]
    simp;omega
  have hval:∀ x∈o.op.operands,(qQw (fun m=>decide (m<i)) 0 (qXj ops es) σ).val X.gl x=(qQw (fun m=>listed.getD m false) 0 (qXj ops es) σ).val X.gl x:=by
   intro x hx
   cases x with
   | tmp t =>
    refine hslot t ?_
    simp only [Oper.looksAt,List.mem_append,List.mem_filterMap]
    exact .inl ⟨.tmp t,by simpa using hx,rfl⟩
   | const v=>rfl
   | func f=>rfl
   | global g=>rfl
  -- new names
  have hnw:∀ (j:Nat) (oj:Oper) (ej:Eff),ops[j]? = some oj→es[j]? = some ej→∀ n∈ej.nw,n ∉ (qQw (fun m=>decide (m<j)) 0 (qXj ops es) σ).used:=by
   intro j oj ej hoj hej n hn
   have:=qIf ops es 0 σ htext j oj ej hoj hej
   rw [Nat.zero_add] at this
   have key:∀ s,OpW X oj s ej→∀ n∈ej.nw,n ∉ s.used:=by
    intro s hw
    clear this
    clear hn hej
    induction hw with
    | weak y h hx ih=>exact ih
    | step note r hs hc hnn=>exact hnn
    | call f args objs x objs' hf hac hsub hnn=>exact hnn
    | callR f args ro objs x objs' hf hac hro hsub hnn=>exact hnn
   rcases this.2 with ⟨_,hw⟩|⟨_,_,_,_,_,⟨_,hw⟩|⟨_,rfl⟩⟩|⟨_,_,_,_,rfl⟩
   ·exact key _ hw n hn
   ·exact key _ hw n hn
   ·simp [qY6] at hn
   ·simp [qY6] at hn
  have hnew:∀ n∈e.nw,n ∉ (qQw (fun m=>listed.getD m false) 0 (qXj ops es) σ).used:=by
   intro n hn hu
   rw [qZz] at hu
   have h0:=hnw i o e hoi hei n hn
   rw [qZz] at h0
   simp only [not_or,not_exists,not_and] at h0
   rcases hu with hu|⟨j,d,ej,hj,hSj,hnj⟩
   ·exact h0.1 hu
   ·rw [Nat.zero_add] at hSj
    obtain⟨oj,hoj,hdj,hej⟩:=hget' j d ej hj
    rcases Nat.lt_trichotomy j i with hlt|heq|hgt
    ·exact h0.2 j d ej hj (by simpa using hlt) hnj
    ·subst heq;rw [hSi] at hSj;cases hSj
    ·have h1:=hnw j oj ej hoj hej n hnj
     rw [qZz] at h1
     simp only [not_or,not_exists,not_and] at h1
     exact h1.2 i o.dst e (hget i o e hoi hei) (by simpa using hgt) hn
  have hd:∀ d,o.dst=some d→d<C.nt:=by
   intro d hd'
   have:=htx.1
   rw [hd'] at this
   rw [hnt]
   exact this
  -- the state behind it
  have hnext:∀ E' a' w',Ga C E' ((qQw (fun m=>listed.getD m false) 0 (qXj ops es) σ).eff o.dst e) a' w'→wpAny X.P .any ops.toArray Q fuel (listed.setIfInBounds i true) a' w':=by
   intro E' a' w' hG'
   have hS':(fun m=>(listed.setIfInBounds i true).getD m false)=fun m=>m == 0+i || listed.getD m false:=by
    funext m
    rw [Nat.zero_add,Array.getD_eq_getD_getElem?,Array.getD_eq_getD_getElem?]
    by_cases e1:m=i
    ·subst e1
     rw [Array.getElem?_setIfInBounds_self_of_lt (by omega)]
     simp
    ·rw [Array.getElem?_setIfInBounds_ne (fun h=>e1 h.symm)]
     simp [e1]
   refine ih (listed.setIfInBounds i true) E' a' w' (by simpa using hs) ?_ ?_ ?_
   ·have:=qGb listed.toList i (by
     rw [Array.getElem?_toList,Array.getElem?_eq_getElem (by omega)]
     rw [Array.getD_eq_getD_getElem?,Array.getElem?_eq_getElem (by omega)] at hSi
     simpa using hSi)
    rw [Array.toList_setIfInBounds]
    omega
   ·intro j hj k hk
    have e1:∀ m,(listed.setIfInBounds i true).getD m false=(m == 0+i || listed.getD m false):=fun m=>congrFun hS' m
    rw [e1] at hj ⊢
    simp only [Nat.zero_add,Bool.or_eq_true,beq_iff_eq] at hj ⊢
    right
    rcases hj with rfl|hj
    ·exact hbits k hk
    ·exact hcl j hj k hk
   ·rw [hS']
    refine hG'.of_ext ?_ ?_ ?_
    ·intro t
     rw [qKp t _ 0 i o.dst e σ (hget i o e hoi hei) (by simpa using hSi)]
     ·simp [St.eff,qJw]
     ·intro hdt j d' e' hij hj hSj hd'
      rw [Nat.zero_add] at hSj
      obtain⟨oj,hoj,hdj,hej⟩:=hget' j d' e' hj
      rw [hd'] at hdj
      have hc:qQy ops.toArray o e oj e'=true:=by simp [qQy,hdt,hdj]
      have:=hafter j oj e' hij hoj hej hc
      rw [hSj] at this
      cases this
    ·intro n
     rw [qXi n _ 0 i o.dst e σ (hget i o e hoi hei) (by simpa using hSi)]
     ·simp only [St.eff,qZh]
      all_goals (cases qJj e.wr n<;>rfl)
     ·intro hdt j d' e' hij hj hSj hd'
      rw [Nat.zero_add] at hSj
      obtain⟨oj,hoj,hdj,hej⟩:=hget' j d' e' hj
      have hc:qQy ops.toArray o e oj e'=true:=by
       simp only [qQy,Bool.or_eq_true,List.any_eq_true]
       exact .inl (.inr ⟨n,hdt,.inr (by simpa using hd')⟩)
      have:=hafter j oj e' hij hoj hej hc
      rw [hSj] at this
      cases this
    ·intro n hn
     simp only [St.eff,List.mem_append] at hn
     rw [qZz]
     rw [qZz] at hn
     rcases hn with hn|hn|⟨j,d,ej,hj,hSj,hnj⟩
     ·exact .inr ⟨i,o.dst,e,hget i o e hoi hei,by simp,hn⟩
     ·exact .inl hn
     ·exact .inr ⟨j,d,ej,hj,by rw [hSj];simp,hnj⟩
  unfold wpOp
  simp only [List.getElem?_toArray,hoi]
  have hrun:OpW X o (qQw (fun m=>decide (m<i)) 0 (qXj ops es) σ) e→o.wp X.P a w (wpAny X.P .any ops.toArray Q fuel (listed.setIfInBounds i true)) Q:=fun hw =>
   (hw.congr ⟨hval,hobj,hnew⟩).sound hT hg hG hd hnext
  rcases htx.2 with ⟨hgn,hw⟩|⟨j,want,b,hgs,hgv,hor⟩|⟨j,want,hgs,hgv,rfl⟩
  ·rw [if_pos (by simp [Region.wanted,hgn])]
   exact .inl (hrun hw)
  ·have hgv':gv ops (qQw (fun m=>listed.getD m false) 0 (qXj ops es) σ) j = .pv (.bool b):=by
    rw [← hgv]
    unfold gv
    split
    ·rename_i oj hoj
     split
     ·rename_i d hdj
      refine (hslot d ?_).symm
      simp only [Oper.looksAt,List.mem_append]
      right
      simp [hgs,hoj,hdj]
     ·rfl
    ·rfl
   have hy:=qEe hG hgv'
   rcases hor with ⟨hbw,hw⟩|⟨hbw,rfl⟩
   ·rw [if_pos (by simp [Region.wanted,hgs,hy,hbw])]
    exact .inl (hrun hw)
   ·rw [if_neg (by simp [Region.wanted,hgs,hy,hbw])]
    exact hnext E _ w (qEd hG hd)
  ·have hgv':gv ops (qQw (fun m=>listed.getD m false) 0 (qXj ops es) σ) j = .pv (.tuple []):=by
    rw [← hgv]
    unfold gv
    split
    ·rename_i oj hoj
     split
     ·rename_i d hdj
      refine (hslot d ?_).symm
      simp only [Oper.looksAt,List.mem_append]
      right
      simp [hgs,hoj,hdj]
     ·rfl
    ·rfl
   have hy:=qDb hG hgv'
   rw [if_neg (by simp [Region.wanted,hgs,hy])]
   exact hnext E _ w (qEd hG hd)
end
inductive AEx where
 | normal
 | exit (id:Nat)
 | ret
 | panic (p:PV)
def zH9 (E:Env):AEx→Exit→Prop
 | .normal,e=>e = .normal
 | .exit i,e=>e = .exit i
 | .ret,e=>e = .ret
 | .panic p,e => ∃ v,e = .panic [{ v,recovered:=false }]∧RepP E.H p v
structure COK (X:qZ5) (C:Ctx):Prop where
 glob:GOK X.gl C.E0.H
 nt:C.nt=X.nt
 given:∀ n o,qQc C.given n=some o→n∈X.given
 ms:∀ n∈C.ms,n∈X.given
 defs:∀ n∈qYh C.defs,n∈X.given
def qNc (C:Ctx) (Q:AEx→St→Prop) (e:Exit) (a:Act) (w:World):Prop:=∃ E σ ae,Ga C E σ a w∧zH9 E ae e∧Q ae σ
def AWP (X:qZ5) (c:Code) (σ:St) (Q:AEx→St→Prop):Prop :=
 ∀ C E a w,COK X C→Ga C E σ a w→c.wp X.P (qNc C Q) a w
def qTs (next:St→Prop) (Q:AEx→St→Prop):AEx→St→Prop
 | .normal,σ=>next σ
 | e,σ=>Q e σ
def qYm (id:Nat) (Q:AEx→St→Prop):AEx→St→Prop
 | .exit i,σ=>if i=id then Q .normal σ else Q (.exit i) σ
 | e,σ=>Q e σ
def zYv (v:V) (yes no:Prop):Prop:=match v with
 | .pv (.bool b)=>(b=true→yes)∧(b=false→no)
 | .pv (.flg b)=>(b=true→yes)∧no
 | _=>False
theorem AWP.mono {X:qZ5} {c:Code} {σ:St} {Q Q':AEx→St→Prop} (h:AWP X c σ Q) (hq:∀ e σ,Q e σ→Q' e σ):AWP X c σ Q' :=
 fun C E a w hC hG=>wp_mono (h C E a w hC hG) fun _ _ _ ⟨E',σ',ae,h1,h2,h3⟩=>⟨E',σ',ae,h1,h2,hq _ _ h3⟩
theorem AWP.seq {X:qZ5} {x y:Code} {σ:St} {Q:AEx→St→Prop} (h:AWP X x σ (qTs (fun σ'=>AWP X y σ' Q) Q)):AWP X (.seq x y) σ Q:=by
 intro C E a w hC hG
 refine wp_seq (wp_mono (h C E a w hC hG) ?_)
 rintro e a' w' ⟨E',σ',ae,hG',hr,hq⟩
 cases ae with
 | normal=>cases hr;exact hq C E' a' w' hC hG'
 | exit i=>cases hr;exact⟨E',σ',.exit i,hG',rfl,hq⟩
 | ret=>cases hr;exact⟨E',σ',.ret,hG',rfl,hq⟩
 | panic p=>obtain⟨v,rfl,hv⟩:=hr;exact⟨E',σ',.panic p,hG',⟨v,rfl,hv⟩,hq⟩
theorem AWP.block {X:qZ5} {id:Nat} {x:Code} {σ:St} {Q:AEx→St→Prop} (h:AWP X x σ (qYm id Q)):AWP X (.block id x) σ Q:=by
 intro C E a w hC hG
 refine wp_block (wp_mono (h C E a w hC hG) ?_)
 rintro e a' w' ⟨E',σ',ae,hG',hr,hq⟩
 cases ae with
 | normal=>cases hr;exact⟨E',σ',.normal,hG',rfl,hq⟩
 | exit i =>
  cases hr
  simp only [qYm] at hq
  simp only [Exit.inBlock]
  split
  ·rename_i e;rw [if_pos e] at hq;exact⟨E',σ',.normal,hG',rfl,hq⟩
  ·rename_i e;rw [if_neg e] at hq;exact⟨E',σ',.exit i,hG',rfl,hq⟩
 | ret=>cases hr;exact⟨E',σ',.ret,hG',rfl,hq⟩
 | panic p=>obtain⟨v,rfl,hv⟩:=hr;exact⟨E',σ',.panic p,hG',⟨v,rfl,hv⟩,hq⟩
def zZs:List Nat→List Nat→Prop
 | [],_=>True
 | n::r,u=>n∈u∧zZs r u
def qBe:List (Nat × V)→List (Nat × V)→Prop
 | [],_=>True
 | (t,x)::r,l=>qZw l t=x∧qBe r l
def qVc:List (Nat × V)→List Nat
 | []=>[]
 | (_,x)::r=>x.names++qVc r
def qZx:List (Nat × Ob)→List Nat
 | []=>[]
 | (n,o)::r=>n::o.names++qZx r
structure Weak (X:qZ5) (σ τ:St):Prop where
 slots:qBe τ.slots σ.slots
 objs:qCo τ.objs σ.objs
 names:zZs (qVc τ.slots++qZx τ.objs++X.given) τ.used
theorem qWr:∀ {l u:List Nat},zZs l u→∀ n∈l,n∈u
 | [],_,_,n,h=>by simp at h
 | k::r,u,hf,n,h=>by
  simp only [zZs] at hf
  rcases List.mem_cons.1 h with rfl|h
  ·exact hf.1
  ·exact qWr hf.2 n h
theorem qYn:∀ {l m:List (Nat × V)},qBe l m→∀ t,qZw l t = .undef∨qZw l t=qZw m t
 | [],_,_,t => .inl rfl
 | (k,x)::r,m,h,t=>by
  simp only [qBe] at h
  simp only [qZw]
  split
  ·rename_i e;subst e;exact .inr h.1.symm
  ·exact qYn h.2 t
theorem qBf {l:List (Nat × V)} {t n:Nat} (h:n∈(qZw l t).names):n∈qVc l:=by
 induction l with
 | nil=>simp [qZw,V.names] at h
 | cons p r ih =>
  obtain⟨k,x⟩:=p
  simp only [qZw] at h
  simp only [qVc,List.mem_append]
  split at h
  ·exact .inl h
  ·exact .inr (ih h)
theorem qV6 {l:List (Nat × Ob)} {m:Nat} {o:Ob} (h:qQc l m=some o):m∈qZx l ∧ ∀ n∈o.names,n∈qZx l:=by
 induction l with
 | nil=>simp [qQc] at h
 | cons p r ih =>
  obtain⟨k,x⟩:=p
  simp only [qQc] at h
  split at h
  ·rename_i e;cases h;subst e
   exact⟨by simp [qZx],fun n hn=>by simp [qZx,hn]⟩
  ·obtain⟨h1,h2⟩:=ih h
   exact⟨by simp [qZx,h1],fun n hn=>by simp [qZx,h2 n hn]⟩
theorem Weak.ga {X:qZ5} {σ τ:St} (h:Weak X σ τ) {C:Ctx} (hC:COK X C) {E:Env} {a:Act} {w:World} (hG:Ga C E σ a w):Ga C E τ a w:=by
 have hs:=qYn h.slots
 have ho:=qWp h.objs
 have hn:=qWr h.names
 refine⟨?_,hG.size,⟨hG.defers.1,fun n hm=>hn n (by simp [hC.defs n hm])⟩,hG.heap,fun n o hno=>hG.objs n o (ho n o hno),fun n m o o' hno hmo=>hG.apart n m o o' (ho n o hno) (ho m o' hmo),?_,?_,?_,hG.grown,hG.rest,hG.same,hG.hle,fun n o b hno=>hG.own n o b (ho n o hno),hG.ext,fun n hm=>⟨hn n (by simp [hC.ms n hm]),?_,(hG.keep n hm).2.2⟩⟩
 rotate_left 4
 ·cases e:qQc τ.objs n with
  | none=>rfl
  | some o =>
   have:=ho n o e
   rw [(hG.keep n hm).2.1] at this
   cases this
 ·intro t
  rcases hs t with e|e
  ·rw [e];simp [RepV]
  ·rw [e];exact hG.slots t
 ·intro t n hnn
  exact hn n (by simp [qBf hnn])
 ·intro n o hno
  obtain⟨h1,h2⟩:=qV6 hno
  exact⟨hn n (by simp [h1]),fun m hm=>hn m (by simp [h2 m hm])⟩
 ·intro n o hno
  exact hn n (by simp [hC.given n o hno])
open Classical in
theorem TIOK.mk' {P:Program} {t:Nat} {ti:TI} {d:TypeDesc} (h1:(P.info? t).map (fun i=>(i.size,i.bytes,i.zero))=some (ti.size,ti.bytes,some ti.zero)) (h2:P.underlying t=some d) (hk:qKl P d ti.k)
  (h3:ti.zero.cells.size=ti.size) (h4:RepL (fun _=>[]) ti.zc ti.zero.cells.toList) (h5:ti.zc.length=ti.size) (h6:ti.k.isIface=true∨P.concrete t=true):TIOK P t ti:=by
 refine⟨?_,⟨d,h2,hk⟩,h3,h4,h5,h6⟩
 cases hi:P.info? t with
 | none=>rw [hi] at h1;cases h1
 | some i =>
  rw [hi] at h1
  simp only [Option.map_some,Option.some.injEq,Prod.mk.injEq] at h1
  exact⟨i,rfl,h1.1,h1.2.1,h1.2.2⟩
def qYo (X:qZ5) (σ:St):ResultVar→Option V
 | .tmp t=>some (qZw σ.slots t)
 | .cell a t=>match X.T t,qZw σ.slots a with
  | some ti,.loc n off=>match qQc σ.objs n with
   | some (.box cs)=>rdV ti.isAgg ti.size (cs.drop off)
   | _=>none
  | _,_=>none
def qTt (X:qZ5) (σ:St):List ResultVar→Option (List V)
 | []=>some []
 | r::rs=>match qYo X σ r,qTt X σ rs with
  | some x,some xs=>some (x::xs)
  | _,_=>none
def qO4 (xs:List V):V:=match xs with
 | [x]=>x
 | xs=>match unL xs with
  | some ps => .pv (.tuple ps)
  | none => .tuple xs
def zCu (X:qZ5) (σ:St) (rs:List ResultVar):Option V:=(qTt X σ rs).map qO4
theorem qO5 {E:Env} {xs:List V} {vs:Array Value} (hl:vs.size=xs.length) (r:RepVL E xs vs.toList):RepV E (qO4 xs) (if h:vs.size=1 then vs[0] else .tuple vs):=by
 unfold qO4
 split
 ·rename_i x
  have h1:vs.size=1:=by simpa using hl
  rw [dif_pos h1]
  have:vs.toList=[vs[0]]:=by
   apply List.ext_getElem
   ·simpa using h1
   ·intro i h1 h2
    have:i=0:=by simp at h2;omega
    subst this
    simp
  rw [this] at r
  simpa [RepVL] using r
 ·rename_i hne
  have h1:¬ vs.size=1:=by
   intro h1
   rw [h1] at hl
   cases xs with
   | nil=>simp at hl
   | cons x xs =>
    cases xs with
    | nil=>exact hne x rfl
    | cons y ys=>simp at hl
  rw [dif_neg h1]
  split
  ·rename_i ps e
   simp only [RepV,RepP]
   exact⟨vs.toList,by simp,by rw [qD3 e];simpa using hl,RepVL.toPv e r⟩
  ·simp only [RepV]
   exact⟨vs.toList,by simp,by simpa using hl,r⟩
section
variable {X:qZ5} {C:Ctx} {E:Env} {σ:St} {a:Act} {w:World}
theorem zV0 (hT:TOK X.P X.T) (h:Ga C E σ a w) {r:ResultVar} {x:V} (hr:qYo X σ r=some x) :
  ∃ v,((match r with
   | .tmp t=>pure (a.tmps.getD t undef)
   | .cell b t=>do loadVar t (← asAddr (a.tmps.getD b undef))):Sem Value).run X.P w = .ok v w∧RepV E x v:=by
 cases r with
 | tmp t =>
  simp only [qYo,Option.some.injEq] at hr
  subst hr
  exact⟨_,rfl,h.slots t⟩
 | cell b t =>
  simp only [qYo] at hr
  split at hr
  ·rename_i ti n off et eb
   split at hr
   ·rename_i cs eo
    have hti:=hT t ti et
    have hx:=h.slots b
    rw [eb] at hx
    simp only [RepV] at hx
    obtain⟨bb,hgn,hv⟩:=hx
    obtain⟨b',c,T',hgn',hcell,hsz,hrr,_⟩:=h.objs n _ eo
    rw [hgn] at hgn'
    cases hgn'
    obtain⟨h1,h2,h3⟩:=qH2 hr (hrr.drop off)
    have hload:∀ v,(Instr.loadAt t (.pointer (some ⟨bb,off,none⟩))).run X.P w = .ok v w→(do loadVar t (← asAddr (a.tmps.getD b undef)):Sem Value).run X.P w = .ok v w:=by
     intro v hl
     rw [hv]
     simp only [Instr.loadAt,Instr.sureAddr,Sem.run_bind,Sem.run_pure,Result.andThen_ok] at hl
     simp only [asAddr,Sem.run_bind,Sem.run_pure,Result.andThen_ok]
     exact hl
    cases hagg:ti.isAgg with
    | true =>
     obtain⟨hle,hy⟩:=h1 hagg
     by_cases h0:off+ti.size≤c.size
     ·exact⟨_,hload _ (qZq hti hagg hcell h0),hy⟩
     ·have h00:ti.size=0:=by simp at hle;omega
      have hll:(loadCells ⟨bb,off,none⟩ 0).run X.P w = .ok #[] w:=by simp [loadCells,loadCellsFrom]
      rw [h00] at hy
      refine⟨_,hload _ ?_,hy⟩
      simp [Instr.loadAt,Instr.sureAddr,loadVar,hti.run_agg,hagg,hti.run_size,h00,hll]
    | false =>
     obtain⟨v,hv0,hy⟩:=h2 hagg
     have hget:c[off]? = some v:=by simpa using hv0
     exact⟨v,hload _ (qZr hti hagg hcell hget),hy⟩
   ·cases hr
  ·cases hr
theorem qLl (hT:TOK X.P X.T) (h:Ga C E σ a w):∀ {rs:List ResultVar} {xs:List V},qTt X σ rs=some xs →
  ∃ vs:List Value,(rs.mapM fun r=>match r with
   | .tmp t=>pure (a.tmps.getD t undef)
   | .cell b t=>do loadVar t (← asAddr (a.tmps.getD b undef)):Sem (List Value)).run X.P w = .ok vs w∧vs.length=xs.length∧RepVL E xs vs
 | [],xs,hr=>by
  simp only [qTt,Option.some.injEq] at hr
  subst hr
  exact⟨[],rfl,rfl,by simp [RepVL]⟩
 | r::rs,xs,hr=>by
  simp only [qTt] at hr
  split at hr
  ·rename_i x xs' e1 e2
   cases hr
   obtain⟨v,hv,hrv⟩:=zV0 hT h e1
   obtain⟨vs,hvs,hl,hrl⟩:=qLl hT h e2
   refine⟨v::vs,?_,by simp [hl],by simp only [RepVL];exact⟨hrv,hrl⟩⟩
   rw [List.mapM_cons]
   simp only [Sem.run_bind]
   rw [hv]
   simp only [Result.andThen_ok,Sem.run_bind]
   rw [hvs]
   rfl
  ·cases hr
theorem zV1 (hT:TOK X.P X.T) (h:Ga C E σ a w) {fn:Func} {x:V} (hr:zCu X σ fn.results.toList=some x):∃ v,(results fn a.tmps).run X.P w = .ok v w∧RepV E x v:=by
 unfold zCu at hr
 cases hx:qTt X σ fn.results.toList with
 | none=>rw [hx] at hr;cases hr
 | some xs =>
  rw [hx] at hr
  simp only [Option.map_some,Option.some.injEq] at hr
  subst hr
  obtain⟨vs,hvs,hl,hrl⟩:=qLl hT h hx
  refine⟨_,?_,qO5 (vs:=vs.toArray) (by simpa using hl) (by simpa using hrl)⟩
  unfold results
  rw [Array.mapM_eq_mapM_toList]
  simp only [Sem.run_bind,map_eq_pure_bind]
  erw [hvs]
  rfl
end
def qJx:Nat→List V→List (Nat × V)
 | _,[]=>[]
 | k,x::xs=>(k,x)::qJx (k+1) xs
theorem qK0:∀ (xs:List V) (k t:Nat),qZw (qJx k xs) t=if k≤t then xs.getD (t-k) .undef else .undef
 | [],k,t=>by simp [qJx,qZw]
 | x::xs,k,t=>by
  simp only [qJx,qZw]
  by_cases e:k=t
  ·subst e;simp
  ·rw [qK0 xs (k+1) t]
   simp only [e,if_false]
   by_cases hk:k≤t
   ·have h1:k+1≤t:=by omega
    have h2:t-k=(t-(k+1))+1:=by omega
    simp only [hk,h1,if_true]
    rw [h2]
    rfl
   ·have h1:¬ k+1≤t:=by omega
    simp [hk,h1]
def qNd (X:qZ5) (σ:St) (rs:List ResultVar):Out→Prop
 | .ret x=>zCu X σ rs=some x
 | .panic _=>False
def zIa (X:qZ5) (rs:List ResultVar) (out:Out) (objs':List (Nat × Ob)):AEx→St→Prop
 | .normal,σ=>qNd X σ rs out∧qCo objs' σ.objs
 | .ret,σ=>qNd X σ rs out∧qCo objs' σ.objs
 | .panic p,σ=>(match out with | .ret _=>False | .panic q=>p=q)∧qCo objs' σ.objs
 | .exit _,_=>False
theorem AC.of_body {X : qZ5} (hT : TOK X.P X.T) {f : Nat} {fn : Func} {c : Code} (hf : X.P.funcs[f]? = some fn) (hb : fn.body = some c) (hname : (fn.name == "runtime.NumGoroutine") = false) (hnt : fn.ntmps = X.nt)
  {args:List V} {objs:List (Nat × Ob)} {out:Out} {objs':List (Nat × Ob)} {ms:List Nat} (hgiven:X.given=qQa objs++ms) (hal:args.length≤X.nt)
  (hms1:zZs ms (qKy args objs)) (hms2:∀ n∈ms,n ∉ qQa objs) (hms3:∀ n∈ms,n ∉ qQa objs')
  (hna:zZs (qQj args++qZx objs) (qQa objs++ms)) (hno:zZs (out.names++qZx objs') ((qQa objs++ms)++qQa objs'))
  (h:AWP X c ⟨qJx 0 args,objs,qQa objs++ms⟩ (zIa X fn.results.toList out objs')):AC X.P X.gl f args objs out objs':=by
 have hna:=qWr hna
 have hno:=qWr hno
 have hms1:=qWr hms1
 have hout:∀ n,n∈(qQa objs++ms)++qQa objs'→n∈qQa objs∨n∈qQa objs'∨n∈qKy args objs:=by
  intro n hn
  rcases List.mem_append.1 hn with hn|hn
  ·rcases List.mem_append.1 hn with hn|hn
   ·exact .inl hn
   ·exact .inr (.inr (hms1 n hn))
  ·exact .inr (.inl hn)
 have hnone:∀ {l:List (Nat × Ob)} {n:Nat},n ∉ qQa l→qQc l n=none:=by
  intro l n hn
  cases e:qQc l n with
  | none=>rfl
  | some o=>exact absurd (qQh e) hn
 refine⟨⟨fn,hf,hname,by rw [hb];rfl⟩,fun n hn=>hout n (hno n (by simp [hn])),fun m o hm n hn=>hout n (hno n (by simp [(qV6 hm).2 n hn])),?_⟩
 intro E w vs hB hl hr
 refine calls_of_wp hf hb ?_
 let C:Ctx:=⟨E,w,objs,ms,X.nt,[]⟩
 have hC:COK X C:=⟨hB.glob,rfl,fun n o hn=>by rw [hgiven];exact List.mem_append.2 (.inl (qQh hn)),fun n hn=>by rw [hgiven];exact List.mem_append.2 (.inr hn),by simp [C,qYh]⟩
 have hG:Ga C E ⟨qJx 0 args,objs,qQa objs++ms⟩ { tmps:=vs.toArray++Array.replicate (fn.ntmps-vs.toArray.size) undef,defers:=[] } w:=by
  refine⟨?_,?_,⟨rfl,by simp [C,qYh]⟩,hB.heap,hB.obs,hB.apart,?_,?_,fun n o hn=>List.mem_append.2 (.inl (qQh hn)),Nat.le_refl _,⟨rfl,rfl,rfl⟩,fun _ _ _=>⟨fun _=>rfl,rfl⟩,Hle.refl _,fun n o b hn hb _=>⟨n,o,hn,hb⟩,fun n o _=>EExt.refl _ _,
   fun n hn=>⟨List.mem_append.2 (.inr hn),hnone (hms2 n hn),rfl,rfl,rfl⟩⟩
  ·intro t
   rw [qK0]
   simp only [Nat.zero_le,if_true,Nat.sub_zero]
   by_cases ht:t<args.length
   ·have hra:=RepVL.iff.1 hr t args[t] (List.getElem?_eq_getElem ht)
    obtain⟨v,hv,hrv⟩:=hra
    have h1:args.getD t .undef=args[t]:=by simp [List.getD,List.getElem?_eq_getElem ht]
    rw [h1]
    have h2:(vs.toArray++Array.replicate (fn.ntmps-vs.toArray.size) undef).getD t undef=v:=by
     rw [Array.getD_eq_getD_getElem?,Array.getElem?_append_left (by simp;omega)]
     simp [hv]
    rw [h2]
    exact hrv
   ·have h1:args.getD t .undef = .undef:=by simp [List.getD,List.getElem?_eq_none (by omega:args.length≤t)]
    rw [h1]
    simp [RepV]
  ·simp [C];omega
  ·intro t n hn
   refine hna n ?_
   rw [List.mem_append]
   left
   have:n∈qVc (qJx 0 args):=qBf hn
   have key:∀ (xs:List V) (k:Nat),n∈qVc (qJx k xs)→n∈qQj xs:=by
    intro xs
    induction xs with
    | nil=>intro k h;simp [qJx,qVc] at h
    | cons x xs ih =>
     intro k h
     simp only [qJx,qVc,List.mem_append] at h
     simp only [qQj,List.mem_append]
     rcases h with h|h
     ·exact .inl h
     ·exact .inr (ih (k+1) h)
   exact key args 0 this
  ·intro n o hn
   exact⟨List.mem_append.2 (.inl (qQh hn)),fun m hm=>hna m (by simp [(qV6 hn).2 m hm])⟩
 refine wp_mono (h C E _ w hC hG) ?_
 rintro e a' w' ⟨E',σ',ae,hG',hrel,hq⟩
 -- the hidden side behind the call
 let E2:Env:=⟨E'.H,fun n=>if n∈qQa objs++qQa objs' then E'.g n else E.g n,fun n=>if n∈qQa objs++qQa objs' then E'.ver n else E.ver n,fun n=>if n∈qQa objs++qQa objs' then E'.sz n else E.sz n⟩
 have hE2:∀ n∈qQa objs++qQa objs',E2.g n=E'.g n∧E2.ver n=E'.ver n∧E2.sz n=E'.sz n:=by
  intro n hn
  have hn':n∈qQa objs∨n∈qQa objs':=List.mem_append.1 hn
  simp [E2,hn']
 have hEE0:∀ n∈qQa objs++qQa objs',EExt E' E2 n:=fun n hn=>EExt.of_eq (hE2 n hn).1 (hE2 n hn).2.1 (hE2 n hn).2.2
 have hEE:∀ n∈(qQa objs++ms)++qQa objs',EExt E' E2 n:=by
  intro n hn
  by_cases hm:n∈qQa objs++qQa objs'
  ·exact hEE0 n hm
  ·have hn':n∈ms:=by
    rcases List.mem_append.1 hn with hn|hn
    ·rcases List.mem_append.1 hn with hn|hn
     ·exact absurd (List.mem_append.2 (.inl hn)) hm
     ·exact hn
    ·exact absurd (List.mem_append.2 (.inr hn)) hm
   have hm':¬ (n∈qQa objs∨n∈qQa objs'):=fun h=>hm (List.mem_append.2 h)
   obtain⟨_,_,k3,k4,k5⟩:=hG'.keep n hn'
   exact EExt.of_eq (by simp [E2,hm'];exact k3.symm) (by simp [E2,hm'];exact k4.symm) (by simp [E2,hm'];exact k5.symm)
 have hdone:qCo objs' σ'.objs→zX1 E w objs E2 w' objs':=by
  intro hsub
  have hsub:=qWp hsub
  have hk':∀ n o,qQc objs' n=some o→n∈qQa objs++qQa objs':=fun n o hn=>List.mem_append.2 (.inr (qQh hn))
  refine⟨fun b hb=>hG'.heap b hb,?_,?_,hG'.hle,hG'.grown,hG'.rest,?_,?_,?_,?_⟩
  ·intro n o hn
   have hm:=hk' n o hn
   exact (hG'.objs n o (hsub n o hn)).mono (Hle.refl _) (hE2 n hm).1 (hE2 n hm).2.1 (hE2 n hm).2.2 (fun m hm'=>hEE m (hno m (by simp [(qV6 hn).2 m hm']))) (fun b _=>⟨rfl,rfl⟩)
  ·intro n m o o' hn hm hne b hb
   rw [(hE2 n (hk' n o hn)).1] at hb
   rw [(hE2 m (hk' m o' hm)).1]
   exact hG'.apart n m o o' (hsub n o hn) (hsub m o' hm) hne b hb
  ·intro b hb hnb
   exact hG'.same b hb (by rintro⟨n,o,hn,hbn⟩;exact hnb n o hn hbn)
  ·intro n o b hn hb
   rw [(hE2 n (hk' n o hn)).1] at hb
   by_cases hlt:b<w.heap.size
   ·obtain⟨m,o',hm,hbm⟩:=hG'.own n o b (hsub n o hn) hb hlt
    exact .inr ⟨m,o',hm,hbm⟩
   ·exact .inl (by omega)
  ·intro n o hn
   have hm:n∈qQa objs++qQa objs':=List.mem_append.2 (.inl (qQh hn))
   exact (hG'.ext n o hn).trans (hEE0 n hm)
  ·intro n h1 h2
   have hn:¬ (n∈qQa objs∨n∈qQa objs'):=by
    rintro (hn|hn)
    ·obtain⟨o,ho⟩:=qQ7 hn;rw [ho] at h1;cases h1
    ·obtain⟨o,ho⟩:=qQ7 hn;rw [ho] at h2;cases h2
   simp [E2,hn]
 have hret:qNd X σ' fn.results.toList out→qCo objs' σ'.objs →
   a'.defers=[] ∧ ∃ v,(results fn a'.tmps).run X.P w' = .ok v w' ∧ ∃ E',zX1 E w objs E' w' objs'∧qO0 E' out (.returned v):=by
  intro ho hsub
  cases out with
  | panic p=>exact ho.elim
  | ret x =>
   obtain⟨v,hv,hrv⟩:=zV1 hT hG' ho
   exact⟨hG'.defers.1,v,hv,E2,hdone hsub,v,rfl,RepV.mono (E:=E') (E':=E2) (Hle.refl _) x v (fun n hn=>hEE n (hno n (by simp [Out.names,hn]))) hrv⟩
 cases ae with
 | normal=>cases hrel;exact hret hq.1 hq.2
 | ret=>cases hrel;exact hret hq.1 hq.2
 | exit i=>exact hq.elim
 | panic p =>
  obtain⟨v,rfl,hv⟩:=hrel
  obtain⟨ho,hsub⟩:=hq
  cases out with
  | ret x=>exact ho.elim
  | panic q =>
   simp only at ho
   subst ho
   exact⟨hG'.defers.1,E2,hdone hsub,v,rfl,hv⟩
def qFt (n ver:Nat) (es:List (List PV)):V→V
 | .arr m v len=>if m=n∧v=ver then .pv (.slice (es.take len)) else .arr m v len
 | x=>x
def qCd (n ver:Nat) (es:List (List PV)):List V→List V
 | []=>[]
 | x::xs=>qFt n ver es x::qCd n ver es xs
def qBg (n ver:Nat) (es:List (List PV)):V→V
 | .agg cs=>qY1 (qCd n ver es cs)
 | x=>qFt n ver es x
def zCv (n ver:Nat) (es:List (List PV)):List (Nat × V)→List (Nat × V)
 | []=>[]
 | (t,x)::r=>(t,qBg n ver es x)::zCv n ver es r
def qJg (n ver:Nat) (es:List (List PV)):Ob→Ob
 | .box cs => .box (qCd n ver es cs)
 | o=>o
def zX2 (n ver:Nat) (es:List (List PV)):List (Nat × Ob)→List (Nat × Ob)
 | []=>[]
 | (k,o)::r=>if k=n then zX2 n ver es r else (k,qJg n ver es o)::zX2 n ver es r
def St.frz (σ:St) (n ver:Nat) (es:List (List PV)):St:=⟨zCv n ver es σ.slots,zX2 n ver es σ.objs,σ.used⟩
theorem qLm (n ver:Nat) (es:List (List PV)) (cs:List V):(qCd n ver es cs).length=cs.length:=by
 induction cs with
 | nil=>rfl
 | cons c cs ih=>simp [qCd,ih]
theorem qEf (n ver:Nat) (es:List (List PV)) (l:List (Nat × V)) (t:Nat):qZw (zCv n ver es l) t=qBg n ver es (qZw l t):=by
 induction l with
 | nil=>rfl
 | cons p r ih =>
  obtain⟨k,x⟩:=p
  simp only [zCv,qZw,ih]
  split<;>rfl
theorem qKf (n ver:Nat) (es:List (List PV)) (l:List (Nat × Ob)) (m:Nat):qQc (zX2 n ver es l) m=if m=n then none else (qQc l m).map (qJg n ver es):=by
 induction l with
 | nil=>simp [zX2,qQc]
 | cons p r ih =>
  obtain⟨k,x⟩:=p
  simp only [zX2,qQc]
  by_cases e:k=n
  ·subst e
   simp only [if_true,ih]
   by_cases e1:m=k
   ·simp [e1]
   ·have:¬ k=m:=fun h=>e1 h.symm
    simp [e1,this]
  ·simp only [e,if_false,qQc,ih]
   by_cases e1:k=m
   ·subst e1;simp [e]
   ·simp [e1]
section
variable {C:Ctx} {E:Env} {σ:St} {a:Act} {w:World}
theorem qDd (n ver:Nat) (es:List (List PV)) (x:V):∀ m∈(qFt n ver es x).names,m∈x.names:=by
 intro m hm
 unfold qFt at hm
 split at hm
 ·split at hm
  ·simp [V.names] at hm
  ·exact hm
 ·exact hm
theorem qDe (n ver:Nat) (es:List (List PV)) (cs:List V):∀ m∈qQj (qCd n ver es cs),m∈qQj cs:=by
 induction cs with
 | nil=>intro m hm;exact hm
 | cons c cs ih =>
  intro m hm
  simp only [qCd,qQj,List.mem_append] at hm ⊢
  rcases hm with hm|hm
  ·exact .inl (qDd n ver es c m hm)
  ·exact .inr (ih m hm)
theorem qNe (n ver:Nat) (es:List (List PV)) (x:V):∀ m∈(qBg n ver es x).names,m∈x.names:=by
 intro m hm
 unfold qBg at hm
 split at hm
 ·simp only [V.names]
  exact qDe n ver es _ m (qV0 _ m hm)
 ·exact qDd n ver es x m hm
theorem Ga.frz (h:Ga C E σ a w) {n ver sz ty:Nat} {es:List (List PV)} (ho:qQc σ.objs n=some (.arr ver sz ty (pvE es))):∃ E',Ga C E' (σ.frz n ver es) a w:=by
 have hob:=h.objs n _ ho
 obtain⟨hver,hsz,hlen,_⟩:=id hob
 obtain⟨ad,cap,hgn,hlc,hlm,hh⟩:=qKc hob
 have hpl:(pvE es).length=es.length:=by simp [pvE]
 rw [hpl] at hgn hlc hlm
 -- the cells that are known from now on
 have hH:∃ H':Hp,Hle E.H H'∧HeapOK { E with H:=H' } w∧(∀ b,(∀ b',blk (E.g n)=some b'→b≠b')→H' b=E.H b)∧(es=[] ∨ ∃ b,ad=some ⟨b,0,none⟩∧RepE H' es (H' b)):=by
  rcases hh with ⟨h1,h2,h3⟩|⟨b,cur,hb,hcur,hcs,hr,hfree⟩
  ·exact⟨E.H,Hle.refl _,h.heap,fun _ _=>rfl,.inl (by simpa [pvE] using h2)⟩
  ·let H':Hp:=fun b'=>if b'=b then cur.toList.map sn else E.H b'
   have hHle:Hle E.H H':=by
    intro b'
    by_cases e:b'=b
    ·subst e;rw [hfree];exact List.nil_prefix
    ·simp [H',e]
   refine⟨H',hHle,?_,?_,.inr ⟨b,hb,?_⟩⟩
   ·intro b' hb'
    by_cases e:b'=b
    ·subst e
     exact⟨cur,ty,(0,0),hcur,by simp [H',Msk.sn],.inl rfl⟩
    ·have hb'':E.H b'≠[]:=by simpa [H',e] using hb'
     obtain⟨c,T,fr,hc,hp⟩:=h.heap b' hb''
     exact⟨c,T,fr,hc,by simpa [H',e] using hp.1,by simpa [H',e] using hp.2⟩
   ·intro b' hne
    have:b'≠b:=hne b (by rw [hgn,hb];rfl)
    simp [H',this]
   ·have hre:=(RepVE.toPv (qXy es) hr).sn
    have:H' b=cur.toList.map sn:=by simp [H']
    rw [this]
    exact RepE.mono hHle es _ _ List.prefix_rfl hre
 obtain⟨H',hHle,hheap,hsame,hdata⟩:=hH
 have hE:∀ m,EExt E { E with H:=H' } m:=fun m=>EExt.of_eq rfl rfl rfl
 have hc:=h.change (E':={ E with H:=H' }) n none (qMy σ.objs n) σ.used none .undef undef (fun m=>qWj _ _ _) hHle (fun _ _=>⟨rfl,rfl,rfl⟩) (fun _=>hE n) (fun _=>⟨_,ho⟩) (Nat.le_refl _) ⟨rfl,rfl,rfl⟩
  (fun b _ hne=>⟨rfl,hsame b (fun b' hb' e=>hne _ ho (e ▸ hb'))⟩) hheap (fun o e=>by cases e) (fun o b e=>by cases e) (fun _ h=>h) (by simp [RepV]) (by simp [V.names]) (by simp)
 have hv1:∀ (x:V) (v:Value),RepV { E with H:=H' } x v→RepV { E with H:=H' } (qFt n ver es x) v:=by
  intro x v hx
  unfold qFt
  split
  ·rename_i m vv len
   split
   ·rename_i e
    obtain⟨rfl,rfl⟩:=e
    simp only [RepV] at hx
    obtain⟨_,_,hx⟩:=hx
    obtain⟨a',L,cap',hg',hv,hle⟩:=hx hver.symm
    rw [hgn] at hg'
    cases hg'
    have htl:(es.take len).length=len:=by simp;omega
    simp only [RepV,RepP]
    refine⟨ad,cap,by rw [hv,htl],by omega,by omega,?_⟩
    rcases hdata with rfl|⟨b,hb,hr⟩
    ·simp
    ·exact .inr ⟨b,0,hb,by simpa using hr.takeE len⟩
   ·exact hx
  ·exact hx
 have hvL:∀ (cs:List V) (vs:List Value),RepVL { E with H:=H' } cs vs→RepVL { E with H:=H' } (qCd n ver es cs) vs:=by
  intro cs
  induction cs with
  | nil=>intro vs _;simp [qCd,RepVL]
  | cons c cs ih =>
   intro vs hr
   cases vs with
   | nil=>simp [RepVL] at hr
   | cons v vs =>
    simp only [RepVL] at hr
    simp only [qCd,RepVL]
    exact⟨hv1 c v hr.1,ih vs hr.2⟩
 refine⟨{ E with H:=H' },?_,hc.size,hc.defers,hc.heap,?_,?_,?_,?_,hc.usedG,hc.grown,hc.rest,hc.same,hc.hle,?_,hc.ext,fun k hk=>⟨(hc.keep k hk).1,?_,(hc.keep k hk).2.2⟩⟩
 ·intro t
  simp only [St.frz,qEf]
  have hx:=hc.slots t
  simp only [qAt] at hx
  unfold qBg
  split
  ·rename_i cs e
   rw [e] at hx
   simp only [RepV] at hx
   obtain⟨vs,hv,hl,hr⟩:=hx
   have hv:a.tmps.getD t undef = .agg vs.toArray:=hv
   rw [hv]
   exact qXd (by rw [hl,qLm]) (hvL cs vs hr)
  ·exact hv1 _ _ hx
 ·intro m o hm
  simp only [St.frz,qKf] at hm
  split at hm
  ·cases hm
  ·rename_i hne
   cases hq:qQc σ.objs m with
   | none=>rw [hq] at hm;cases hm
   | some q =>
    rw [hq] at hm
    simp only [Option.map_some,Option.some.injEq] at hm
    subst hm
    have hq':qQc (qMy σ.objs n) m=some q:=by rw [qWj,if_neg hne,hq]
    have hok:=hc.objs m q hq'
    cases q with
    | box cs =>
     obtain⟨b,c,T,h1,h2,h3,h4,h5⟩:=hok
     exact⟨b,c,T,h1,h2,by rw [h3,qLm],hvL cs _ h4,h5⟩
    | arr v s t es'=>exact hok
    | cache D F=>exact hok
    | imap es=>exact hok
    | smap s es=>exact hok
    | siter l p=>exact hok
    | raw v x=>exact hok
 ·intro m m' o o' hm hm' hne b hb
  simp only [St.frz,qKf] at hm hm'
  split at hm
  ·cases hm
  ·split at hm'
   ·cases hm'
   ·cases hq:qQc σ.objs m with
    | none=>rw [hq] at hm;cases hm
    | some q =>
     cases hq':qQc σ.objs m' with
     | none=>rw [hq'] at hm';cases hm'
     | some q'=>exact h.apart m m' q q' hq hq' hne b hb
 ·intro t m hm
  simp only [St.frz,qEf] at hm
  exact h.usedS t m (qNe n ver es _ m hm)
 ·intro m o hm
  simp only [St.frz,qKf] at hm
  split at hm
  ·cases hm
  ·cases hq:qQc σ.objs m with
   | none=>rw [hq] at hm;cases hm
   | some q =>
    rw [hq] at hm
    simp only [Option.map_some,Option.some.injEq] at hm
    subst hm
    refine⟨(h.usedO m q hq).1,fun k hk=>(h.usedO m q hq).2 k ?_⟩
    cases q with
    | box cs=>exact qDe n ver es cs k hk
    | arr v s t es'=>exact hk
    | cache D F=>exact hk
    | imap es=>exact hk
    | smap s es=>exact hk
    | siter l p=>exact hk
    | raw v x=>exact hk
 ·intro m o b hm hb hlt
  simp only [St.frz,qKf] at hm
  split at hm
  ·cases hm
  ·cases hq:qQc σ.objs m with
   | none=>rw [hq] at hm;cases hm
   | some q=>exact h.own m q b hq hb hlt
 ·simp only [St.frz,qKf]
  have:=(h.keep k hk).2.1
  split
  ·rfl
  ·rw [this];rfl
end
section
variable {X:qZ5} {draw:Bool} {ops:List Oper} {K:St→List Eff→Prop} {Qp:PV→St→Prop} {o:Oper} {rest:List Oper} {σ:St} {tr:List Eff}
theorem zV2 {c:Operand} {x y:Code} {Q:AEx→St→Prop} {v:V} (hv:σ.val X.gl c=v) (h:zYv v (AWP X x σ Q) (AWP X y σ Q)):AWP X (.cond c x y) σ Q:=by
 intro C E a w hC hG
 have hr:=qQg hG hC.glob c
 rw [hv] at hr
 unfold zYv at h
 split at h
 ·rename_i b
  exact wp_cond_split (qZs hr) (fun hb=>h.1 hb C E a w hC hG) (fun hb=>h.2 hb C E a w hC hG)
 ·simp only [RepV,RepP] at hr
  obtain⟨d,hr,hd⟩:=hr
  exact wp_cond_split hr (fun hb=>h.1 (hd hb) C E a w hC hG) (fun hb=>h.2 C E a w hC hG)
 ·cases h
end
theorem pvE_app (a b:List (List PV)):pvE a++pvE b=pvE (a++b):=by simp [pvE]
theorem pvE_len (a:List (List PV)):(pvE a).length=a.length:=by simp [pvE]
theorem zV3 (es:List (List PV)) (i:Nat):(pvE es)[i]? = (es[i]?).map pvL:=by simp [pvE]
def qKq (X:qZ5) (b:Code) (Q:AEx→St→Prop):Nat→St→Prop
 | 0,_=>False
 | n+1,σ=>AWP X b σ (qTs (qKq X b Q n) Q)
theorem qXk {X:qZ5} {b:Code} {Q:AEx→St→Prop} {n:Nat} {σ:St} (h:AWP X b σ (qTs (qKq X b Q n) Q)):qKq X b Q (n+1) σ:=h
theorem qGc {X:qZ5} {b:Code} {Q:AEx→St→Prop} {C:Ctx} (hC:COK X C):∀ (n:Nat) (σ:St) (E:Env) (a:Act) (w:World),Ga C E σ a w→qKq X b Q n σ→Code.rounds X.P b (qNc C Q) n a w
 | 0,_,_,_,_,_,h=>h.elim
 | n+1,σ,E,a,w,hG,h=>by
  rw [rounds_succ]
  refine wp_mono (h C E a w hC hG) ?_
  rintro e a' w' ⟨E',σ',ae,hG',hrel,hq⟩
  cases ae with
  | normal=>cases hrel;exact qGc hC n σ' E' a' w' hG' hq
  | exit i=>cases hrel;exact⟨E',σ',.exit i,hG',rfl,hq⟩
  | ret=>cases hrel;exact⟨E',σ',.ret,hG',rfl,hq⟩
  | panic p=>obtain⟨v,rfl,hv⟩:=hrel;exact⟨E',σ',.panic p,hG',⟨v,rfl,hv⟩,hq⟩
theorem zV4 (n:Nat) {X:qZ5} {b:Code} {Q:AEx→St→Prop} {σ:St} (h:qKq X b Q n σ):AWP X (.loop b) σ Q :=
 fun _ E a w hC hG=>wp_loop_rounds n (qGc hC n σ E a w hG h)
section
variable {X:qZ5} {C:Ctx}
end
section
variable {C:Ctx} {E:Env} {σ:St} {a:Act} {w:World}
def qS7 (K:List PV→PV) (n:Nat) (ps:List PV):V→V
 | .loc m off=>if m=n then .pv (K (ps.drop off)) else .loc m off
 | x=>x
def qO6 (K:List PV→PV) (n:Nat) (ps:List PV):List V→List V
 | []=>[]
 | x::xs=>qS7 K n ps x::qO6 K n ps xs
def zCw (K:List PV→PV) (n:Nat) (ps:List PV):List (Nat × V)→List (Nat × V)
 | []=>[]
 | (t,x)::r=>(t,qS7 K n ps x)::zCw K n ps r
def qEg (K:List PV→PV) (n:Nat) (ps:List PV):Ob→Ob
 | .box cs => .box (qO6 K n ps cs)
 | o=>o
def zX3 (K:List PV→PV) (n:Nat) (ps:List PV):List (Nat × Ob)→List (Nat × Ob)
 | []=>[]
 | (k,o)::r=>if k=n then zX3 K n ps r else (k,qEg K n ps o)::zX3 K n ps r
def St.frb (K:List PV→PV) (σ:St) (n:Nat) (ps:List PV):St:=⟨zCw K n ps σ.slots,zX3 K n ps σ.objs,σ.used⟩
theorem qTu (K:List PV→PV) (n:Nat) (ps:List PV) (cs:List V):(qO6 K n ps cs).length=cs.length:=by
 induction cs with
 | nil=>rfl
 | cons c cs ih=>simp [qO6,ih]
theorem qEh (K:List PV→PV) (n:Nat) (ps:List PV) (l:List (Nat × V)) (t:Nat):qZw (zCw K n ps l) t=qS7 K n ps (qZw l t):=by
 induction l with
 | nil=>rfl
 | cons p r ih =>
  obtain⟨k,x⟩:=p
  simp only [zCw,qZw,ih]
  split<;>rfl
theorem qKg (K:List PV→PV) (n:Nat) (ps:List PV) (l:List (Nat × Ob)) (m:Nat):qQc (zX3 K n ps l) m=if m=n then none else (qQc l m).map (qEg K n ps):=by
 induction l with
 | nil=>simp [zX3,qQc]
 | cons p r ih =>
  obtain⟨k,x⟩:=p
  simp only [zX3,qQc]
  by_cases e:k=n
  ·subst e
   simp only [if_true,ih]
   by_cases e1:m=k
   ·simp [e1]
   ·have:¬ k=m:=fun h=>e1 h.symm
    simp [e1,this]
  ·simp only [e,if_false,qQc,ih]
   by_cases e1:k=m
   ·subst e1;simp [e]
   ·simp [e1]
theorem qDf (K:List PV→PV) (n:Nat) (ps:List PV) (x:V):∀ m∈(qS7 K n ps x).names,m∈x.names:=by
 intro m hm
 unfold qS7 at hm
 split at hm
 ·split at hm
  ·simp [V.names] at hm
  ·exact hm
 ·exact hm
theorem qNf (K:List PV→PV) (n:Nat) (ps:List PV) (cs:List V):∀ m∈qQj (qO6 K n ps cs),m∈qQj cs:=by
 induction cs with
 | nil=>intro m hm;exact hm
 | cons c cs ih =>
  intro m hm
  simp only [qO6,qQj,List.mem_append] at hm ⊢
  rcases hm with hm|hm
  ·exact .inl (qDf K n ps c m hm)
  ·exact .inr (ih m hm)
def flgs:List PV→List PV→Prop
 | [],[]=>True
 | .bool c::qs,.flg b::ps=>(c=true→b=true)∧flgs qs ps
 | q::qs,p::ps=>(q=p ∧ ∀ b,p ≠ .flg b)∧flgs qs ps
 | _,_=>False
def kn:List PV→List Value→List Value
 | [],l=>l.map sn
 | _,[]=>[]
 | .flg b::ps,_::l=>mark b::kn ps l
 | _::ps,v::l=>sn v::kn ps l
theorem Msk.cons {u v:Value} {l m:List Value} (h:Msk l m) (h1:(u=v∧(∀ b,u≠mark b))∨u=qY0 ∨ ∃ b c,u=mark b∧v = .bool c∧(c=true→b=true)):Msk (u::l) (v::m):=by
 refine⟨by have:=h.1;simp;omega,fun i x hi h2 h3 => ?_,fun i b hi => ?_⟩
 ·cases i with
  | zero =>
   simp at hi
   subst hi
   rcases h1 with ⟨rfl,_⟩|rfl|⟨b,c,rfl,_⟩
   ·rfl
   ·exact absurd rfl h2
   ·exact absurd rfl (h3 b)
  | succ i=>simpa using h.2.1 i x (by simpa using hi) h2 h3
 ·cases i with
  | zero =>
   simp at hi
   subst hi
   rcases h1 with ⟨_,h1⟩|h1|⟨b',c,h1,rfl,h2⟩
   ·exact absurd rfl (h1 b)
   ·exact absurd h1 (zVr b)
   ·rw [qLg h1];exact⟨c,rfl,h2⟩
  | succ i=>simpa using h.2.2 i b (by simpa using hi)
theorem qTv (v:Value):(sn v=v ∧ ∀ b,sn v≠mark b)∨sn v=qY0:=by
 by_cases h:sn v=qY0
 ·exact .inr h
 ·exact .inl ⟨zYq h,zYp v⟩
theorem zV5 {H:Hp} : ∀ {qs ps:List PV} {l:List Value},flgs qs ps→RepL H qs l→Msk (kn ps l) l∧RepK H ps (kn ps l)
 | [],[],l,_,_=>⟨by simp only [kn];exact Msk.sn l,by simp only [RepK]⟩
 | [],_::_,_,h,_=>by simp [flgs] at h
 | q::qs,[],_,h,_=>by cases q<;>simp [flgs] at h
 | q::qs,p::ps,[],h,r=>by simp [RepL] at r
 | q::qs,p::ps,v::l,h,r=>by
  simp only [RepL] at r
  by_cases hp:∃ b,p = .flg b
  ·obtain⟨b,rfl⟩:=hp
   cases q<;>simp [flgs] at h
   rename_i c
   obtain⟨h1,h2⟩:=zV5 h.2 r.2
   have hv:=r.1
   simp only [RepP] at hv
   simp only [kn]
   exact⟨h1.cons (.inr (.inr ⟨b,c,rfl,hv,h.1⟩)),RepK.cons (.inr ⟨b,rfl,rfl⟩) h2⟩
  ·have hp:∀ b,p ≠ .flg b:=fun b e=>hp ⟨b,e⟩
   have hf:q=p∧flgs qs ps:=by
    rw [flgs.eq_3 _ _ _ _ (fun c b _ e=>hp b e)] at h
    exact⟨h.1.1,h.2⟩
   obtain⟨rfl,hf⟩:=hf
   obtain⟨h1,h2⟩:=zV5 hf r.2
   rw [kn.eq_4 _ _ _ _ (fun b e=>hp b e)]
   refine⟨h1.cons ?_,RepK.cons (.inl ⟨?_,hp⟩) h2⟩
   ·rcases qTv v with h|h
    ·exact .inl h
    ·exact .inr (.inl h)
   ·rw [r.1.sn];exact r.1
def qGd (K:List PV→PV) (qs ps:List PV):Prop :=
 ∀ (H:Hp) (cur:List Value),RepL H qs cur→∃ l,Msk l cur∧(∀ v∈l,True) ∧ ∀ (b:Nat) (H':Hp),Hle H H'→H' b=l→∀ off,RepP H' (K (ps.drop off)) (.pointer (some ⟨b,off,none⟩))
theorem qTw {qs ps:List PV} (h:flgs qs ps):qGd PV.nptr qs ps:=by
 intro H cur r
 obtain⟨h1,h2⟩:=zV5 h r
 refine⟨kn ps cur,h1,fun _ _=>trivial,fun b H' hh e off => ?_⟩
 simp only [RepP]
 exact⟨b,off,rfl,by rw [e];exact RepK.drop off (RepK.mono hh ps _ _ List.prefix_rfl h2)⟩
theorem Ga.frb (h:Ga C E σ a w) {K:List PV→PV} {n:Nat} {qs ps:List PV} (ho:qQc σ.objs n=some (.box (pvL qs))) (hcan:qGd K qs ps):∃ E',Ga C E' (σ.frb K n ps) a w:=by
 obtain⟨b,cur,T,hgn,hcur,hcs,hr,hfree⟩:=h.objs n _ ho
 obtain⟨l,hl1,_,hl2⟩:=hcan E.H cur.toList (RepVL.toPv (qOm qs) hr)
 let H':Hp:=fun b'=>if b'=b then l else E.H b'
 have hHle:Hle E.H H':=by
  intro b'
  by_cases e:b'=b
  ·subst e;rw [hfree];exact List.nil_prefix
  ·simp [H',e]
 have hheap:HeapOK { E with H:=H' } w:=by
  intro b' hb'
  by_cases e:b'=b
  ·subst e
   exact⟨cur,T,(0,0),hcur,by simpa [H'] using hl1,.inl rfl⟩
  ·have hb'':E.H b'≠[]:=by simpa [H',e] using hb'
   obtain⟨c,T,fr,hc,hp⟩:=h.heap b' hb''
   exact⟨c,T,fr,hc,by simpa [H',e] using hp.1,by simpa [H',e] using hp.2⟩
 have hsame:∀ b',b'≠b→H' b'=E.H b':=by intro b' hne;simp [H',hne]
 have hE:∀ m,EExt E { E with H:=H' } m:=fun m=>EExt.of_eq rfl rfl rfl
 have hc:=h.change (E':={ E with H:=H' }) n none (qMy σ.objs n) σ.used none .undef undef (fun m=>qWj _ _ _) hHle (fun _ _=>⟨rfl,rfl,rfl⟩) (fun _=>hE n) (fun _=>⟨_,ho⟩) (Nat.le_refl _) ⟨rfl,rfl,rfl⟩
  (fun b' _ hne=>⟨rfl,hsame b' (fun e=>hne _ ho (by rw [e,hgn];rfl))⟩) hheap (fun o e=>by cases e) (fun o b e=>by cases e) (fun _ h=>h) (by simp [RepV]) (by simp [V.names]) (by simp)
 have hv1:∀ (x:V) (v:Value),RepV { E with H:=H' } x v→RepV { E with H:=H' } (qS7 K n ps x) v:=by
  intro x v hx
  unfold qS7
  split
  ·rename_i m off
   split
   ·rename_i e
    subst e
    simp only [RepV] at hx
    obtain⟨b',hg',hv⟩:=hx
    rw [hgn] at hg'
    cases hg'
    simp only [RepV]
    rw [hv]
    exact hl2 b H' hHle (by simp [H']) off
   ·exact hx
  ·exact hx
 have hvL:∀ (cs:List V) (vs:List Value),RepVL { E with H:=H' } cs vs→RepVL { E with H:=H' } (qO6 K n ps cs) vs:=by
  intro cs
  induction cs with
  | nil=>intro vs _;simp [qO6,RepVL]
  | cons c cs ih =>
   intro vs hr
   cases vs with
   | nil=>simp [RepVL] at hr
   | cons v vs =>
    simp only [RepVL] at hr
    simp only [qO6,RepVL]
    exact⟨hv1 c v hr.1,ih vs hr.2⟩
 refine⟨{ E with H:=H' },?_,hc.size,hc.defers,hc.heap,?_,?_,?_,?_,hc.usedG,hc.grown,hc.rest,hc.same,hc.hle,?_,hc.ext,fun k hk=>⟨(hc.keep k hk).1,?_,(hc.keep k hk).2.2⟩⟩
 ·intro t
  simp only [St.frb,qEh]
  exact hv1 _ _ (hc.slots t)
 ·intro m o hm
  simp only [St.frb,qKg] at hm
  split at hm
  ·cases hm
  ·rename_i hne
   cases hq:qQc σ.objs m with
   | none=>rw [hq] at hm;cases hm
   | some q =>
    rw [hq] at hm
    simp only [Option.map_some,Option.some.injEq] at hm
    subst hm
    have hq':qQc (qMy σ.objs n) m=some q:=by rw [qWj,if_neg hne,hq]
    have hok:=hc.objs m q hq'
    cases q with
    | box cs =>
     obtain⟨b,c,T,h1,h2,h3,h4,h5⟩:=hok
     exact⟨b,c,T,h1,h2,by rw [h3,qTu],hvL cs _ h4,h5⟩
    | arr v s t es'=>exact hok
    | cache D F=>exact hok
    | imap es=>exact hok
    | smap s es=>exact hok
    | siter l p=>exact hok
    | raw v x=>exact hok
 ·intro m m' o o' hm hm' hne b hb
  simp only [St.frb,qKg] at hm hm'
  split at hm
  ·cases hm
  ·split at hm'
   ·cases hm'
   ·cases hq:qQc σ.objs m with
    | none=>rw [hq] at hm;cases hm
    | some q =>
     cases hq':qQc σ.objs m' with
     | none=>rw [hq'] at hm';cases hm'
     | some q'=>exact h.apart m m' q q' hq hq' hne b hb
 ·intro t m hm
  simp only [St.frb,qEh] at hm
  exact h.usedS t m (qDf K n ps _ m hm)
 ·intro m o hm
  simp only [St.frb,qKg] at hm
  split at hm
  ·cases hm
  ·cases hq:qQc σ.objs m with
   | none=>rw [hq] at hm;cases hm
   | some q =>
    rw [hq] at hm
    simp only [Option.map_some,Option.some.injEq] at hm
    subst hm
    refine⟨(h.usedO m q hq).1,fun k hk=>(h.usedO m q hq).2 k ?_⟩
    cases q with
    | box cs=>exact qNf K n ps cs k hk
    | arr v s t es'=>exact hk
    | cache D F=>exact hk
    | imap es=>exact hk
    | smap s es=>exact hk
    | siter l p=>exact hk
    | raw v x=>exact hk
 ·intro m o b hm hb hlt
  simp only [St.frb,qKg] at hm
  split at hm
  ·cases hm
  ·cases hq:qQc σ.objs m with
   | none=>rw [hq] at hm;cases hm
   | some q=>exact h.own m q b hq hb hlt
 ·simp only [St.frb,qKg]
  have:=(h.keep k hk).2.1
  split
  ·rfl
  ·rw [this];rfl
end
end Go.Lg
namespace Go.Lg
mutual
def V.ren (ρ:Nat→Nat):V→V
 | .undef => .undef
 | .pv p => .pv p
 | .loc n off => .loc (ρ n) off
 | .eloc n ver i off => .eloc (ρ n) ver i off
 | .arr n ver len => .arr (ρ n) ver len
 | .map n => .map (ρ n)
 | .vsl es => .vsl (qIg ρ es)
 | .fsl es => .fsl es
 | .fn f cs => .fn f (qEi ρ cs)
 | .bfn f cs => .bfn f (qEi ρ cs)
 | .agg cs => .agg (qEi ρ cs)
 | .tuple cs => .tuple (qEi ρ cs)
def qEi (ρ:Nat→Nat):List V→List V
 | []=>[]
 | c::cs=>c.ren ρ::qEi ρ cs
def qIg (ρ:Nat→Nat):List (List V)→List (List V)
 | []=>[]
 | e::es=>qEi ρ e::qIg ρ es
end
theorem zV6 (ρ:Nat→Nat) (l:List V):qEi ρ l=l.map (V.ren ρ):=by
 induction l with
 | nil=>rfl
 | cons c l ih=>simp [qEi,ih]
theorem qO7 (ρ:Nat→Nat) (l:List (List V)):qIg ρ l=l.map (qEi ρ):=by
 induction l with
 | nil=>rfl
 | cons c l ih=>simp [qIg,ih]
theorem qJ5 (ρ:Nat→Nat) (l:List V):(qEi ρ l).length=l.length:=by simp [zV6]
theorem qLn (ρ:Nat→Nat) (l:List (List V)):(qIg ρ l).length=l.length:=by simp [qO7]
def qTx (ρ:Nat→Nat):List (SK × V)→List (SK × V)
 | []=>[]
 | (k,x)::r=>(k,x.ren ρ)::qTx ρ r
def Ob.ren (ρ:Nat→Nat):Ob→Ob
 | .box cs => .box (qEi ρ cs)
 | .arr ver sz ty es => .arr ver sz ty (qIg ρ es)
 | .cache D F => .cache D F
 | .imap es => .imap es
 | .smap s es => .smap s (qTx ρ es)
 | .siter l p => .siter l p
 | .raw v x => .raw v x
def qIh (ρ:Nat→Nat):List (Nat × Ob)→List (Nat × Ob)
 | []=>[]
 | (n,o)::r=>(ρ n,o.ren ρ)::qIh ρ r
def Out.ren (ρ:Nat→Nat):Out→Out
 | .ret x => .ret (x.ren ρ)
 | .panic p => .panic p
def Env.comp (E:Env) (ρ:Nat→Nat):Env:=⟨E.H,fun n=>E.g (ρ n),fun n=>E.ver (ρ n),fun n=>E.sz (ρ n)⟩
mutual
theorem RepV.ren {E:Env} {ρ:Nat→Nat} : ∀ (x:V) (v:Value),RepV E (x.ren ρ) v↔RepV (E.comp ρ) x v
 | .undef,_=>by simp [V.ren,RepV]
 | .pv p,v=>by simp [V.ren,RepV,Env.comp]
 | .loc n off,v=>by simp [V.ren,RepV,Env.comp]
 | .eloc n ver i off,v=>by simp [V.ren,RepV,Env.comp]
 | .arr n ver len,v=>by simp [V.ren,RepV,Env.comp]
 | .map n,v=>by simp [V.ren,RepV,Env.comp]
 | .vsl es,v=>by
  simp only [V.ren,RepV,qLn]
  have h:∀ vs,RepVE E (qIg ρ es) vs↔RepVE (E.comp ρ) es vs:=RepVE.ren es
  have hn:qIg ρ es=[]↔es=[]:=by cases es<;>simp [qIg]
  simp only [h,hn]
  rfl
 | .fsl es,v=>by simp [V.ren,RepV,Env.comp]
 | .fn f cs,v=>by simp only [V.ren,RepV,qJ5,RepVL.ren cs]
 | .bfn f cs,v=>by simp only [V.ren,RepV,qJ5,RepVL.ren cs]
 | .agg cs,v=>by simp only [V.ren,RepV,qJ5,RepVL.ren cs]
 | .tuple cs,v=>by simp only [V.ren,RepV,qJ5,RepVL.ren cs]
theorem RepVL.ren {E:Env} {ρ:Nat→Nat} : ∀ (cs:List V) (vs:List Value),RepVL E (qEi ρ cs) vs↔RepVL (E.comp ρ) cs vs
 | [],_=>by simp [qEi,RepVL]
 | c::cs,[]=>by simp [qEi,RepVL]
 | c::cs,v::vs=>by simp only [qEi,RepVL,RepV.ren c v,RepVL.ren cs vs]
theorem RepVE.ren {E:Env} {ρ:Nat→Nat} : ∀ (es:List (List V)) (vs:List Value),RepVE E (qIg ρ es) vs↔RepVE (E.comp ρ) es vs
 | [],_=>by simp [qIg,RepVE]
 | e::es,vs=>by simp only [qIg,RepVE,qJ5,RepVL.ren e vs,RepVE.ren es (vs.drop e.length)]
end
theorem EntsS.ren {E:Env} {ρ:Nat→Nat} {s:Bool} : ∀ (es:List (SK × V)) (ms:List MapEntry),EntsS E s (qTx ρ es) ms↔EntsS (E.comp ρ) s es ms
 | [],[]=>Iff.rfl
 | [],_::_=>Iff.rfl
 | (k,x)::es,[]=>Iff.rfl
 | (k,x)::es,m::ms=>by simp only [qTx,EntsS,RepV.ren x,EntsS.ren es ms]
theorem ObOK.ren {E:Env} {w:World} {ρ:Nat→Nat} {n:Nat} (o:Ob):ObOK E w (ρ n) (o.ren ρ)↔ObOK (E.comp ρ) w n o:=by
 cases o with
 | box cs=>simp only [Ob.ren,ObOK,qJ5,RepVL.ren cs];rfl
 | arr ver sz ty es =>
  have h:(∀ e∈qIg ρ es,e.length=sz) ↔ ∀ e∈es,e.length=sz:=by
   rw [qO7]
   simp [qJ5]
  simp only [Ob.ren,ObOK,qLn,RepVE.ren es,h]
  rfl
 | cache D F=>simp only [Ob.ren,ObOK];rfl
 | imap es=>simp only [Ob.ren,ObOK];rfl
 | smap s es=>simp only [Ob.ren,ObOK,EntsS.ren es];rfl
 | siter l p=>simp only [Ob.ren,ObOK];rfl
 | raw v x=>simp only [Ob.ren,ObOK];rfl
mutual
theorem V.ren_names (ρ:Nat→Nat):∀ x:V,(x.ren ρ).names=x.names.map ρ
 | .undef=>rfl
 | .pv _=>rfl
 | .loc _ _=>rfl
 | .eloc _ _ _ _=>rfl
 | .arr _ _ _=>rfl
 | .map _=>rfl
 | .vsl es=>by simp only [V.ren,V.names,qX4 ρ es]
 | .fsl _=>rfl
 | .fn _ cs=>by simp only [V.ren,V.names,qZ0 ρ cs]
 | .bfn _ cs=>by simp only [V.ren,V.names,qZ0 ρ cs]
 | .agg cs=>by simp only [V.ren,V.names,qZ0 ρ cs]
 | .tuple cs=>by simp only [V.ren,V.names,qZ0 ρ cs]
theorem qZ0 (ρ:Nat→Nat):∀ l:List V,qQj (qEi ρ l)=(qQj l).map ρ
 | []=>rfl
 | c::cs=>by simp only [qEi,qQj,V.ren_names ρ c,qZ0 ρ cs,List.map_append]
theorem qX4 (ρ:Nat→Nat):∀ l:List (List V),qQn (qIg ρ l)=(qQn l).map ρ
 | []=>rfl
 | e::es=>by simp only [qIg,qQn,qZ0 ρ e,qX4 ρ es,List.map_append]
end
theorem qDg (ρ:Nat→Nat):∀ l:List (SK × V),qZd (qTx ρ l)=(qZd l).map ρ
 | []=>rfl
 | (k,x)::r=>by simp only [qTx,qZd,V.ren_names ρ x,qDg ρ r,List.map_append]
theorem Ob.ren_names (ρ:Nat→Nat) (o:Ob):(o.ren ρ).names=o.names.map ρ:=by
 cases o with
 | box cs=>simp only [Ob.ren,Ob.names,qZ0]
 | arr ver sz ty es=>simp only [Ob.ren,Ob.names,qX4]
 | cache D F=>rfl
 | imap es=>rfl
 | smap s es=>simp only [Ob.ren,Ob.names,qDg]
 | siter l p=>rfl
 | raw v x=>rfl
section
variable {ρ:Nat→Nat} (hρ:∀ n,ρ (ρ n)=n)
include hρ
theorem qO8 {a b:Nat} (h:ρ a=ρ b):a=b:=by rw [← hρ a,h,hρ]
theorem qEj (l:List (Nat × Ob)) (n:Nat):qQc (qIh ρ l) n=(qQc l (ρ n)).map (Ob.ren ρ):=by
 induction l with
 | nil=>rfl
 | cons p r ih =>
  obtain⟨k,o⟩:=p
  simp only [qIh,qQc,ih]
  by_cases e:ρ k=n
  ·subst e
   simp [hρ]
  ·have:¬ k=ρ n:=fun h=>e (by rw [h,hρ])
   simp [e,this]
theorem qXl (l:List (Nat × Ob)):qQa (qIh ρ l)=(qQa l).map ρ:=by
 induction l with
 | nil=>rfl
 | cons p r ih =>
  obtain⟨k,o⟩:=p
  simp only [qIh,qQa,List.map_cons] at ih ⊢
  rw [ih]
theorem qGe (args:List V) (l:List (Nat × Ob)):qKy (qEi ρ args) (qIh ρ l)=(qKy args l).map ρ:=by
 have h:qJv (qIh ρ l)=(qJv l).map ρ:=by
  induction l with
  | nil=>rfl
  | cons p r ih =>
   obtain⟨k,o⟩:=p
   simp only [qIh,qJv,List.map_append,Ob.ren_names,ih]
 simp only [qKy,qZ0,h,List.map_append]
theorem AC.ren {P:Program} {gl:Nat→Option (List PV)} {f:Nat} {args:List V} {objs:List (Nat × Ob)} {out:Out} {objs':List (Nat × Ob)} (h:AC P gl f args objs out objs') :
  AC P gl f (qEi ρ args) (qIh ρ objs) (out.ren ρ) (qIh ρ objs'):=by
 have hmem:∀ {l:List Nat} {n:Nat},n∈l.map ρ↔ρ n∈l:=by
  intro l n
  rw [List.mem_map]
  exact⟨fun ⟨m,hm,e⟩=>by rw [← e,hρ];exact hm,fun hm=>⟨ρ n,hm,hρ n⟩⟩
 have hget:∀ {l:List (Nat × Ob)} {n:Nat} {o:Ob},qQc (qIh ρ l) n=some o→∃ o',qQc l (ρ n)=some o'∧o'.ren ρ=o:=by
  intro l n o hn
  rw [qEj hρ] at hn
  cases e:qQc l (ρ n) with
  | none=>rw [e] at hn;cases hn
  | some o'=>rw [e] at hn;exact⟨o',rfl,Option.some.inj hn⟩
 have hget':∀ {l:List (Nat × Ob)} {n:Nat} {o:Ob},qQc l n=some o→qQc (qIh ρ l) (ρ n)=some (o.ren ρ):=by
  intro l n o hn
  rw [qEj hρ,hρ,hn]
  rfl
 have hnone:∀ {l:List (Nat × Ob)} {n:Nat},qQc (qIh ρ l) n=none→qQc l (ρ n)=none:=by
  intro l n hn
  rw [qEj hρ] at hn
  cases e:qQc l (ρ n) with
  | none=>rfl
  | some o'=>rw [e] at hn;cases hn
 refine⟨h.direct,?_,?_,?_⟩
 ·intro n hn
  rw [qXl hρ,qXl hρ,qGe hρ,hmem,hmem,hmem]
  cases out with
  | ret x =>
   simp only [Out.ren,Out.names,V.ren_names,hmem] at hn
   exact h.names (ρ n) hn
  | panic p=>simp [Out.ren,Out.names] at hn
 ·intro m o hm n hn
  obtain⟨o',ho',rfl⟩:=hget hm
  rw [Ob.ren_names,hmem] at hn
  rw [qXl hρ,qXl hρ,qGe hρ,hmem,hmem,hmem]
  exact h.namesO _ o' ho' _ hn
 ·intro E w vs hB hl hr
  have hB':zYu gl (E.comp ρ) w objs:=by
   refine⟨hB.heap,hB.glob,fun n o hn=>(ObOK.ren o).1 (hB.obs _ _ (hget' hn)),fun n m o o' hn hm hne b hb => ?_⟩
   exact hB.apart (ρ n) (ρ m) _ _ (hget' hn) (hget' hm) (fun e=>hne (qO8 hρ e)) b hb
  refine (h.calls (E.comp ρ) w vs hB' (by rw [hl,qJ5]) ((RepVL.ren args vs).1 hr)).mono ?_
  rintro e w' ⟨E',hD,ho⟩
  have hcomp:∀ F:Env,(F.comp ρ).comp ρ=F:=by
   intro F
   simp [Env.comp,hρ]
  refine⟨E'.comp ρ,⟨hD.heap,?_,?_,hD.hle,hD.size,hD.rest,?_,?_,?_,?_⟩,?_⟩
  ·intro n o hn
   obtain⟨o',ho',rfl⟩:=hget hn
   have:=hD.obs _ o' ho'
   rw [← hcomp E'] at this
   have:=(ObOK.ren (E:=E'.comp ρ) (n:=ρ n) o').2 this
   rwa [hρ] at this
  ·intro n m o o' hn hm hne b hb
   obtain⟨q,hq,_⟩:=hget hn
   obtain⟨q',hq',_⟩:=hget hm
   exact hD.apart (ρ n) (ρ m) q q' hq hq' (fun e=>hne (qO8 hρ e)) b hb
  ·intro b hb hnb
   refine hD.same b hb (fun n o hn e => ?_)
   exact hnb (ρ n) _ (hget' hn) e
  ·intro n o b hn hb
   obtain⟨q,hq,_⟩:=hget hn
   rcases hD.own (ρ n) q b hq hb with h1|⟨m,o',hm,hbm⟩
   ·exact .inl h1
   ·exact .inr ⟨ρ m,_,hget' hm,hbm⟩
  ·intro n o hn
   obtain⟨q,hq,_⟩:=hget hn
   have:=hD.ext (ρ n) q hq
   simpa [EExt,Env.comp,hρ] using this
  ·intro n h1 h2
   have:=hD.other (ρ n) (hnone h1) (hnone h2)
   simpa [Env.comp,hρ] using this
  ·cases out with
   | ret x =>
    obtain⟨v,rfl,hv⟩:=ho
    refine⟨v,rfl,?_⟩
    rw [← hcomp E'] at hv
    exact (RepV.ren x v).2 hv
   | panic p =>
    obtain⟨v,rfl,hv⟩:=ho
    exact⟨v,rfl,hv⟩
end
end Go.Lg
namespace Go.Lg
end Go.Lg
namespace Go.Lg
end Go.Lg
namespace Go.Lg
theorem AC.le {P:Program} {gl:Nat→Option (List PV)} {f:Nat} {args args':List V} {objs objs':List (Nat × Ob)} {out:Out} (h:AC P gl f args' objs out objs') (hl:args.length=args'.length) (hm:qKy args objs=qKy args' objs)
  (hr:∀ E vs,RepVL E args vs→RepVL E args' vs):AC P gl f args objs out objs' :=
 ⟨h.direct,by rw [hm];exact h.names,by rw [hm];exact h.namesO,fun E w vs hB hv hR=>h.calls E w vs hB (hv.trans hl) (hr E vs hR)⟩
theorem AC.leO {P:Program} {gl:Nat→Option (List PV)} {f:Nat} {args:List V} {objs objs':List (Nat × Ob)} {p q:PV} (h:AC P gl f args objs (.ret (.pv p)) objs') (hr:∀ H v,RepP H p v→RepP H q v):AC P gl f args objs (.ret (.pv q)) objs':=by
 refine⟨h.direct,h.names,h.namesO,fun E w vs hB hv hR=>(h.calls E w vs hB hv hR).mono ?_⟩
 rintro e w' ⟨E',hd,v,he,hv⟩
 exact⟨E',hd,v,he,hr _ _ hv⟩
theorem qTy {H:Hp} {v:Value} (h:RepP H .nils v):RepP H (.slice []) v:=by
 simp only [RepP] at h ⊢
 exact⟨none,0,by simpa using h,by simp,by simp,by simp⟩
end Go.Lg
