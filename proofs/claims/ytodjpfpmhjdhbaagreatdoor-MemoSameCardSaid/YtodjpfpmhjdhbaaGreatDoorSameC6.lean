/- Part of the proof: contracts of the types, terms, the generator and the compiler; no conditions. -/
import Derived.Test.YtodjpfpmhjdhbaaGreatDoorSameC5
import Derived.Test.YtodjpfpmhjdhbaaGreatDoorSameC1
import Derived.Test.YtodjpfpmhjdhbaaGreatDoorSameB1
set_option linter.unusedVariables false
set_option linter.unusedSimpArgs false
set_option linter.unusedSectionVars false
namespace Go.Proofs.YtodjpfpmhjdhbaaGreatDoor
open Go.Lg
theorem enC6 {P Q : Prop} (h : P := by simp [retIs,resV,resL,resOne,mkTup,getS,getO,rdV,mkAgg,unL,V.un,TI.isAgg,XX_T,tt27,Tryz.f154]) (k : Q := by simp [subO,getO,tt27,Tryz.f154]) : P ∧ Q := ⟨h,k⟩
end Go.Proofs.YtodjpfpmhjdhbaaGreatDoor
/- Compiled code passes the scan. -/
namespace Go.Proofs.YtodjpfpmhjdhbaaGreatDoor
open Go.Lg
theorem Ext.lt {c c':List Ins} (h:Ext c c') {k:Nat} (hk:k<c.length):∃ op a a',c[k]? = some (op,a)∧c'[k]? = some (op,a')∧(op≠2→a'=a):=by
 have e:=List.getElem?_eq_getElem hk
 obtain ⟨a',h1,h2⟩:=h k (c[k]).1 (c[k]).2 (by rw [e])
 exact ⟨_,_,a',by rw [e],h1,h2⟩
theorem scH_ext {c c':List Ins} (h:Ext c c'):∀ k,k≤c.length→scH c' k=scH c k∧scS c' k=scS c k∧scG c' k=scG c k:=by
 intro k
 induction k with
 | zero=>intro _;exact ⟨rfl,rfl,rfl⟩
 | succ k ih =>
  intro hk
  obtain ⟨i1,i2,i3⟩:=ih (by omega)
  obtain ⟨op,a,a',h1,h2,-⟩:=h.lt (k:=k) (by omega)
  simp only [scH,scS,scG,h1,h2,i1,i2,i3,and_self]
theorem Pass.ext {c c':List Ins} (h:Ext c c') {k:Nat} (hk:k<c.length) (hp:Pass c k):Pass c' k:=by
 obtain ⟨op,a,h1,h2,h3,h4,h5,h6⟩:=hp
 obtain ⟨a',h7,h8⟩:=h k op a h1
 refine ⟨op,a',h7,h2,h3,fun e => ?_,fun e => ?_,fun e1 e2 => ?_⟩
 ·rw [h8 (by omega),(scH_ext h k (by omega)).1];exact h4 e
 ·rw [(scH_ext h k (by omega)).1];exact h5 e
 ·rw [h8 e2];exact h6 e1 e2
def pos (l:List Tm):Nat→Nat
 | 0=>0
 | j+1=>pos l j+inl (l.getD j .unit)+1
theorem pos_app (l r:List Tm):∀ j,j≤l.length→pos (l++r) j=pos l j:=by
 intro j
 induction j with
 | zero=>intro _;rfl
 | succ j ih =>
  intro hj
  simp only [pos]
  rw [ih (by omega)]
  have:(l++r).getD j .unit=l.getD j .unit:=by
   simp only [List.getD]
   rw [List.getElem?_append_left (by omega)]
  rw [this]
structure KP (t:Tm) (i:Nat) (m:Mk):Prop where
 len:m.code.length=pos (t::m.bodies) (i+1)
 high:scH m.code m.code.length=0
 starts:scS m.code m.code.length=(List.range (i+2)).map (pos (t::m.bodies))
 funs:scG m.code m.code.length=m.places
 pass:∀ k,k<m.code.length→Pass m.code k
 don:∀ j,j<i→∀ p,m.places[j]? = some p→m.code[p]? = some (2,pos (t::m.bodies) (j+1))∧p<pos (t::m.bodies) (j+1)
theorem scan_ret {c:List Ins} {p q:Nat} {g:List Nat} (h:Scan c p q 1 g) (h0:scH c p=0) (hq:c[q]? = some (14,0)):scH c (q+1)=0∧scS c (q+1)=scS c p++[q+1]∧scG c (q+1)=scG c p++g ∧ ∀ k,p≤k→k<q+1→Pass c k:=by
 have hh:=h.high
 refine ⟨by simp [scH,hq],by simp [scS,hq,h.starts],by simp [scG,hq,h.funs],?_⟩
 intro k h1 h2
 by_cases hk:k<q
 ·exact h.pass k h1 hk
 ·have:k=q:=by omega
  subst this
  exact ⟨14,0,hq,by decide,by decide,⟨fun _=>⟨rfl,by omega⟩,fun e=>absurd rfl e,fun _ _=>rfl⟩⟩
theorem KP.start (t:Tm):KP t 0 (begC t):=by
 have hS:=(KC.start t).top
 have hl:=blk_codelen t ⟨[],[],[]⟩
 simp only [List.length_nil,Nat.zero_add] at hl
 have hlen:(begC t).code.length=inl t+1:=by
  unfold begC
  rw [emit_len,hl]
 obtain ⟨r1,r2,r3,r4⟩:=scan_ret hS.1.scan rfl hS.2
 have hp:(begC t).places=lp t 0:=by
  show (blkT t ⟨[],[],[]⟩).places=_
  rw [blk_lp]
  rfl
 have hpos:pos (t::(begC t).bodies) 1=inl t+1:=by simp [pos]
 refine ⟨by rw [hlen,hpos],by rw [hlen];exact r1,?_,by rw [hlen,r3,hp];rfl,fun k hk=>r4 k (Nat.zero_le _) (by omega),fun j hj=>by omega⟩
 rw [hlen,r2]
 simp [scS,List.range_succ,hpos,pos]
theorem KP.next {t:Tm} {i:Nat} {m:Mk} (hk:KC t i m) (h:KP t i m) (hi:i<m.bodies.length):KP t (i+1) (stepC m i):=by
 obtain ⟨b,hb⟩:∃ b,m.bodies[i]? = some b:=⟨_,List.getElem?_eq_getElem hi⟩
 obtain ⟨p,hp⟩:∃ p,m.places[i]? = some p:=⟨_,List.getElem?_eq_getElem (by rw [hk.len];exact hi)⟩
 have hbd:m.bodies.getD i .unit=b:=by simp [List.getD,hb]
 have hpd:m.places.getD i 0=p:=by simp [List.getD,hp]
 obtain ⟨A0,hA0⟩:=hk.pl.two p (List.mem_of_getElem? hp)
 have hpl:p<m.code.length:=(List.getElem?_eq_some_iff.1 hA0).1
 have hpatch:m.patch p=⟨m.code.set p (2,m.code.length),m.bodies,m.places⟩:=by
  unfold Mk.patch
  have:m.code.getD p (0,0)=(2,A0):=by simp [List.getD,hA0]
  rw [this]
 have hst:stepC m i=(blkT b ⟨m.code.set p (2,m.code.length),m.bodies,m.places⟩).emit 14 0:=by
  unfold stepC
  rw [hbd,hpd,hpatch]
 generalize hm1:(⟨m.code.set p (2,m.code.length),m.bodies,m.places⟩:Mk)=m1 at *
 have c1:m1.code=m.code.set p (2,m.code.length):=by rw [← hm1]
 have b1:m1.bodies=m.bodies:=by rw [← hm1]
 have q1:m1.places=m.places:=by rw [← hm1]
 have l1:m1.places.length=m1.bodies.length:=by rw [b1,q1];exact hk.len
 have lc1:m1.code.length=m.code.length:=by rw [c1];simp
 have e1:Ext m.code m1.code:=by rw [c1];exact .set ⟨A0,hA0⟩
 have e2:Ext m1.code (stepC m i).code:=by
  rw [hst]
  exact (Ext.pre (blk_code b m1)).trans (emit_ext _ _ _)
 have e12:=e1.trans e2
 have x2:∀ (k:Nat) (v:Ins),m1.code[k]? = some v→(stepC m i).code[k]? = some v:=by
  intro k v hk
  have hpre:m1.code <+: (stepC m i).code:=by
   rw [hst]
   exact (blk_code b m1).trans (by simp [Mk.emit])
  obtain ⟨d,hd⟩:=hpre
  rw [← hd,List.getElem?_append_left (List.getElem?_eq_some_iff.1 hk).1]
  exact hk
 have hbods:(stepC m i).bodies=m.bodies++bods b:=by
  rw [hst]
  show (blkT b m1).bodies=_
  rw [blk_bodies,b1]
 have hplc:(stepC m i).places=m.places++lp b m.code.length:=by
  rw [hst]
  show (blkT b m1).places=_
  rw [blk_lp,q1,lc1]
 have hclen:(stepC m i).code.length=m.code.length+inl b+1:=by
  rw [hst,emit_len,blk_codelen,lc1]
 have hSA:SA (stepC m i).code (stepC m i).prs b m.code.length (m.code.length+inl b):=by
  have:=blk_SA b m1 l1
  rw [blk_codelen,lc1] at this
  rw [hst]
  exact this.mono (emit_ext _ _ _) (fun x hx=>hx)
 have hR:(stepC m i).code[m.code.length+inl b]? = some (14,0):=by
  have:=emit_last (blkT b m1) 14 0
  rw [blk_codelen,lc1] at this
  rw [hst]
  exact this
 obtain ⟨x1,x3,x4⟩:=scH_ext e12 m.code.length (Nat.le_refl _)
 obtain ⟨r1,r2,r3,r4⟩:=scan_ret hSA.scan (by rw [x1];exact h.high) hR
 have hpos:∀ j,j≤i+1→pos (t::(stepC m i).bodies) j=pos (t::m.bodies) j:=by
  intro j hj
  rw [hbods]
  exact pos_app (t::m.bodies) (bods b) j (by simp;omega)
 have hpn:pos (t::(stepC m i).bodies) (i+2)=m.code.length+inl b+1:=by
  show pos _ (i+1)+inl ((t::(stepC m i).bodies).getD (i+1) .unit)+1=_
  rw [hpos (i+1) (Nat.le_refl _),← h.len]
  have:(t::(stepC m i).bodies).getD (i+1) .unit=b:=by
   rw [hbods]
   simp only [List.getD,List.getElem?_cons_succ]
   rw [List.getElem?_append_left hi,hb]
   rfl
  rw [this]
 refine ⟨by rw [hclen,hpn],by rw [hclen];exact r1,?_,?_,?_,?_⟩
 ·rw [hclen,r2,x3,h.starts]
  rw [List.range_succ (n:=i+2),List.map_append]
  congr 1
  ·refine List.map_congr_left ?_
   intro j hj
   exact (hpos j (by have:=List.mem_range.1 hj;omega)).symm
  ·simp [hpn]
 ·rw [hclen,r3,x4,h.funs,hplc]
 ·intro k hk'
  by_cases hkl:k<m.code.length
  ·exact (h.pass k hkl).ext e12 hkl
  ·exact r4 k (by omega) (by omega)
 ·intro j hj p' hp'
  have hjl:j<m.places.length:=by rw [hk.len];omega
  rw [hplc,List.getElem?_append_left hjl] at hp'
  rw [hpos (j+1) (by omega)]
  by_cases e:j=i
  ·subst e
   rw [hp] at hp'
   cases hp'
   rw [← h.len]
   refine ⟨x2 _ _ ?_,hpl⟩
   rw [c1,List.getElem?_set_self hpl]
  ·obtain ⟨h1,h2⟩:=h.don j (by omega) p' hp'
   refine ⟨x2 _ _ ?_,h2⟩
   have hne:p≠p':=by
    rintro rfl
    have hj':j<m.places.length:=hjl
    have hi':i<m.places.length:=by rw [hk.len];exact hi
    rw [List.getElem?_eq_getElem hj'] at hp'
    rw [List.getElem?_eq_getElem hi'] at hp
    have h1:=Option.some.inj hp'
    have h2:=Option.some.inj hp
    exact e ((List.getElem_inj hk.pl.nd).1 (h1.trans h2.symm))
   rw [c1,List.getElem?_set_ne hne]
   exact h1
theorem KP.fin {t:Tm} {fin:Mk} {S:Nat} : ∀ (n i:Nat) (m:Mk),pend m i≤n→JC fin S i m→KC t i m→KP t i m→KP t fin.bodies.length fin:=by
 have stop:∀ (i:Nat) (m:Mk),¬ i<m.bodies.length→JC fin S i m→KP t i m→KP t fin.bodies.length fin:=by
  intro i m hi hj hp
  obtain ⟨k,-,hr⟩:=hj.run
  have:runC k i m=m:=by
   cases k with
   | zero=>rfl
   | succ k=>simp [runC,hi]
  have hle:=hj.le
  have e:i=m.bodies.length:=by omega
  rw [← hr,this,← e]
  exact hp
 intro n
 induction n with
 | zero =>
  intro i m hn hj hk hp
  refine stop i m ?_ hj hp
  intro hi
  have:=(hj.next hi).2
  omega
 | succ n ih =>
  intro i m hn hj hk hp
  by_cases hi:i<m.bodies.length
  ·have:=hj.next hi
   exact ih (i+1) (stepC m i) (by omega) this.1 (hk.next hi) (hp.next hk hi)
  ·exact stop i m hi hj hp
theorem fin_KP (t:Tm):KP t (finC t).bodies.length (finC t):=KP.fin (pend (begC t) 0) 0 (begC t) (Nat.le_refl _) (JC.start t) (KC.start t) (KP.start t)
structure GoodC (c:List Ins):Prop where
 lo:1≤c.length
 hi:c.length≤4096
 last:∃ a,c[c.length-1]? = some (14,a)
 pass:∀ k,k<c.length→Pass c k
 fwd:∀ (k a:Nat),c[k]? = some (2,a)→k<a
 fin:scS c c.length=0::(scF c c.length++[c.length])
 bnd:∀ (k op a:Nat),c[k]? = some (op,a)→a≤1000000
theorem scF_eq (c:List Ins):∀ k,scF c k=(scG c k).map (fun p=>(c.getD p (0,0)).2):=by
 intro k
 induction k with
 | zero=>rfl
 | succ k ih =>
  simp only [scF,scG]
  cases e:c[k]? with
  | none=>exact ih
  | some x =>
   obtain ⟨op,a⟩:=x
   simp only
   split
   ·simp [ih,List.getD,e]
   ·exact ih
theorem scS_le (c:List Ins):∀ k,∀ x∈scS c k,x≤k:=by
 intro k
 induction k with
 | zero=>intro x hx;simp [scS] at hx;omega
 | succ k ih =>
  intro x hx
  simp only [scS] at hx
  split at hx
  ·split at hx
   ·rcases List.mem_append.1 hx with h | h
    ·have:=ih x h;omega
    ·simp at h;omega
   ·have:=ih x hx;omega
  ·have:=ih x hx;omega
theorem scG_mem (c:List Ins):∀ n k a,c[k]? = some (2,a)→k<n→k∈scG c n:=by
 intro n
 induction n with
 | zero=>intro k a _ h;omega
 | succ n ih =>
  intro k a hc hk
  simp only [scG]
  by_cases e:k=n
  ·subst e
   rw [hc]
   simp
  ·have:=ih k a hc (by omega)
   split
   ·split
    ·exact List.mem_append.2 (.inl this)
    ·exact this
   ·exact this
theorem goodC {t:Tm} {τ:Ty} (h:HasTy [] t τ) (hl:(finC t).code.length≤4096) (hs:t.size≤4096):GoodC (finC t).code:=by
 have kp:=fin_KP t
 have kc:=KC.fin (pend (begC t) 0) 0 (begC t) (Nat.le_refl _) (JC.start t) (KC.start t)
 have ok:=fin_okI h
 generalize finC t=m at *
 have hlo:1≤m.code.length:=by rw [kp.len];simp [pos]
 have hfull:∀ (k a:Nat),m.code[k]? = some (2,a)→∃ j,j<m.bodies.length∧m.places[j]? = some k∧a=pos (t::m.bodies) (j+1)∧k<a:=by
  intro k a hk
  have hm:=scG_mem m.code m.code.length k a hk (List.getElem?_eq_some_iff.1 hk).1
  rw [kp.funs] at hm
  obtain ⟨j,hj⟩:=List.mem_iff_getElem?.1 hm
  have hjl:j<m.bodies.length:=by rw [← kc.len];exact (List.getElem?_eq_some_iff.1 hj).1
  obtain ⟨h1,h2⟩:=kp.don j hjl k hj
  rw [hk] at h1
  cases h1
  exact ⟨j,hjl,hj,rfl,h2⟩
 have hF:scF m.code m.code.length=(List.range m.bodies.length).map (fun j=>pos (t::m.bodies) (j+1)):=by
  rw [scF_eq,kp.funs]
  apply List.ext_getElem?
  intro j
  rw [List.getElem?_map,List.getElem?_map]
  by_cases hj:j<m.bodies.length
  ·have hjp:j<m.places.length:=by rw [kc.len];exact hj
   have e:=List.getElem?_eq_getElem hjp
   obtain ⟨h1,-⟩:=kp.don j hj _ e
   rw [e,List.getElem?_range hj]
   simp [List.getD,h1]
  ·rw [List.getElem?_eq_none (by rw [kc.len];omega),List.getElem?_eq_none (by simp;omega)]
   rfl
 refine ⟨hlo,hl,?_,kp.pass,fun k a hk => ?_,?_,fun k op a hk => ?_⟩
 ·have hmem:m.code.length∈scS m.code m.code.length:=by
   rw [kp.starts]
   refine List.mem_map.2 ⟨m.bodies.length+1,List.mem_range.2 (by omega),kp.len.symm⟩
  obtain ⟨op,a,h1,-⟩:=kp.pass (m.code.length-1) (by omega)
  refine ⟨a,?_⟩
  have e:m.code.length=(m.code.length-1)+1:=by omega
  rw [e] at hmem
  have:scS m.code (m.code.length-1+1)=if op=14 then scS m.code (m.code.length-1)++[m.code.length-1+1] else scS m.code (m.code.length-1):=by
   simp only [scS,h1]
  by_cases ho:op=14
  ·rw [h1,ho]
  ·have h3:m.code.length-1+1∈scS m.code (m.code.length-1+1):=by
    have e2:scS m.code (m.code.length-1+1)=scS m.code m.code.length:=by rw [← e]
    rw [e2,← e]
    rw [kp.starts]
    exact List.mem_map.2 ⟨m.bodies.length+1,List.mem_range.2 (by omega),kp.len.symm⟩
   rw [this,if_neg ho] at h3
   have:=scS_le m.code _ _ h3
   omega
 ·obtain ⟨j,-,-,-,h4⟩:=hfull k a hk
  exact h4
 ·rw [kp.starts,hF,List.range_succ,List.map_append]
  rw [List.range_succ_eq_map]
  simp [kp.len,pos]
 ·have:=(ok _ (List.mem_of_getElem? hk)).2.2.1
  simp only at this
  omega
end Go.Proofs.YtodjpfpmhjdhbaaGreatDoor
/- Numbers of cells in the table of memo, plainly. -/
namespace Go.Lg
theorem rep2 {H:Hp} {c d:PV} {cs ds:List PV} {vs:List Value} (h:RepL H (c::cs) vs) (h':RepL H (d::ds) vs):(∃ u,RepP H c u∧RepP H d u) ∧ ∃ us,RepL H cs us∧RepL H ds us:=by
 match vs,h,h' with
 | [],h,_=>exact h.elim
 | v::vs,h,h'=>exact ⟨⟨v,h.1,h'.1⟩,vs,h.2,h'.2⟩
theorem repPtr {H:Hp} {cs ds:List PV} {v:Value} (h:RepP H (.ptr cs) v) (h':RepP H (.ptr ds) v):∃ us,RepL H cs us∧RepL H ds us:=by
 simp only [RepP] at h h'
 obtain ⟨b,off,rfl,h⟩:=h
 obtain ⟨b',off',e,h'⟩:=h'
 cases e
 exact ⟨_,h,h'⟩
theorem repInt {H:Hp} {a b:Int} (h:∃ u,RepP H (.int a) u∧RepP H (.int b) u):a=b:=by
 obtain ⟨u,h1,h2⟩:=h
 simp only [RepP] at h1 h2
 rw [h1] at h2
 cases h2
 rfl
theorem repNil {H:Hp} {cs:List PV} (h:∃ u,RepP H .nil u∧RepP H (.ptr cs) u):False:=by
 obtain ⟨u,h1,h2⟩:=h
 simp only [RepP] at h1 h2
 obtain ⟨b,off,e,_⟩:=h2
 rw [h1] at e
 cases e
theorem repNil' {H:Hp} {cs:List PV} (h:∃ u,RepP H (.ptr cs) u∧RepP H .nil u):False:=by
 obtain ⟨u,h1,h2⟩:=h
 exact repNil ⟨u,h2,h1⟩
theorem link_rep {H:Hp} : ∀ (l k:List Nat),(∃ v,RepP H (linkP l) v∧RepP H (linkP k) v)→l=k
 | [],[],_=>rfl
 | [],_::_,h=>(repNil h).elim
 | _::_,[],h=>(repNil' h).elim
 | a::l,b::k,⟨v,h1,h2⟩=>by
  obtain ⟨us,r1,r2⟩:=repPtr h1 h2
  obtain ⟨c1,_,r1,r2⟩:=rep2 r1 r2
  obtain ⟨_,_,r1,r2⟩:=rep2 r1 r2
  obtain ⟨c3,_⟩:=rep2 r1 r2
  rw [link_rep l k c3]
  have:=repInt c1
  have:a=b:=by omega
  rw [this]
mutual
theorem it_rep {H:Hp} : ∀ (x y:It),(∃ v,RepP H (itP x) v∧RepP H (itP y) v)→x=y
 | x,y,⟨v,h1,h2⟩=>by
  rw [itP_eq] at h1 h2
  obtain ⟨us,r1,r2⟩:=repPtr h1 h2
  obtain ⟨k,_,r1,r2⟩:=rep2 r1 r2
  obtain ⟨n,_,r1,r2⟩:=rep2 r1 r2
  obtain ⟨l,_,r1,r2⟩:=rep2 r1 r2
  obtain ⟨f,_,r1,r2⟩:=rep2 r1 r2
  obtain ⟨s,_,r1,r2⟩:=rep2 r1 r2
  obtain ⟨a,_,r1,r2⟩:=rep2 r1 r2
  obtain ⟨w,_⟩:=rep2 r1 r2
  have k:=repInt k
  have n:=repInt n
  have a:=repInt a
  match x,y,k,n,l,f,s,a,w with
  | .num m,.num m',_,n,_,_,_,_,_ =>
   simp only [It.num0] at n
   have:m=m':=by omega
   rw [this]
  | .list m,.list m',_,_,l,_,_,_,_=>rw [link_rep m m' l]
  | .unit,.unit,_,_,_,_,_,_,_=>rfl
  | .pair p q,.pair p' q',_,_,_,f,s,_,_=>rw [it_rep p p' f,it_rep q q' s]
  | .fn m vs,.fn m' vs',_,_,_,_,_,a,w =>
   simp only [It.at0] at a
   have:m=m':=by omega
   rw [this,vars_rep vs vs' w]
  | .num _,.list _,k,_,_,_,_,_,_=>cases k
  | .num _,.unit,k,_,_,_,_,_,_=>cases k
  | .num _,.pair _ _,k,_,_,_,_,_,_=>cases k
  | .num _,.fn _ _,k,_,_,_,_,_,_=>cases k
  | .list _,.num _,k,_,_,_,_,_,_=>cases k
  | .list _,.unit,k,_,_,_,_,_,_=>cases k
  | .list _,.pair _ _,k,_,_,_,_,_,_=>cases k
  | .list _,.fn _ _,k,_,_,_,_,_,_=>cases k
  | .unit,.num _,k,_,_,_,_,_,_=>cases k
  | .unit,.list _,k,_,_,_,_,_,_=>cases k
  | .unit,.pair _ _,k,_,_,_,_,_,_=>cases k
  | .unit,.fn _ _,k,_,_,_,_,_,_=>cases k
  | .pair _ _,.num _,k,_,_,_,_,_,_=>cases k
  | .pair _ _,.list _,k,_,_,_,_,_,_=>cases k
  | .pair _ _,.unit,k,_,_,_,_,_,_=>cases k
  | .pair _ _,.fn _ _,k,_,_,_,_,_,_=>cases k
  | .fn _ _,.num _,k,_,_,_,_,_,_=>cases k
  | .fn _ _,.list _,k,_,_,_,_,_,_=>cases k
  | .fn _ _,.unit,k,_,_,_,_,_,_=>cases k
  | .fn _ _,.pair _ _,k,_,_,_,_,_,_=>cases k
theorem vars_rep {H:Hp} : ∀ (xs ys:List It),(∃ v,RepP H (varsP xs) v∧RepP H (varsP ys) v)→xs=ys
 | [],[],_=>rfl
 | [],_::_,h=>(repNil h).elim
 | _::_,[],h=>(repNil' h).elim
 | x::xs,y::ys,⟨v,h1,h2⟩=>by
  obtain ⟨us,r1,r2⟩:=repPtr h1 h2
  obtain ⟨c1,_,r1,r2⟩:=rep2 r1 r2
  obtain ⟨_,_,r1,r2⟩:=rep2 r1 r2
  obtain ⟨_,_,r1,r2⟩:=rep2 r1 r2
  obtain ⟨_,_,r1,r2⟩:=rep2 r1 r2
  obtain ⟨c5,_⟩:=rep2 r1 r2
  rw [it_rep x y c1,vars_rep xs ys c5]
end
abbrev Nums:=List (List Int)
def ix:Nums→List Int→Option Nat
 | [],_=>none
 | t::r,s=>if s=t then some 1 else (ix r s).map (· + 1)
def num (l:Nums) (s:List Int):Nat × Nums:=match ix l s with
 | some n=>(n,l)
 | none=>(l.length+1,l++[s])
def numE:Nat→Nums→List (List Int × PV)
 | _,[]=>[]
 | k,s::r=>(s,.int ((k+1:Nat):Int))::numE (k+1) r
theorem numE_len:∀ (k:Nat) (l:Nums),(numE k l).length=l.length
 | _,[]=>rfl
 | k,_::r=>by simp [numE,numE_len (k+1) r]
theorem numE_get:∀ (k:Nat) (l:Nums) (s:List Int),imGet (numE k l) s=(ix l s).map (fun n => .int ((k+n:Nat):Int))
 | _,[],_=>rfl
 | k,t::r,s=>by
  simp only [numE,imGet,ix]
  split
  ·rfl
  ·rw [numE_get (k+1) r s]
   cases ix r s with
   | none=>rfl
   | some n =>
    simp only [Option.map_some,Option.some.injEq,PV.int.injEq]
    omega
theorem numE_set:∀ (k:Nat) (l:Nums) (s:List Int),ix l s=none→imSet (numE k l) s (.int ((k+l.length+1:Nat):Int))=numE k (l++[s])
 | k,[],s,_=>by simp [numE,imSet]
 | k,t::r,s,h=>by
  simp only [ix] at h
  split at h
  ·cases h
  ·rename_i hne
   have h':ix r s=none:=by
    cases e:ix r s with
    | none=>rfl
    | some n=>rw [e] at h;cases h
   simp only [numE,imSet,if_neg hne,List.cons_append,List.length_cons]
   have:=numE_set (k+1) r s h'
   have e2:k+(r.length+1)+1=k+1+r.length+1:=by omega
   rw [e2,this]
mutual
def numI:Nums→It→Nat × Nums
 | l,.num k=>num l [1,k,0]
 | l,.list x=>num (numL l x).2 [2,(numL l x).1,0]
 | l,.pair a b=>num (numI (numI l a).2 b).2 [3,(numI l a).1,(numI (numI l a).2 b).1]
 | l,.unit=>num l [4,0,0]
 | l,.fn p vs=>num (numV l vs).2 [5,p,(numV l vs).1]
def numV:Nums→List It→Nat × Nums
 | l,[]=>(0,l)
 | l,x::r=>num (numV (numI l x).2 r).2 [-2,(numI l x).1,(numV (numI l x).2 r).1]
def numL:Nums→List Nat→Nat × Nums
 | l,[]=>(0,l)
 | l,h::t=>num (numL l t).2 [-1,h,(numL l t).1]
end
theorem num_pre (l:Nums) (s:List Int):l <+: (num l s).2:=by
 unfold num
 split
 ·exact List.prefix_rfl
 ·exact List.prefix_append _ _
mutual
theorem numI_pre:∀ (l:Nums) (x:It),l <+: (numI l x).2
 | l,.num k=>num_pre _ _
 | l,.list x=>(numL_pre l x).trans (num_pre _ _)
 | l,.pair a b=>((numI_pre l a).trans (numI_pre _ b)).trans (num_pre _ _)
 | l,.unit=>num_pre _ _
 | l,.fn p vs=>(numV_pre l vs).trans (num_pre _ _)
theorem numV_pre:∀ (l:Nums) (xs:List It),l <+: (numV l xs).2
 | l,[]=>List.prefix_rfl
 | l,x::r=>((numI_pre l x).trans (numV_pre _ r)).trans (num_pre _ _)
theorem numL_pre:∀ (l:Nums) (x:List Nat),l <+: (numL l x).2
 | l,[]=>List.prefix_rfl
 | l,h::t=>(numL_pre l t).trans (num_pre _ _)
end
theorem ix_pre:∀ {l m:Nums} {s:List Int} {n:Nat},l <+: m→ix l s=some n→ix m s=some n
 | [],_,_,_,_,h=>by simp [ix] at h
 | t::r,m,s,n,hp,h=>by
  obtain ⟨q,rfl⟩:=hp
  simp only [List.cons_append,ix] at h ⊢
  split
  ·rename_i e;rw [if_pos e] at h;exact h
  ·rename_i e
   rw [if_neg e] at h
   cases e2:ix r s with
   | none=>rw [e2] at h;cases h
   | some k =>
    rw [e2] at h
    rw [ix_pre (List.prefix_append r q) e2]
    exact h
theorem ix_app:∀ (l:Nums) (s:List Int),ix l s=none→ix (l++[s]) s=some (l.length+1)
 | [],s,_=>by simp [ix]
 | t::r,s,h=>by
  simp only [ix] at h
  split at h
  ·cases h
  ·rename_i e
   have h':ix r s=none:=by
    cases e2:ix r s with
    | none=>rfl
    | some n=>rw [e2] at h;cases h
   simp only [List.cons_append,ix,if_neg e,ix_app r s h',Option.map_some,List.length_cons]
theorem num_ix (l:Nums) (s:List Int):ix (num l s).2 s=some (num l s).1:=by
 unfold num
 split
 ·assumption
 ·exact ix_app _ _ (by assumption)
theorem num_of_ix {l:Nums} {s:List Int} {n:Nat} (h:ix l s=some n):num l s=(n,l):=by
 unfold num
 rw [h]
theorem ix_of_num {l:Nums} {s:List Int} (h:(num l s).2=l):ix l s=some (num l s).1:=by
 have:=num_ix l s
 rw [h] at this
 exact this
theorem pre_antisymm {l m:Nums} (h:l <+: m) (h':m <+: l):l=m:=h.eq_of_length (Nat.le_antisymm h.length_le h'.length_le)
mutual
theorem numI_stay:∀ (x:It) {l m:Nums},l <+: m→(numI l x).2=l→numI m x=((numI l x).1,m)
 | .num k,l,m,hp,h=>num_of_ix (ix_pre hp (ix_of_num h))
 | .list x,l,m,hp,h=>by
  simp only [numI] at h ⊢
  have e:(numL l x).2=l:=by
   have h1:=num_pre (numL l x).2 [2,((numL l x).1:Int),0]
   rw [h] at h1
   exact (pre_antisymm (numL_pre l x) h1).symm
  rw [e] at h ⊢
  rw [numL_stay x hp e]
  exact num_of_ix (ix_pre hp (ix_of_num h))
 | .pair a b,l,m,hp,h=>by
  simp only [numI] at h ⊢
  have h1:=num_pre (numI (numI l a).2 b).2 [3,((numI l a).1:Int),((numI (numI l a).2 b).1:Int)]
  rw [h] at h1
  have e1:(numI l a).2=l:=(pre_antisymm (numI_pre l a) ((numI_pre _ b).trans h1)).symm
  rw [e1] at h h1 ⊢
  have e2:(numI l b).2=l:=(pre_antisymm (numI_pre l b) h1).symm
  rw [e2] at h ⊢
  rw [numI_stay a hp e1]
  simp only
  rw [numI_stay b hp e2]
  exact num_of_ix (ix_pre hp (ix_of_num h))
 | .unit,l,m,hp,h=>num_of_ix (ix_pre hp (ix_of_num h))
 | .fn p vs,l,m,hp,h=>by
  simp only [numI] at h ⊢
  have e:(numV l vs).2=l:=by
   have h1:=num_pre (numV l vs).2 [5,(p:Int),((numV l vs).1:Int)]
   rw [h] at h1
   exact (pre_antisymm (numV_pre l vs) h1).symm
  rw [e] at h ⊢
  rw [numV_stay vs hp e]
  exact num_of_ix (ix_pre hp (ix_of_num h))
theorem numV_stay:∀ (xs:List It) {l m:Nums},l <+: m→(numV l xs).2=l→numV m xs=((numV l xs).1,m)
 | [],l,m,hp,h=>rfl
 | a::b,l,m,hp,h=>by
  simp only [numV] at h ⊢
  have h1:=num_pre (numV (numI l a).2 b).2 [-2,((numI l a).1:Int),((numV (numI l a).2 b).1:Int)]
  rw [h] at h1
  have e1:(numI l a).2=l:=(pre_antisymm (numI_pre l a) ((numV_pre _ b).trans h1)).symm
  rw [e1] at h h1 ⊢
  have e2:(numV l b).2=l:=(pre_antisymm (numV_pre l b) h1).symm
  rw [e2] at h ⊢
  rw [numI_stay a hp e1]
  simp only
  rw [numV_stay b hp e2]
  exact num_of_ix (ix_pre hp (ix_of_num h))
theorem numL_stay:∀ (x:List Nat) {l m:Nums},l <+: m→(numL l x).2=l→numL m x=((numL l x).1,m)
 | [],l,m,hp,h=>rfl
 | a::b,l,m,hp,h=>by
  simp only [numL] at h ⊢
  have h1:=num_pre (numL l b).2 [-1,(a:Int),((numL l b).1:Int)]
  rw [h] at h1
  have e1:(numL l b).2=l:=(pre_antisymm (numL_pre l b) h1).symm
  rw [e1] at h ⊢
  rw [numL_stay b hp e1]
  exact num_of_ix (ix_pre hp (ix_of_num h))
end
mutual
theorem numI_known:∀ (l:Nums) (x:It),numI (numI l x).2 x=((numI l x).1,(numI l x).2)
 | l,.num k=>num_of_ix (num_ix _ _)
 | l,.list x=>by
  have h1:=numL_known l x
  have h2:=numL_stay x (num_pre (numL l x).2 [2,((numL l x).1:Int),0]) (by rw [h1])
  simp only [numI]
  rw [h2,h1]
  exact num_of_ix (num_ix _ _)
 | l,.pair a b=>by
  have h1:=numI_known l a
  have h2:=numI_known (numI l a).2 b
  have hp:=num_pre (numI (numI l a).2 b).2 [3,((numI l a).1:Int),((numI (numI l a).2 b).1:Int)]
  have h3:=numI_stay a ((numI_pre _ b).trans hp) (by rw [h1])
  have h4:=numI_stay b hp (by rw [h2])
  simp only [numI]
  rw [h3,h1]
  simp only
  rw [h4,h2]
  exact num_of_ix (num_ix _ _)
 | l,.unit=>num_of_ix (num_ix _ _)
 | l,.fn p vs=>by
  have h1:=numV_known l vs
  have h2:=numV_stay vs (num_pre (numV l vs).2 [5,(p:Int),((numV l vs).1:Int)]) (by rw [h1])
  simp only [numI]
  rw [h2,h1]
  exact num_of_ix (num_ix _ _)
theorem numV_known:∀ (l:Nums) (xs:List It),numV (numV l xs).2 xs=((numV l xs).1,(numV l xs).2)
 | l,[]=>rfl
 | l,a::b=>by
  have h1:=numI_known l a
  have h2:=numV_known (numI l a).2 b
  have hp:=num_pre (numV (numI l a).2 b).2 [-2,((numI l a).1:Int),((numV (numI l a).2 b).1:Int)]
  have h3:=numI_stay a ((numV_pre _ b).trans hp) (by rw [h1])
  have h4:=numV_stay b hp (by rw [h2])
  simp only [numV]
  rw [h3,h1]
  simp only
  rw [h4,h2]
  exact num_of_ix (num_ix _ _)
theorem numL_known:∀ (l:Nums) (x:List Nat),numL (numL l x).2 x=((numL l x).1,(numL l x).2)
 | l,[]=>rfl
 | l,a::b=>by
  have h1:=numL_known l b
  have h2:=numL_stay b (num_pre (numL l b).2 [-1,(a:Int),((numL l b).1:Int)]) (by rw [h1])
  simp only [numL]
  rw [h2,h1]
  exact num_of_ix (num_ix _ _)
end
theorem ix_pos:∀ {l:Nums} {s:List Int} {n:Nat},ix l s=some n→0<n
 | [],_,_,h=>by simp [ix] at h
 | t::r,s,n,h=>by
  simp only [ix] at h
  split at h
  ·cases h;omega
  ·cases e:ix r s with
   | none=>rw [e] at h;cases h
   | some k=>rw [e] at h;cases h;exact Nat.succ_pos _
theorem ix_inj:∀ {l:Nums} {s t:List Int} {n:Nat},ix l s=some n→ix l t=some n→s=t
 | [],_,_,_,h,_=>by simp [ix] at h
 | u::r,s,t,n,h,h'=>by
  simp only [ix] at h h'
  split at h
  ·rename_i e1
   cases h
   split at h'
   ·rename_i e2;rw [e1,e2]
   ·cases e:ix r t with
    | none=>rw [e] at h';cases h'
    | some k=>rw [e] at h';cases h';have:=ix_pos e;omega
  ·cases e:ix r s with
   | none=>rw [e] at h;cases h
   | some k =>
    rw [e] at h
    cases h
    split at h'
    ·cases h';have:=ix_pos e;omega
    ·cases e':ix r t with
     | none=>rw [e'] at h';cases h'
     | some k' =>
      rw [e'] at h'
      cases h'
      exact ix_inj e e'
theorem parts_list {l:Nums} {x:List Nat} (h:(numI l (.list x)).2=l):(numL l x).2=l∧ix l [2,(numL l x).1,0]=some (numI l (.list x)).1:=by
 simp only [numI] at h ⊢
 have h1:=num_pre (numL l x).2 [2,((numL l x).1:Int),0]
 rw [h] at h1
 have e:(numL l x).2=l:=(pre_antisymm (numL_pre l x) h1).symm
 rw [e] at h ⊢
 exact ⟨rfl,ix_of_num h⟩
theorem parts_pair {l:Nums} {a b:It} (h:(numI l (.pair a b)).2=l):(numI l a).2=l∧(numI l b).2=l∧ix l [3,(numI l a).1,(numI l b).1]=some (numI l (.pair a b)).1:=by
 simp only [numI] at h ⊢
 have h1:=num_pre (numI (numI l a).2 b).2 [3,((numI l a).1:Int),((numI (numI l a).2 b).1:Int)]
 rw [h] at h1
 have e1:(numI l a).2=l:=(pre_antisymm (numI_pre l a) ((numI_pre _ b).trans h1)).symm
 rw [e1] at h h1 ⊢
 have e2:(numI l b).2=l:=(pre_antisymm (numI_pre l b) h1).symm
 rw [e2] at h ⊢
 exact ⟨rfl,rfl,ix_of_num h⟩
theorem parts_fn {l:Nums} {p:Nat} {vs:List It} (h:(numI l (.fn p vs)).2=l):(numV l vs).2=l∧ix l [5,p,(numV l vs).1]=some (numI l (.fn p vs)).1:=by
 simp only [numI] at h ⊢
 have h1:=num_pre (numV l vs).2 [5,(p:Int),((numV l vs).1:Int)]
 rw [h] at h1
 have e:(numV l vs).2=l:=(pre_antisymm (numV_pre l vs) h1).symm
 rw [e] at h ⊢
 exact ⟨rfl,ix_of_num h⟩
theorem parts_vars {l:Nums} {a:It} {b:List It} (h:(numV l (a::b)).2=l):(numI l a).2=l∧(numV l b).2=l∧ix l [-2,(numI l a).1,(numV l b).1]=some (numV l (a::b)).1:=by
 simp only [numV] at h ⊢
 have h1:=num_pre (numV (numI l a).2 b).2 [-2,((numI l a).1:Int),((numV (numI l a).2 b).1:Int)]
 rw [h] at h1
 have e1:(numI l a).2=l:=(pre_antisymm (numI_pre l a) ((numV_pre _ b).trans h1)).symm
 rw [e1] at h h1 ⊢
 have e2:(numV l b).2=l:=(pre_antisymm (numV_pre l b) h1).symm
 rw [e2] at h ⊢
 exact ⟨rfl,rfl,ix_of_num h⟩
theorem parts_links {l:Nums} {a:Nat} {b:List Nat} (h:(numL l (a::b)).2=l):(numL l b).2=l∧ix l [-1,a,(numL l b).1]=some (numL l (a::b)).1:=by
 simp only [numL] at h ⊢
 have h1:=num_pre (numL l b).2 [-1,(a:Int),((numL l b).1:Int)]
 rw [h] at h1
 have e1:(numL l b).2=l:=(pre_antisymm (numL_pre l b) h1).symm
 rw [e1] at h ⊢
 exact ⟨rfl,ix_of_num h⟩
theorem numL_inj {l:Nums} : ∀ (x y:List Nat),(numL l x).2=l→(numL l y).2=l→(numL l x).1=(numL l y).1→x=y
 | [],[],_,_,_=>rfl
 | [],b::y,_,h,e=>by
  have:=ix_pos (parts_links h).2
  rw [← e] at this
  exact absurd this (by simp [numL])
 | a::x,[],h,_,e=>by
  have:=ix_pos (parts_links h).2
  rw [e] at this
  exact absurd this (by simp [numL])
 | a::x,b::y,h,h',e=>by
  obtain ⟨h1,h2⟩:=parts_links h
  obtain ⟨h3,h4⟩:=parts_links h'
  rw [e] at h2
  have:=ix_inj h2 h4
  simp only [List.cons.injEq,and_true,true_and] at this
  have e1:a=b:=by omega
  have e2:(numL l x).1=(numL l y).1:=by omega
  rw [e1,numL_inj x y h1 h3 e2]
theorem ix_num {l:Nums} {k:Nat} (h:(numI l (.num k)).2=l):ix l [1,k,0]=some (numI l (.num k)).1:=ix_of_num h
theorem ix_unit {l:Nums} (h:(numI l .unit).2=l):ix l [4,0,0]=some (numI l .unit).1:=ix_of_num h
def shp (l:Nums):It→List Int
 | .num k=>[1,k,0]
 | .list x=>[2,(numL l x).1,0]
 | .pair a b=>[3,(numI l a).1,(numI l b).1]
 | .unit=>[4,0,0]
 | .fn p vs=>[5,p,(numV l vs).1]
theorem ix_shp {l:Nums} {x:It} (h:(numI l x).2=l):ix l (shp l x)=some (numI l x).1:=by
 cases x with
 | num k=>exact ix_num h
 | list x=>exact (parts_list h).2
 | pair a b=>exact (parts_pair h).2.2
 | unit=>exact ix_unit h
 | fn p vs=>exact (parts_fn h).2
mutual
theorem numI_inj {l:Nums} : ∀ (x y:It),(numI l x).2=l→(numI l y).2=l→(numI l x).1=(numI l y).1→x=y
 | x,y,h,h',e=>by
  have h1:=ix_shp h
  have h2:=ix_shp h'
  rw [e] at h1
  have hs:=ix_inj h1 h2
  match x,y,h,h',hs with
  | .num m,.num m',_,_,hs =>
   simp only [shp,List.cons.injEq,and_true,true_and] at hs
   have:m=m':=by omega
   rw [this]
  | .list m,.list m',h,h',hs =>
   simp only [shp,List.cons.injEq,and_true,true_and] at hs
   rw [numL_inj m m' (parts_list h).1 (parts_list h').1 (by omega)]
  | .unit,.unit,_,_,_=>rfl
  | .pair p q,.pair p' q',h,h',hs =>
   simp only [shp,List.cons.injEq,and_true,true_and] at hs
   rw [numI_inj p p' (parts_pair h).1 (parts_pair h').1 (by omega),numI_inj q q' (parts_pair h).2.1 (parts_pair h').2.1 (by omega)]
  | .fn m vs,.fn m' vs',h,h',hs =>
   simp only [shp,List.cons.injEq,and_true,true_and] at hs
   have:m=m':=by omega
   rw [this,numV_inj vs vs' (parts_fn h).1 (parts_fn h').1 (by omega)]
  | .num _,.list _,_,_,hs=>simp [shp] at hs
  | .num _,.unit,_,_,hs=>simp [shp] at hs
  | .num _,.pair _ _,_,_,hs=>simp [shp] at hs
  | .num _,.fn _ _,_,_,hs=>simp [shp] at hs
  | .list _,.num _,_,_,hs=>simp [shp] at hs
  | .list _,.unit,_,_,hs=>simp [shp] at hs
  | .list _,.pair _ _,_,_,hs=>simp [shp] at hs
  | .list _,.fn _ _,_,_,hs=>simp [shp] at hs
  | .unit,.num _,_,_,hs=>simp [shp] at hs
  | .unit,.list _,_,_,hs=>simp [shp] at hs
  | .unit,.pair _ _,_,_,hs=>simp [shp] at hs
  | .unit,.fn _ _,_,_,hs=>simp [shp] at hs
  | .pair _ _,.num _,_,_,hs=>simp [shp] at hs
  | .pair _ _,.list _,_,_,hs=>simp [shp] at hs
  | .pair _ _,.unit,_,_,hs=>simp [shp] at hs
  | .pair _ _,.fn _ _,_,_,hs=>simp [shp] at hs
  | .fn _ _,.num _,_,_,hs=>simp [shp] at hs
  | .fn _ _,.list _,_,_,hs=>simp [shp] at hs
  | .fn _ _,.unit,_,_,hs=>simp [shp] at hs
  | .fn _ _,.pair _ _,_,_,hs=>simp [shp] at hs
theorem numV_inj {l:Nums} : ∀ (xs ys:List It),(numV l xs).2=l→(numV l ys).2=l→(numV l xs).1=(numV l ys).1→xs=ys
 | [],[],_,_,_=>rfl
 | [],b::y,_,h,e=>by
  have:=ix_pos (parts_vars h).2.2
  rw [← e] at this
  exact absurd this (by simp [numV])
 | a::x,[],h,_,e=>by
  have:=ix_pos (parts_vars h).2.2
  rw [e] at this
  exact absurd this (by simp [numV])
 | a::x,b::y,h,h',e=>by
  obtain ⟨h1,h2,h3⟩:=parts_vars h
  obtain ⟨h4,h5,h6⟩:=parts_vars h'
  rw [e] at h3
  have:=ix_inj h3 h6
  simp only [List.cons.injEq,and_true,true_and] at this
  rw [numI_inj a b h1 h4 (by omega),numV_inj x y h2 h5 (by omega)]
end
mutual
theorem itP_injA:∀ (x y:It),itP x=itP y→x=y
 | .num _,y,h=>by
  cases y <;> simp [itP] at h ⊢
  omega
 | .list x,y,h=>by
  cases y <;> simp [itP] at h ⊢
  exact linkP_inj _ _ h
 | .unit,y,h=>by cases y <;> simp [itP] at h ⊢
 | .pair a b,y,h=>by
  cases y with
  | pair c d =>
   simp only [itP,PV.ptr.injEq,List.cons.injEq,true_and,and_true] at h
   rw [itP_injA a c h.1,itP_injA b d h.2.1]
  | _=>simp [itP] at h
 | .fn p vs,y,h=>by
  cases y with
  | fn q ws =>
   simp only [itP,PV.ptr.injEq,List.cons.injEq,true_and,and_true,PV.int.injEq] at h
   have:p=q:=by omega
   rw [this,varsP_injA vs ws h.2.1]
  | _=>simp [itP] at h
theorem varsP_injA:∀ (xs ys:List It),varsP xs=varsP ys→xs=ys
 | [],[],_=>rfl
 | [],_::_,h=>by simp [varsP] at h
 | _::_,[],h=>by simp [varsP] at h
 | a::x,b::y,h=>by
  simp only [varsP,PV.ptr.injEq,List.cons.injEq,true_and,and_true] at h
  rw [itP_injA a b h.1,varsP_injA x y h.2.2.2.2]
end
def DI (l:Nums) (p:PV):Prop:=∃ x,p=itP x∧(numI l x).2=l
def DL (l:Nums) (p:PV):Prop:=∃ h t,p=linkP (h::t)∧(numL l (h::t)).2=l
def DV (l:Nums) (p:PV):Prop:=∃ x r,p=varsP (x::r)∧(numV l (x::r)).2=l
open Classical in
noncomputable def FI (l:Nums) (p:PV):PV:=if h:∃ x,p=itP x then .int ((numI l (Classical.choose h)).1:Int) else .nil
open Classical in
noncomputable def FL (l:Nums) (p:PV):PV:=if h:∃ x,p=linkP x then .int ((numL l (Classical.choose h)).1:Int) else .nil
open Classical in
noncomputable def FV (l:Nums) (p:PV):PV:=if h:∃ x,p=varsP x then .int ((numV l (Classical.choose h)).1:Int) else .nil
theorem FI_it (l:Nums) (x:It):FI l (itP x) = .int ((numI l x).1:Int):=by
 have h:∃ y,itP x=itP y:=⟨x,rfl⟩
 unfold FI
 rw [dif_pos h,← itP_injA x _ (Classical.choose_spec h)]
theorem FL_it (l:Nums) (x:List Nat):FL l (linkP x) = .int ((numL l x).1:Int):=by
 have h:∃ y,linkP x=linkP y:=⟨x,rfl⟩
 unfold FL
 rw [dif_pos h,← linkP_inj x _ (Classical.choose_spec h)]
theorem FV_it (l:Nums) (x:List It):FV l (varsP x) = .int ((numV l x).1:Int):=by
 have h:∃ y,varsP x=varsP y:=⟨x,rfl⟩
 unfold FV
 rw [dif_pos h,← varsP_injA x _ (Classical.choose_spec h)]
theorem cohI (l:Nums):Coh (DI l) (FI l):=by
 rintro H p q v ⟨x,rfl,_⟩ ⟨y,rfl,_⟩ h1 h2
 rw [it_rep x y ⟨v,h1,h2⟩]
theorem cohL (l:Nums):Coh (DL l) (FL l):=by
 rintro H p q v ⟨x,t,rfl,_⟩ ⟨y,u,rfl,_⟩ h1 h2
 rw [link_rep _ _ ⟨v,h1,h2⟩]
theorem cohV (l:Nums):Coh (DV l) (FV l):=by
 rintro H p q v ⟨x,t,rfl,_⟩ ⟨y,u,rfl,_⟩ h1 h2
 rw [vars_rep _ _ ⟨v,h1,h2⟩]
theorem monI {l m:Nums} (h:l <+: m) (p:PV):DI l p→DI m p∧FI l p=FI m p:=by
 rintro ⟨x,rfl,hx⟩
 have:=numI_stay x h hx
 exact ⟨⟨x,rfl,by rw [this]⟩,by rw [FI_it,FI_it,this]⟩
theorem monL {l m:Nums} (h:l <+: m) (p:PV):DL l p→DL m p∧FL l p=FL m p:=by
 rintro ⟨x,t,rfl,hx⟩
 have:=numL_stay _ h hx
 exact ⟨⟨x,t,rfl,by rw [this]⟩,by rw [FL_it,FL_it,this]⟩
theorem monV {l m:Nums} (h:l <+: m) (p:PV):DV l p→DV m p∧FV l p=FV m p:=by
 rintro ⟨x,t,rfl,hx⟩
 have:=numV_stay _ h hx
 exact ⟨⟨x,t,rfl,by rw [this]⟩,by rw [FV_it,FV_it,this]⟩
theorem notI {l:Nums} {x:It} (h:¬ (numI l x).2=l) (H:Hp) (p:PV) (v:Value):DI l p→RepP H p v→RepP H (itP x) v→False:=by
 rintro ⟨y,rfl,hy⟩ h1 h2
 rw [it_rep x y ⟨v,h2,h1⟩] at h
 exact h hy
theorem notL {l:Nums} {x:List Nat} (h:¬ (numL l x).2=l) (H:Hp) (p:PV) (v:Value):DL l p→RepP H p v→RepP H (linkP x) v→False:=by
 rintro ⟨y,t,rfl,hy⟩ h1 h2
 rw [link_rep x _ ⟨v,h2,h1⟩] at h
 exact h hy
theorem notV {l:Nums} {x:List It} (h:¬ (numV l x).2=l) (H:Hp) (p:PV) (v:Value):DV l p→RepP H p v→RepP H (varsP x) v→False:=by
 rintro ⟨y,t,rfl,hy⟩ h1 h2
 rw [vars_rep x _ ⟨v,h2,h1⟩] at h
 exact h hy
end Go.Lg
/- The table of memo: numbers of shapes. -/
namespace Go.Proofs.YtodjpfpmhjdhbaaGreatDoor
open Go.Lg
set_option maxRecDepth 10000
set_option maxHeartbeats 4000000
def tB (hits:Nat):Ob:=.box [.map 981,.map 982,.map 983,.map 984,.map 985,.pv (.int hits)]
def Sh (l:Nums):Prop:=∀ s∈l,s.length=3
theorem Sh.ents {l:Nums} (h:Sh l):∀ k,∀ e∈numE k l,e.1.length=3:=by
 induction l with
 | nil=>intro k e he;simp [numE] at he
 | cons s r ih =>
  intro k e he
  simp only [numE,List.mem_cons] at he
  rcases he with rfl | he
  ·exact h s (by simp)
  ·exact ih (fun s hs=>h s (by simp [hs])) _ e he
theorem mnum_ok (l:Nums) (hits:Nat) (a b c:Int) (hl:l.length≤1152921504606846976) (hs:Sh l) :
  AC Tryz.prog gl 154 [.loc 980 0,.pv (.agg [.int a,.int b,.int c])] [(980,tB hits),(981,.imap (numE 0 l))] (.ret (.pv (.int ((num l [a,b,c]).1:Nat)))) [(980,tB hits),(981,.imap (numE 0 (num l [a,b,c]).2))]:=by
 have hall:=hs.ents 0
 have hlen:=numE_len 0 l
 have hg:=numE_get 0 l [a,b,c]
 cases hx:ix l [a,b,c] with
 | some n =>
  rw [num_of_ix hx]
  rw [hx] at hg
  simp only [Option.map_some,Nat.zero_add] at hg
  clear hlen hx hl hs
  unfold tB
  generalize numE 0 l=es at *
  refine bodyM [] [982,983,984,985] Tryz.func154 Tryz.ntmps154 ?_
  refine gg ?_
  refine lookI ?_ (hc:=by dsimp only;assumption)
  refine gg ?_
  refine ⟨by rfl,?_⟩
  refine gg ?_
  exact enC6
 | none =>
  have hn:num l [a,b,c]=(l.length+1,l++[[a,b,c]]):=by
   unfold num
   rw [hx]
  have hset:=numE_set 0 l [a,b,c] hx
  rw [hn]
  rw [hx] at hg
  have e1:((0+l.length+1:Nat):Int)=((numE 0 l).length:Int)+1:=by omega
  have e2:((l.length+1:Nat):Int)=((numE 0 l).length:Int)+1:=by omega
  have e3:(numE 0 l).length≤1152921504606846976:=by omega
  rw [e1] at hset
  simp only [e2]
  simp only [Option.map_none] at hg
  rw [← hset]
  clear hlen hx hl hs hn hset e1 e2
  unfold tB
  generalize numE 0 l=es at *
  refine bodyM [] [982,983,984,985] Tryz.func154 Tryz.ntmps154 ?_
  refine gg ?_
  refine lookI ?_ (hc:=by dsimp only;assumption)
  refine gg ?_
  refine ⟨by rfl,?_⟩
  refine gg ?_
  refine ⟨by rfl,?_⟩
  refine gg ?_
  exact enC6
end Go.Proofs.YtodjpfpmhjdhbaaGreatDoor
