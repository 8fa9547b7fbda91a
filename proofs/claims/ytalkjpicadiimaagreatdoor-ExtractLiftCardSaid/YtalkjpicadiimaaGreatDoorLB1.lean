/- The engine that computes runs; no conditions. -/
import Derived.Test.YtalkjpicadiimaaGreatDoorLA4
set_option linter.all false
namespace Go.Lg
inductive Tr (α:Type) where
 | nil
 | node (l:Tr α) (v:Option α) (r:Tr α)
theorem qLb {a b:Nat} (h:a=b):Nat.beq a b=true:=by subst h;exact Nat.beq_refl a
theorem zW4 {a b:Nat} (h:a≠b):Nat.beq a b=false:=by
 cases e:Nat.beq a b with
 | false=>rfl
 | true=>exact absurd (Nat.eq_of_beq_eq_true e) h
def Tr.get {α:Type} : Tr α→Nat→Option α
 | .nil,_=>none
 | .node l v r,i=>bif Nat.beq i 0 then v else bif Nat.beq (Nat.mod i 2) 1 then l.get (Nat.div i 2) else r.get (Nat.pred (Nat.div i 2))
def Tr.putF {α:Type} : Nat→Tr α→Nat→Option α→Tr α
 | 0,t,_,_=>t
 | f+1,.nil,i,x=>bif Nat.beq i 0 then .node .nil x .nil else bif Nat.beq (Nat.mod i 2) 1 then .node (Tr.putF f .nil (Nat.div i 2) x) none .nil else .node .nil none (Tr.putF f .nil (Nat.pred (Nat.div i 2)) x)
 | f+1,.node l v r,i,x=>bif Nat.beq i 0 then .node l x r else bif Nat.beq (Nat.mod i 2) 1 then .node (Tr.putF f l (Nat.div i 2) x) v r else .node l v (Tr.putF f r (Nat.pred (Nat.div i 2)) x)
def Tr.put {α:Type} (t:Tr α) (i:Nat) (x:Option α):Tr α:=Tr.putF (Nat.succ i) t i x
def Tr.map {α β:Type} (f:α→β):Tr α→Tr β
 | .nil => .nil
 | .node l v r => .node (l.map f) (v.map f) (r.map f)
theorem Tr.get_nil {α:Type} (i:Nat):(Tr.nil:Tr α).get i=none:=rfl
theorem Tr.get_node {α:Type} (l:Tr α) (v:Option α) (r:Tr α) (i:Nat):(Tr.node l v r).get i=if i=0 then v else if i % 2=1 then l.get (i / 2) else r.get (i / 2-1):=by
 show (bif Nat.beq i 0 then v else bif Nat.beq (Nat.mod i 2) 1 then l.get (Nat.div i 2) else r.get (Nat.pred (Nat.div i 2)))=_
 by_cases h:i=0
 ·subst h;rfl
 ·rw [if_neg h,zW4 h]
  simp only [cond_false]
  by_cases h1:i % 2=1
  ·rw [if_pos h1,show Nat.beq (Nat.mod i 2) 1=true from qLb h1];rfl
  ·rw [if_neg h1,show Nat.beq (Nat.mod i 2) 1=false from zW4 h1];rfl
theorem Tr.get_putF {α:Type} : ∀ (f:Nat) (t:Tr α) (i:Nat) (x:Option α) (j:Nat),i<f→(Tr.putF f t i x).get j=if j=i then x else t.get j
 | 0,_,_,_,_,h=>absurd h (Nat.not_lt_zero _)
 | f+1,t,i,x,j,h=>by
  have key:∀ (l:Tr α) (v:Option α) (r:Tr α),
    (bif Nat.beq i 0 then Tr.node l x r else bif Nat.beq (Nat.mod i 2) 1 then .node (Tr.putF f l (Nat.div i 2) x) v r else .node l v (Tr.putF f r (Nat.pred (Nat.div i 2)) x)).get j=if j=i then x else (Tr.node l v r).get j:=by
   intro l v r
   by_cases h0:i=0
   ·subst h0
    show (Tr.node l x r).get j=_
    rw [Tr.get_node,Tr.get_node]
    by_cases hj:j=0
    ·simp [hj]
    ·simp [hj]
   ·rw [show Nat.beq i 0=false from zW4 h0]
    simp only [cond_false]
    by_cases h1:i % 2=1
    ·rw [show Nat.beq (Nat.mod i 2) 1=true from qLb h1]
     simp only [cond_true]
     rw [Tr.get_node,Tr.get_node]
     have ih:=Tr.get_putF f l (i / 2) x (j / 2) (by omega)
     by_cases hj:j=0
     ·subst hj;rw [if_pos rfl,if_pos rfl,if_neg (by omega)]
     ·rw [if_neg hj,if_neg hj]
      by_cases h2:j % 2=1
      ·rw [if_pos h2,if_pos h2]
       refine ih.trans ?_
       by_cases e:j=i
       ·rw [if_pos e,if_pos (by rw [e])]
       ·rw [if_neg e,if_neg (by omega)]
      ·rw [if_neg h2,if_neg h2,if_neg (by intro e;subst e;exact h2 h1)]
    ·rw [show Nat.beq (Nat.mod i 2) 1=false from zW4 h1]
     simp only [cond_false]
     rw [Tr.get_node,Tr.get_node]
     have ih:=Tr.get_putF f r (i / 2-1) x (j / 2-1) (by omega)
     by_cases hj:j=0
     ·subst hj;rw [if_pos rfl,if_pos rfl,if_neg (by omega)]
     ·rw [if_neg hj,if_neg hj]
      by_cases h2:j % 2=1
      ·rw [if_pos h2,if_pos h2,if_neg (by intro e;subst e;exact h1 h2)]
      ·rw [if_neg h2,if_neg h2]
       refine ih.trans ?_
       by_cases e:j=i
       ·rw [if_pos e,if_pos (by rw [e])]
       ·rw [if_neg e,if_neg (by omega)]
  cases t with
  | nil =>
   have:=key .nil none .nil
   simp only [Tr.get_node,Tr.get_nil,ite_self] at this ⊢
   exact this
  | node l v r=>exact key l v r
theorem Tr.get_put {α:Type} (t:Tr α) (i:Nat) (x:Option α) (j:Nat):(t.put i x).get j=if j=i then x else t.get j:=Tr.get_putF _ t i x j (Nat.lt_succ_self i)
theorem Tr.get_map {α β:Type} (f:α→β):∀ (t:Tr α) (i:Nat),(t.map f).get i=(t.get i).map f
 | .nil,_=>rfl
 | .node l v r,i=>by
  show (Tr.node (l.map f) (v.map f) (r.map f)).get i=_
  rw [Tr.get_node,Tr.get_node]
  split
  ·rfl
  ·split
   ·exact Tr.get_map f l _
   ·exact Tr.get_map f r _
def qG6 {α:Type} : List α→Nat→List α
 | [],_=>[]
 | a::l,n=>match n with
  | 0=>a::l
  | m+1=>qG6 l m
theorem qA6 {α:Type} : ∀ (l:List α) (n:Nat),qG6 l n=l.drop n
 | [],n=>by simp [qG6]
 | a::l,0=>rfl
 | a::l,n+1=>by simp only [qG6,List.drop_succ_cons];exact qA6 l n
def qOd {α:Type} : List α→Nat→Option (List α)
 | [],n=>match n with
  | 0=>some []
  | _+1=>none
 | a::l,n=>match n with
  | 0=>some []
  | m+1=>match qOd l m with
   | some r=>some (a::r)
   | none=>none
theorem qA7 {α:Type} : ∀ (l:List α) (n:Nat),qOd l n=if n≤l.length then some (l.take n) else none
 | [],0=>rfl
 | [],n+1=>rfl
 | a::l,0=>rfl
 | a::l,n+1=>by
  simp only [qOd,qA7 l n,List.length_cons,Nat.add_le_add_iff_right]
  by_cases h:n≤l.length
  ·rw [if_pos h,if_pos h];rfl
  ·rw [if_neg h,if_neg h]
def qYl {α:Type} : List α→Nat→Option α
 | [],_=>none
 | a::l,n=>match n with
  | 0=>some a
  | m+1=>qYl l m
theorem qJ7 {α:Type} : ∀ (l:List α) (n:Nat),qYl l n=l[n]?
 | [],n=>by simp [qYl]
 | a::l,0=>rfl
 | a::l,n+1=>by simp only [qYl,List.getElem?_cons_succ];exact qJ7 l n
def qUc {α:Type} : List α→Nat→List α→Option (List α)
 | cs,0,[]=>some cs
 | [],0,_::_=>none
 | _::cs,0,y::ys=>match qUc cs 0 ys with
  | some r=>some (y::r)
  | none=>none
 | [],_+1,_=>none
 | c::cs,n+1,ys=>match qUc cs n ys with
  | some r=>some (c::r)
  | none=>none
theorem qFa {α:Type} : ∀ (cs:List α) (n:Nat) (ys r:List α),qUc cs n ys=some r→n+ys.length≤cs.length∧r=cs.take n++ys++cs.drop (n+ys.length)
 | cs,0,[],r,h=>by simp only [qUc,Option.some.injEq] at h;subst h;simp
 | [],0,_::_,r,h=>by simp [qUc] at h
 | c::cs,0,y::ys,r,h=>by
  simp only [qUc] at h
  split at h
  ·rename_i r' hr
   cases h
   obtain⟨h1,h2⟩:=qFa cs 0 ys r' hr
   subst h2
   refine⟨by simp at h1 ⊢;omega,by simp⟩
  ·cases h
 | [],n+1,ys,r,h=>by simp [qUc] at h
 | c::cs,n+1,ys,r,h=>by
  simp only [qUc] at h
  split at h
  ·rename_i r' hr
   cases h
   obtain⟨h1,h2⟩:=qFa cs n ys r' hr
   subst h2
   refine⟨by simp;omega,?_⟩
   rw [show n+1+ys.length=(n+ys.length)+1 by omega]
   simp
  ·cases h
structure RB where
 x:V
 wr:Option (Nat × Ob)
 new:Bool
def rb (x:V):Option RB:=some ⟨x,none,false⟩
def qC6:List Nat→Nat→Bool
 | [],_=>false
 | k::r,n=>bif Nat.beq k n then true else qC6 r n
theorem qZw:∀ (l:List Nat) (n:Nat),qC6 l n=true↔n∈l
 | [],n=>by simp [qC6]
 | k::r,n=>by
  unfold qC6
  by_cases h:k=n
  ·rw [qLb h];simp [h]
  ·rw [zW4 h]
   simp only [cond_false,List.mem_cons]
   rw [qZw r n]
   constructor
   ·exact .inr
   ·rintro (h1|h1)
    ·exact absurd h1.symm h
    ·exact h1
def inB:Int→Bool
 | .ofNat n=>Nat.ble n 9223372036854775807
 | .negSucc n=>Nat.ble n 9223372036854775807
theorem zAx {x:Int} (h:inB x=true):inI x:=by
 unfold inI
 cases x with
 | ofNat n=>have:=Nat.le_of_ble_eq_true h;constructor<;>simp only [Int.ofNat_eq_natCast]<;>omega
 | negSucc n=>have:=Nat.le_of_ble_eq_true h;constructor<;>omega
def ltI:Int→Int→Bool
 | .ofNat m,.ofNat n=>Nat.blt m n
 | .negSucc m,.negSucc n=>Nat.blt n m
 | .negSucc _,.ofNat _=>true
 | .ofNat _,.negSucc _=>false
theorem qJ8 (m n:Nat):Nat.blt m n=decide (m<n):=by
 cases e:Nat.blt m n with
 | true=>have:m+1≤n:=Nat.le_of_ble_eq_true e;exact (decide_eq_true (by omega)).symm
 | false =>
  refine (decide_eq_false fun h => ?_).symm
  have:Nat.ble (m+1) n=true:=Nat.ble_eq_true_of_le (by omega)
  have e':Nat.ble (m+1) n=false:=e
  rw [e'] at this
  cases this
theorem qQr (a b:Int):ltI a b=decide (a<b):=by
 cases a<;>cases b<;>simp only [ltI]
 ·rw [qJ8];simp
 ·refine (decide_eq_false ?_).symm;simp only [Int.ofNat_eq_natCast];omega
 ·refine (decide_eq_true ?_).symm;simp only [Int.ofNat_eq_natCast];omega
 ·rw [qJ8];simp only [decide_eq_decide];omega
def eqI:Int→Int→Bool
 | .ofNat m,.ofNat n=>Nat.beq m n
 | .negSucc m,.negSucc n=>Nat.beq m n
 | _,_=>false
theorem qP6 (m n:Nat):Nat.beq m n=decide (m=n):=by
 by_cases h:m=n
 ·rw [qLb h];simp [h]
 ·rw [zW4 h];simp [h]
theorem qVp (a b:Int):eqI a b=decide (a=b):=by
 cases a<;>cases b<;>simp only [eqI]
 ·rw [qP6];simp only [Int.ofNat_eq_natCast,decide_eq_decide];omega
 ·exact (decide_eq_false (by simp)).symm
 ·exact (decide_eq_false (by simp)).symm
 ·rw [qP6];simp
def Got (o:Option R) (x:V):Prop:=∃ q,o=some q∧q.cond∧q.out=x∧q.wr=none∧q.new=false
def bv (b:Bool):V:=.pv (.bool b)
def qO5 (x:Int):Option V:=bif inB x then some (.pv (.int x)) else none
def zJs (op:BinOp) (a b:Int):Option V:=match op with
 | .add=>qO5 (a+b)
 | .sub=>qO5 (a-b)
 | .mul=>qO5 (a * b)
 | .rem=>bif eqI b 0 then none else some (.pv (.int (a.tmod b)))
 | .lss=>some (bv (ltI a b))
 | .leq=>some (bv (!ltI b a))
 | .gtr=>some (bv (ltI b a))
 | .geq=>some (bv (!ltI a b))
 | .eql=>some (bv (eqI a b))
 | .neq=>some (bv (!eqI a b))
 | _=>none
theorem zW5 {op:BinOp} {a b:Int} {x:V} (h:zJs op a b=some x):Got (qEp op a b) x:=by
 have hv:∀ c:Int,qO5 c=some x→Got (some (R.ofIf (inI c) (.pv (.int c)))) x:=by
  intro c hc
  unfold qO5 at hc
  cases e:inB c with
  | true=>rw [e] at hc;cases hc;exact⟨_,rfl,zAx e,rfl,rfl,rfl⟩
  | false=>rw [e] at hc;cases hc
 have hb:∀ c d:Bool,c=d→some (bv c)=some x→Got (qJb d) x:=by
  intro c d e hc
  subst e
  cases hc
  exact⟨_,rfl,trivial,rfl,rfl,rfl⟩
 cases op<;>simp only [zJs] at h<;>try cases h<;>done
 case add=>exact hv _ h
 case sub=>exact hv _ h
 case mul=>exact hv _ h
 case rem =>
  cases e:eqI b 0 with
  | true=>rw [e] at h;cases h
  | false =>
   rw [e] at h
   cases h
   rw [qVp] at e
   exact⟨_,rfl,(show b≠0 by simpa using e),rfl,rfl,rfl⟩
 case lss=>exact hb _ _ (qQr a b) h
 case leq=>exact hb _ _ (by rw [qQr];by_cases hh:b<a<;>simp [hh]<;>omega) h
 case gtr=>exact hb _ _ (qQr b a) h
 case geq=>exact hb _ _ (by rw [qQr];by_cases hh:a<b<;>simp [hh]<;>omega) h
 case eql=>exact hb _ _ (qVp a b) h
 case neq=>exact hb _ _ (by rw [qVp]) h
def qAw (n:Nat):List (List PV)→Bool
 | []=>true
 | y::r=>bif Nat.beq y.length n then qAw n r else false
theorem qB9 {n:Nat} : ∀ {l:List (List PV)},qAw n l=true→∀ y∈l,y.length=n
 | [],_,_,h=>by cases h
 | y::r,h,z,hz=>by
  unfold qAw at h
  cases e:Nat.beq y.length n with
  | false=>rw [e] at h;cases h
  | true =>
   rw [e] at h
   rcases List.mem_cons.1 hz with rfl|hz
   ·exact Nat.eq_of_beq_eq_true e
   ·exact qB9 h z hz
def qAx (n:Nat):List (List V)→Bool
 | []=>true
 | y::r=>bif Nat.beq y.length n then qAx n r else false
theorem qCa {n:Nat} : ∀ {l:List (List V)},qAx n l=true→∀ y∈l,y.length=n
 | [],_,_,h=>by cases h
 | y::r,h,z,hz=>by
  unfold qAx at h
  cases e:Nat.beq y.length n with
  | false=>rw [e] at h;cases h
  | true =>
   rw [e] at h
   rcases List.mem_cons.1 hz with rfl|hz
   ·exact Nat.eq_of_beq_eq_true e
   ·exact qCa h z hz
def zJt:List V→Bool
 | []=>true
 | y::r=>bif y.one then zJt r else false
theorem qCb:∀ {l:List V},zJt l=true→l.all V.one=true
 | [],_=>rfl
 | y::r,h=>by
  unfold zJt at h
  cases e:y.one with
  | false=>rw [e] at h;cases h
  | true=>rw [e] at h;simp only [List.all_cons,e,Bool.true_and];exact qCb h
def qJq:List (List V)→Bool
 | []=>true
 | y::r=>bif zJt y then qJq r else false
theorem qFb:∀ {l:List (List V)},qJq l=true→∀ y∈l,y.all V.one=true
 | [],_,_,h=>by cases h
 | y::r,h,z,hz=>by
  unfold qJq at h
  cases e:zJt y with
  | false=>rw [e] at h;cases h
  | true =>
   rw [e] at h
   rcases List.mem_cons.1 hz with rfl|hz
   ·exact qCb e
   ·exact qFb h z hz
def zD6 (agg:Bool) (n:Nat) (cs:List PV):Option V:=match agg with
 | true=>match qOd cs n with
  | some l=>some (.pv (.agg l))
  | none=>none
 | false=>match cs with
  | c::_=>some (.pv c)
  | []=>none
theorem qP7 {agg:Bool} {n:Nat} {cs:List PV} {x:V} (h:zD6 agg n cs=some x):Got (rdP agg n cs) x:=by
 unfold zD6 at h
 unfold rdP
 cases agg with
 | true =>
  simp only [qA7] at h
  by_cases e:n≤cs.length
  ·rw [if_pos e] at h;cases h;exact⟨_,rfl,e,rfl,rfl,rfl⟩
  ·rw [if_neg e] at h;cases h
 | false =>
  cases cs with
  | nil=>cases h
  | cons c cs=>cases h;exact⟨_,rfl,trivial,rfl,rfl,rfl⟩
def unR:List V→Option (List PV)
 | []=>some []
 | c::cs=>match c with
  | .pv p=>match unR cs with
   | some r=>some (p::r)
   | none=>none
  | _=>none
theorem qP8:∀ (l:List V),unR l=unL l
 | []=>rfl
 | c::cs=>by
  cases c<;>simp only [unR,unL,V.un,qP8 cs]
  all_goals cases unL cs<;>rfl
def zAy (cs:List V):V:=match unR cs with
 | some ps => .pv (.agg ps)
 | none => .agg cs
theorem qLc (cs:List V):zAy cs=qAr cs:=by unfold zAy qAr;rw [qP8];cases unL cs<;>rfl
def zAz (agg:Bool) (n:Nat) (cs:List V):Option V:=match agg with
 | true=>match qOd cs n with
  | some l=>some (zAy l)
  | none=>none
 | false=>match cs with
  | c::_=>some c
  | []=>none
theorem qP9 (agg:Bool) (n:Nat) (cs:List V):zAz agg n cs=rdV agg n cs:=by
 unfold zAz rdV
 cases agg with
 | true =>
  simp only [if_true,qA7,qLc]
  by_cases e:n≤cs.length
  ·rw [if_pos e,if_pos e]
  ·rw [if_neg e,if_neg e]
 | false=>rfl
def zW6 (ti:TI) (ob:Nat→Option Ob) (x:V):Option V:=match x with
 | .pv (.ptr cs)=>zD6 ti.isAgg ti.size cs
 | .pv (.nptr cs)=>zD6 ti.isAgg ti.size cs
 | .loc n off=>match ob n with
  | some (.box cs)=>zAz ti.isAgg ti.size (qG6 cs off)
  | _=>none
 | .eloc n ver i off=>match ob n with
  | some (.arr ver' _ _ es)=>match qYl es i with
   | some e=>bif Nat.beq ver ver' then zAz ti.isAgg ti.size (qG6 e off) else none
   | none=>none
  | _=>none
 | _=>none
theorem qUx {ti:TI} {ob:Nat→Option Ob} {x y:V} (h:zW6 ti ob x=some y):Got (qWb ti ob x) y:=by
 unfold zW6 at h
 unfold qWb
 split at h
 ·exact qP7 h
 ·exact qP7 h
 ·rename_i n off
  simp only
  split at h
  ·rename_i cs e
   rw [qP9,qA6] at h
   simp only [e,h]
   exact⟨_,rfl,trivial,rfl,rfl,rfl⟩
  ·cases h
 ·rename_i n ver i off
  simp only
  split at h
  ·rename_i ver' sz ty es e
   rw [qJ7] at h
   split at h
   ·rename_i el he
    cases ev:Nat.beq ver ver' with
    | false=>rw [ev] at h;cases h
    | true =>
     rw [ev] at h
     simp only [cond_true] at h
     rw [qP9,qA6] at h
     simp only [e,he,h]
     exact⟨_,rfl,Nat.eq_of_beq_eq_true ev,rfl,rfl,rfl⟩
   ·cases h
  ·cases h
 ·cases h
def qO6 (o:Option R) (r:RB):Prop:=∃ q,o=some q∧q.cond∧q.out=r.x∧q.wr=r.wr∧q.new=r.new
theorem Got.r {o:Option R} {x:V} (h:Got o x):qO6 o ⟨x,none,false⟩:=h
theorem qQe {α:Type} {c:Bool} {a:Option α} {x:α} (h:(bif c then a else none)=some x):c=true∧a=some x:=by
 cases c with
 | true=>exact⟨rfl,h⟩
 | false=>cases h
theorem qVj {m n:Nat} (h:Nat.blt m n=true):m<n:=by rw [qJ8] at h;exact of_decide_eq_true h
def qRa (q:PV) (y:V):Option RB:=match q with
 | .nptr cs=>match cs with
  | c::_=>match c with
   | .flg p=>match y with
    | .pv z=>match z with
     | .bool b=>bif (bif b then p else true) then some ⟨.undef,none,false⟩ else none
     | _=>none
    | _=>none
   | _=>none
  | []=>none
 | _=>none
theorem qMh {q:PV} {y:V} {r:RB} (h:qRa q y=some r):∃ p l b,q = .nptr (.flg p::l)∧y = .pv (.bool b)∧(b=true→p=true)∧r=⟨.undef,none,false⟩:=by
 unfold qRa at h
 split at h
 ·split at h
  ·split at h
   ·split at h
    ·split at h
     ·rename_i b
      obtain⟨hb,h⟩:=qQe h
      cases h
      exact⟨_,_,b,rfl,rfl,fun e=>by subst e;exact hb,rfl⟩
     ·cases h
    ·cases h
   ·cases h
  ·cases h
 ·cases h
def qCc (ti:TI) (ob:Nat→Option Ob) (x y:V):Option RB:=match qVz y with
 | none=>none
 | some ys=>bif Nat.beq ys.length ti.size then (bif zJt ys then (match x with
  | .loc n off=>match ob n with
   | some (.box cs)=>match qUc cs off ys with
    | some r=>some ⟨.undef,some (n,.box r),false⟩
    | none=>none
   | _=>none
  | .eloc n ver i off=>match ob n with
   | some (.arr ver' sz ty es)=>bif Nat.beq ver ver' then (bif Nat.ble (off+ys.length) sz then (match qYl es i with
    | some e=>some ⟨.undef,some (n,.arr ver' sz ty (es.set i (qEo e off ys))),false⟩
    | none=>none) else none) else none
   | _=>none
  | .pv q=>qRa q y
  | _=>none) else none) else none
theorem qG7 {ti:TI} {ob:Nat→Option Ob} {x y:V} {r:RB} (h:qCc ti ob x y=some r):qO6 (qJ1 ti ob x y) r:=by
 unfold qCc at h
 unfold qJ1
 split at h
 ·cases h
 ·rename_i ys ey
  have h1:=(qQe h).1
  replace h:=(qQe h).2
  have h3:=(qQe h).1
  replace h:=(qQe h).2
  have h1:=Nat.eq_of_beq_eq_true h1
  simp only [ey]
  split at h
  ·rename_i n off
   split at h
   ·rename_i cs eo
    split at h
    ·rename_i q hq
     cases h
     obtain⟨h2,h4⟩:=qFa cs off ys q hq
     simp only [eo]
     exact⟨_,rfl,⟨h1,h2,qCb h3⟩,rfl,by rw [h4];rfl,rfl⟩
    ·cases h
   ·cases h
  ·rename_i n ver i off
   split at h
   ·rename_i ver' sz ty es eo
    have h2:=(qQe h).1
    replace h:=(qQe h).2
    have h4:=(qQe h).1
    replace h:=(qQe h).2
    split at h
    ·rename_i e he
     cases h
     rw [qJ7] at he
     have hlt:i<es.length:=(List.getElem?_eq_some_iff.1 he).1
     have hg:es.getD i []=e:=by rw [List.getD_eq_getElem?_getD,he];rfl
     simp only [eo]
     exact⟨_,rfl,⟨Nat.eq_of_beq_eq_true h2,hlt,h1,Nat.le_of_ble_eq_true h4,qCb h3⟩,rfl,by rw [hg],rfl⟩
    ·cases h
   ·cases h
  ·rename_i q
   obtain⟨p,l,b,rfl,rfl,hb,rfl⟩:=qMh h
   refine⟨_,rfl,⟨?_,hb⟩,rfl,rfl,rfl⟩
   cases ey
   exact h1.symm
  ·cases h
def qIh:Int→Option Nat
 | .ofNat n=>some n
 | .negSucc _=>none
theorem qKc {i:Int} {n:Nat} (h:qIh i=some n):i=n:=by
 cases i with
 | ofNat k=>simp only [qIh,Option.some.injEq] at h;subst h;rfl
 | negSucc k=>cases h
def qMi (T:Nat→Option TI) (ob:Nat→Option Ob) (t:Nat) (x i:V):Option V:=match i with
 | .pv (.int z)=>match qIh z with
  | some k=>match T t with
   | some ⟨.slice e,_,_,_,_⟩=>match T e with
    | some te=>match x with
     | .pv (.slice es)=>match qYl es k with
      | some e=>bif qAw te.size es then some (.pv (.ptr e)) else none
      | none=>none
     | .arr n ver len=>match ob n with
      | some (.arr ver' sz _ es)=>bif Nat.beq ver ver' then (bif Nat.blt k len then (bif Nat.beq sz te.size then (bif Nat.ble len es.length then some (.eloc n ver k 0) else none) else none) else none) else none
      | _=>none
     | _=>none
    | none=>none
   | some ⟨.array m e,_,_,_,_⟩=>match T e with
    | some te=>bif Nat.blt k m then qW5 x (k * te.size) else none
    | none=>none
   | _=>none
  | none=>none
 | _=>none
theorem qRb {T:Nat→Option TI} {ob:Nat→Option Ob} {t:Nat} {x i y:V} (h:qMi T ob t x i=some y):Got (qJ2 T ob t x i) y:=by
 unfold qMi at h
 unfold qJ2
 split at h
 ·rename_i z
  split at h
  ·rename_i k ek
   have hz:=qKc ek
   subst hz
   simp only [Int.toNat_natCast]
   split at h
   ·rename_i e a b c d et
    simp only [et]
    split at h
    ·rename_i te ete
     simp only [ete]
     split at h
     ·rename_i es
      split at h
      ·rename_i e' he
       obtain⟨h2,h⟩:=qQe h
       cases h
       rw [qJ7] at he
       have hlt:k<es.length:=(List.getElem?_eq_some_iff.1 he).1
       have hg:es.getD k []=e':=by rw [List.getD_eq_getElem?_getD,he];rfl
       refine⟨_,rfl,?_,by rw [hg];rfl,rfl,rfl⟩
       exact⟨by omega,by omega,qB9 h2⟩
      ·cases h
     ·rename_i n ver len
      split at h
      ·rename_i ver' sz ty es eo
       obtain⟨h1,h⟩:=qQe h
       obtain⟨h2,h⟩:=qQe h
       obtain⟨h3,h⟩:=qQe h
       obtain⟨h4,h⟩:=qQe h
       cases h
       simp only [eo]
       refine⟨_,rfl,?_,rfl,rfl,rfl⟩
       exact⟨Nat.eq_of_beq_eq_true h1,by omega,by have:=qVj h2;omega,Nat.eq_of_beq_eq_true h3,Nat.le_of_ble_eq_true h4⟩
      ·cases h
     ·cases h
    ·cases h
   ·rename_i m e a b c d et
    simp only [et]
    split at h
    ·rename_i te ete
     obtain⟨h1,h⟩:=qQe h
     simp only [ete,h]
     refine⟨_,rfl,?_,rfl,rfl,rfl⟩
     exact⟨by omega,by have:=qVj h1;omega⟩
    ·cases h
   ·cases h
  ·cases h
 ·cases h
def zFc (ob:Nat→Option Ob) (x:V):Option V:=match x with
 | .pv (.slice es)=>some (.pv (.int (.ofNat es.length)))
 | .pv .nils=>some (.pv (.int 0))
 | .arr n ver len=>match ob n with
  | some (.arr ver' _ _ _)=>bif Nat.beq ver ver' then some (.pv (.int (.ofNat len))) else none
  | _=>none
 | _=>none
theorem zW7 {ob:Nat→Option Ob} {x y:V} (h:zFc ob x=some y):Got (qXh ob x) y:=by
 unfold zFc at h
 unfold qXh
 split at h
 ·cases h;exact⟨_,rfl,trivial,rfl,rfl,rfl⟩
 ·cases h;exact⟨_,rfl,trivial,rfl,rfl,rfl⟩
 ·split at h
  ·rename_i ver' sz ty es eo
   obtain⟨h1,h⟩:=qQe h
   cases h
   simp only [eo]
   exact⟨_,rfl,Nat.eq_of_beq_eq_true h1,rfl,rfl,rfl⟩
  ·cases h
 ·cases h
def qXl (e:Nat) (te:TI) (ob:Nat→Option Ob) (nx:Nat) (x y:V):Option RB:=match x with
 | .arr n ver len=>match ob n,qBt y with
  | some (.arr ver' sz ty es),some ys=>bif Nat.beq ver ver' && Nat.ble len es.length && Nat.beq ty e && Nat.beq sz te.size && Nat.blt 0 sz && qAx sz ys && qJq ys && Nat.ble (len+ys.length) maxLen && Nat.ble ((len+ys.length) * te.bytes) 140737488355328 then
    some ⟨.arr n (ver+1) (len+ys.length),some (n,.arr (ver+1) sz ty (es.take len++ys)),false⟩ else none
  | _,_=>none
 | .fsl es=>match y with
  | .pv (.slice (y::ys))=>bif qAw te.size es && qAw te.size (y::ys) && Nat.blt 0 te.size && Nat.ble (es.length+(y::ys).length) maxLen && Nat.ble ((es.length+(y::ys).length) * te.bytes) 140737488355328 then
    some ⟨.pv (.slice (es++y::ys)),none,false⟩ else none
  | _=>none
 | .pv .nils=>match qBt y with
  | some ys=>bif Nat.blt 0 te.size && qAx te.size ys && qJq ys && Nat.ble ys.length maxLen && Nat.ble (ys.length * te.bytes) 140737488355328 then
    some ⟨.arr nx 1 ys.length,some (nx,.arr 1 te.size e ys),true⟩ else none
  | none=>none
 | _=>none
theorem qOe {e:Nat} {te:TI} {ob:Nat→Option Ob} {nx:Nat} {xo:Operand} {x y:V} {r:RB} (h:qXl e te ob nx x y=some r) :
  ∃ note,qO6 (qZl e te ob note xo x y) r∧(r.new=true→∃ o,r.wr=some (nx,o)):=by
 unfold qXl at h
 split at h
 ·rename_i n ver len
  split at h
  ·rename_i ver' sz ty es ys eo ey
   obtain⟨h1,h⟩:=qQe h
   cases h
   simp only [Bool.and_eq_true] at h1
   obtain⟨⟨⟨⟨⟨⟨⟨⟨a1,a2⟩,a3⟩,a4⟩,a5⟩,a6⟩,a7⟩,a8⟩,a9⟩:=h1
   refine⟨.none,?_,by simp⟩
   simp only [qZl,eo,ey]
   exact⟨_,rfl,⟨Nat.eq_of_beq_eq_true a1,Nat.le_of_ble_eq_true a2,Nat.eq_of_beq_eq_true a3,Nat.eq_of_beq_eq_true a4,qVj a5,qCa a6,qFb a7,Nat.le_of_ble_eq_true a8,Nat.le_of_ble_eq_true a9⟩,rfl,rfl,rfl⟩
  ·cases h
 ·rename_i es
  split at h
  ·rename_i y ys
   obtain⟨h1,h⟩:=qQe h
   cases h
   simp only [Bool.and_eq_true] at h1
   obtain⟨⟨⟨⟨a1,a2⟩,a3⟩,a4⟩,a5⟩:=h1
   refine⟨.none,?_,by simp⟩
   simp only [qZl]
   exact⟨_,rfl,⟨qB9 a1,qB9 a2,qVj a3,by simp,Nat.le_of_ble_eq_true a4,Nat.le_of_ble_eq_true a5⟩,rfl,rfl,rfl⟩
  ·cases h
 ·split at h
  ·rename_i ys ey
   obtain⟨h1,h⟩:=qQe h
   cases h
   simp only [Bool.and_eq_true] at h1
   obtain⟨⟨⟨⟨a1,a2⟩,a3⟩,a4⟩,a5⟩:=h1
   refine⟨.arr nx te.size e,?_,fun _=>⟨_,rfl⟩⟩
   simp only [qZl,ey]
   exact⟨_,rfl,⟨by first|rfl|trivial,by first|rfl|trivial,qVj a1,qCa a2,qFb a3,Nat.le_of_ble_eq_true a4,Nat.le_of_ble_eq_true a5⟩,rfl,rfl,rfl⟩
  ·cases h
 ·cases h
def qG8 (te:TI) (ob:Nat→Option Ob) (x:V) (lo hi mx:Option V):Option V:=match x,lo,hi,mx with
 | .pv (.slice es),some (.pv (.int l)),none,none=>match qIh l with
  | some k=>bif Nat.ble k es.length && qAw te.size es then some (.pv (.slice (es.drop k))) else none
  | none=>none
 | .pv (.slice es),none,some (.pv (.int h)),none=>match qIh h with
  | some k=>bif Nat.ble k es.length then some (.pv (.slice (es.take k))) else none
  | none=>none
 | .arr n ver len,none,some (.pv (.int h)),none=>match qIh h,ob n with
  | some k,some (.arr ver' _ _ _)=>bif Nat.beq ver ver' && Nat.ble k len then some (.arr n ver k) else none
  | _,_=>none
 | .pv (.slice es),none,some (.pv (.int h)),some (.pv (.int m))=>match qIh h,qIh m with
  | some k,some l=>bif Nat.beq k es.length && Nat.beq l es.length then some (.fsl es) else none
  | _,_=>none
 | .pv .nils,lo,hi,mx=>bif qEr lo && qEr hi && qEr mx && (!mx.isSome || hi.isSome) then some (.pv .nils) else none
 | _,_,_,_=>none
theorem qRc {te:TI} {ob:Nat→Option Ob} {x y:V} {lo hi mx:Option V} (h:qG8 te ob x lo hi mx=some y):Got (qJ3 te ob x lo hi mx) y:=by
 unfold qG8 at h
 unfold qJ3
 split at h
 ·split at h
  ·rename_i k ek
   have hz:=qKc ek
   subst hz
   obtain⟨h1,h⟩:=qQe h
   cases h
   simp only [Bool.and_eq_true] at h1
   have h2:=Nat.le_of_ble_eq_true h1.1
   refine⟨_,rfl,?_,by simp [R.ofIf],rfl,rfl⟩
   exact⟨by omega,by omega,qB9 h1.2⟩
  ·cases h
 ·split at h
  ·rename_i k ek
   have hz:=qKc ek
   subst hz
   obtain⟨h1,h⟩:=qQe h
   cases h
   have h2:=Nat.le_of_ble_eq_true h1
   refine⟨_,rfl,?_,by simp [R.ofIf],rfl,rfl⟩
   exact⟨by omega,by omega⟩
  ·cases h
 ·split at h
  ·rename_i k ver' sz ty es ek eo
   have hz:=qKc ek
   subst hz
   obtain⟨h1,h⟩:=qQe h
   cases h
   simp only [Bool.and_eq_true] at h1
   have h2:=Nat.le_of_ble_eq_true h1.2
   simp only [eo]
   refine⟨_,rfl,?_,by simp [R.ofIf],rfl,rfl⟩
   exact⟨Nat.eq_of_beq_eq_true h1.1,by omega,by omega⟩
  ·cases h
 ·split at h
  ·rename_i k l ek el
   have hz:=qKc ek
   have hz':=qKc el
   subst hz hz'
   obtain⟨h1,h⟩:=qQe h
   cases h
   simp only [Bool.and_eq_true] at h1
   have h2:=Nat.eq_of_beq_eq_true h1.1
   have h3:=Nat.eq_of_beq_eq_true h1.2
   refine⟨_,rfl,?_,rfl,rfl,rfl⟩
   exact⟨by omega,by omega⟩
  ·cases h
 ·obtain⟨h1,h⟩:=qQe h
  cases h
  simp only [h1,cond_true]
  exact⟨_,rfl,trivial,rfl,rfl,rfl⟩
 ·cases h
def qRd (fs:List (Nat × Nat)) (cells:List V):List (Nat × V)→Option (List V)
 | []=>some cells
 | (i,x)::rest=>match qYl fs i with
  | some (off,size)=>match qVz x with
   | some ys=>bif Nat.beq ys.length size then (match qUc cells off ys with
    | some r=>qRd fs r rest
    | none=>none) else none
   | none=>none
  | none=>none
theorem qFc {fs:List (Nat × Nat)} : ∀ {l:List (Nat × V)} {cells cs:List V},qRd fs cells l=some cs→qAs fs cells l=some cs
 | [],_,_,h=>h
 | (i,x)::rest,cells,cs,h=>by
  unfold qRd at h
  unfold qAs
  rw [qJ7] at h
  split at h
  ·rename_i off size ei
   split at h
   ·rename_i ys ex
    obtain⟨h1,h⟩:=qQe h
    have h1:=Nat.eq_of_beq_eq_true h1
    split at h
    ·rename_i r hr
     obtain⟨h2,h3⟩:=qFa cells off ys r hr
     simp only [ei,ex]
     rw [if_pos ⟨h1,by omega⟩]
     have:qEo cells off ys=r:=by rw [h3];rfl
     rw [this]
     exact qFc h
    ·cases h
   ·cases h
  ·cases h
def qG9:Nat→List (Nat × V)→Option (List (List V))
 | _,[]=>some []
 | k,(i,x)::rest=>bif Nat.beq i k then (match qVz x with
   | some cs=>match qG9 (Nat.succ k) rest with
    | some es=>some (cs::es)
    | none=>none
   | none=>none) else none
theorem qCd:∀ {l:List (Nat × V)} {k:Nat} {es:List (List V)},qG9 k l=some es→qJc k l=some es
 | [],_,_,h=>h
 | (i,x)::rest,k,es,h=>by
  unfold qG9 at h
  unfold qJc
  obtain⟨h1,h⟩:=qQe h
  rw [if_pos (Nat.eq_of_beq_eq_true h1)]
  split at h
  ·rename_i cs ec
   split at h
   ·rename_i es' ee
    cases h
    simp only [ec,qCd ee]
   ·cases h
  ·cases h
def zA0 (e:Nat) (te:TI) (nx len:Nat) (es:List (List V)):Option RB :=
 bif Nat.beq es.length len && Nat.ble len 16777216 && Nat.ble (len * te.size) 16777216 && qAx te.size es then (match unE es with
  | some ps=>some ⟨.pv (.slice ps),none,false⟩
  | none=>some ⟨.arr nx 0 len,some (nx,.arr 0 te.size e es),true⟩) else none
theorem zW8 {e:Nat} {te:TI} {nx len:Nat} {es:List (List V)} {r:RB} (h:zA0 e te nx len es=some r):∃ note,qO6 (qIm e te note len es) r∧(r.new=true→∃ o,r.wr=some (nx,o)):=by
 unfold zA0 at h
 obtain⟨h1,h⟩:=qQe h
 simp only [Bool.and_eq_true] at h1
 obtain⟨⟨⟨a1,a2⟩,a3⟩,a4⟩:=h1
 have hc:=And.intro (Nat.eq_of_beq_eq_true a1) (And.intro (Nat.le_of_ble_eq_true a2) (And.intro (Nat.le_of_ble_eq_true a3) (qCa a4)))
 split at h
 ·rename_i ps ep
  cases h
  refine⟨.none,⟨_,rfl,hc,?_,rfl,rfl⟩,by simp⟩
  simp [R.ofIf,qYo,ep]
 ·cases h
  exact⟨.arr nx te.size e,⟨_,rfl,⟨hc,rfl,rfl⟩,rfl,rfl,rfl⟩,fun _=>⟨_,rfl⟩⟩
def qRe (T:Nat→Option TI) (nx t:Nat):Option RB:=match T t with
 | some ti=>some ⟨.loc nx 0,some (nx,.box (pvL ti.zc)),true⟩
 | none=>none
def zFd (nx:Nat) (x:V):Option RB:=match qVz x with
 | some cs=>bif zJt cs then some ⟨.loc nx 0,some (nx,.box cs),true⟩ else none
 | none=>none
def qRf (T:Nat→Option TI) (t:Nat) (ps:List (Nat × V)):Option V:=match T t with
 | some ⟨.struct fs _,_,_,_,zc⟩=>match qRd fs (pvL zc) ps with
  | some cs=>some (zAy cs)
  | none=>none
 | some ⟨.array m e,_,_,_,zc⟩=>match T e with
  | some te=>match qRd (qVn te.size m 0) (pvL zc) ps with
   | some cs=>some (zAy cs)
   | none=>none
  | none=>none
 | _=>none
def qMj (x:V) (i:Nat):Option V:=match x with
 | .pv (.tuple cs)=>match qYl cs i with
  | some c=>some (.pv c)
  | none=>none
 | .tuple cs=>qYl cs i
 | _=>none
def qAy:IntKind→IntKind→Bool
 | .u8,.u8=>true
 | .u32,.u32=>true
 | .i32,.i32=>true
 | _,_=>false
theorem qUy {a b:IntKind} (h:qAy a b=true):a=b:=by cases a<;>cases b<;>first|rfl|cases h
def qMk (x:Int):Option Int:=bif inB x then some x else none
def qHa (k:IntKind) (x:Int):Option V:=match qMk x with
 | some y=>some (.pv (.num k y))
 | none=>none
theorem qFd {k:IntKind} {x:Int} {v:V} (h:qHa k x=some v):v = .pv (.num k x):=by
 unfold qHa qMk at h
 cases e:inB x with
 | true=>rw [e] at h;cases h;rfl
 | false=>rw [e] at h;cases h
def zW9 (op:BinOp) (k:IntKind) (a b:Int):Option V:=match op with
 | .add=>qHa k (k.wrap (a+b))
 | .sub=>qHa k (k.wrap (a-b))
 | .and=>qHa k (qQp .and k a b)
 | .or=>qHa k (qQp .or k a b)
 | .andNot=>qHa k (qQp .andNot k a b)
 | .lss=>some (bv (ltI a b))
 | .leq=>some (bv (!ltI b a))
 | .gtr=>some (bv (ltI b a))
 | .geq=>some (bv (!ltI a b))
 | .eql=>some (bv (eqI a b))
 | .neq=>some (bv (!eqI a b))
 | _=>none
theorem zKa {op:BinOp} {k:IntKind} {a b:Int} {x:V} (h:zW9 op k a b=some x):Got (qEq op k a b) x:=by
 have hb:∀ c d:Bool,c=d→some (bv c)=some x→Got (qJb d) x:=by
  intro c d e hc
  subst e
  cases hc
  exact⟨_,rfl,trivial,rfl,rfl,rfl⟩
 have hv:∀ c:Int,qHa k c=some x→Got (some (R.of (.pv (.num k c)))) x:=by
  intro c hc
  rw [qFd hc]
  exact⟨_,rfl,trivial,rfl,rfl,rfl⟩
 cases op<;>simp only [zW9] at h<;>try cases h<;>done
 case add=>exact hv _ h
 case sub=>exact hv _ h
 case and=>exact hv _ h
 case or=>exact hv _ h
 case andNot=>exact hv _ h
 case lss=>exact hb _ _ (qQr a b) h
 case leq=>exact hb _ _ (by rw [qQr];by_cases hh:b<a<;>simp [hh]<;>omega) h
 case gtr=>exact hb _ _ (qQr b a) h
 case geq=>exact hb _ _ (by rw [qQr];by_cases hh:a<b<;>simp [hh]<;>omega) h
 case eql=>exact hb _ _ (qVp a b) h
 case neq=>exact hb _ _ (by rw [qVp]) h
def qD6 (op:BinOp) (k:IntKind) (a n:Int):Option V:=match op with
 | .shl=>bif ltI n 0 then none else qHa k (k.wrap (a * 2 ^ (min n.toNat k.bits)))
 | .shr=>bif ltI n 0 then none else qHa k (a.fdiv (2 ^ (min n.toNat k.bits)))
 | _=>none
theorem qRg {op:BinOp} {k:IntKind} {a n:Int} {x:V} (h:qD6 op k a n=some x):Got (qXw op k a n) x:=by
 have hv:∀ c:Int,(bif ltI n 0 then none else qHa k c)=some x→Got (some (R.ofIf (0≤n) (.pv (.num k c)))) x:=by
  intro c hc
  cases e:ltI n 0 with
  | true=>rw [e] at hc;cases hc
  | false =>
   rw [e] at hc
   rw [qFd hc]
   rw [qQr] at e
   exact⟨_,rfl,(show 0≤n by simpa using e),rfl,rfl,rfl⟩
 cases op<;>simp only [qD6] at h<;>try cases h<;>done
 case shl=>exact hv _ h
 case shr=>exact hv _ h
def zKb (k:TK) (op:BinOp) (x y:V) (yo:Operand):Option V:=match x,y with
 | .pv (.int a),.pv (.int b)=>zJs op a b
 | .pv (.num j a),.pv (.num j' b)=>bif qAy j j' then zW9 op j a b else none
 | .pv (.num j a),.pv (.int n)=>qD6 op j a n
 | .pv (.str a),.pv (.str b)=>match op with
  | .eql=>some (bv (eqL a b))
  | .neq=>some (bv (!eqL a b))
  | _=>none
 | x,y=>match op with
  | .eql=>match qDo k x y yo with
   | some b=>some (bv b)
   | none=>none
  | .neq=>match qDo k x y yo with
   | some b=>some (bv (!b))
   | none=>none
  | _=>none
theorem zKc {k:TK} {op:BinOp} {x y z:V} {yo:Operand} (h:zKb k op x y yo=some z):Got (qW4 k op x y yo) z:=by
 have hb:∀ c:Bool,some (bv c)=some z→Got (qJb c) z:=by
  intro c hc
  cases hc
  exact⟨_,rfl,trivial,rfl,rfl,rfl⟩
 unfold zKb at h
 split at h
 ·exact zW5 h
 ·rename_i j a j' b
  have h1:=qUy (qQe h).1
  replace h:=(qQe h).2
  subst h1
  simp only [qW4,if_true]
  exact zKa h
 ·simp only [qW4]
  exact qRg h
 ·simp only [qW4]
  split at h
  ·exact hb _ h
  ·exact hb _ h
  ·cases h
 ·rename_i hne hne2 hne4 hne3
  have key:∀ b,qDo k x y yo=some b→((op = .eql∧z=bv b)∨(op = .neq∧z=bv (!b)))→Got (qW4 k op x y yo) z:=by
   intro b hb2 hop
   unfold qW4
   split
   ·rename_i a b';exact (hne a b' rfl rfl).elim
   ·rename_i j a j' b';exact (hne2 j a j' b' rfl rfl).elim
   ·rename_i j a n;exact (hne4 j a n rfl rfl).elim
   ·rename_i a b';exact (hne3 a b' rfl rfl).elim
   ·rcases hop with ⟨rfl,rfl⟩|⟨rfl,rfl⟩<;>simp only [hb2]<;>exact⟨_,rfl,trivial,rfl,rfl,rfl⟩
  split at h
  ·split at h
   ·rename_i b' hb';cases h;exact key b' hb' (.inl ⟨rfl,rfl⟩)
   ·cases h
  ·split at h
   ·rename_i b' hb';cases h;exact key b' hb' (.inr ⟨rfl,rfl⟩)
   ·cases h
  ·cases h
def qHb:Bool→Bool→Bool
 | true,b=>b
 | false,true=>false
 | false,false=>true
theorem qX6 {a b:Bool} (h:qHb a b=true):a=b:=by cases a<;>cases b<;>first|rfl|cases h
def qUz (s:Bool) (ob:Nat→Option Ob) (m k v:V):Option RB:=match m with
 | .map n=>match zYz k with
  | some a=>match ob n with
   | some (.smap s' es)=>bif qHb s' s && qHb a.kind s && v.one then some ⟨.undef,some (n,.smap s' (qGm es a v)),false⟩ else none
   | _=>none
  | none=>none
 | _=>none
theorem qA8 {s:Bool} {ob:Nat→Option Ob} {m k v:V} {r:RB} (h:qUz s ob m k v=some r):qO6 (qQ9 s ob m k v) r∧r.new=false ∧ ∃ n,(∃ o,r.wr=some (n,o))∧(ob n).isSome=true:=by
 unfold qUz at h
 split at h
 ·rename_i n
  split at h
  ·rename_i a ea
   split at h
   ·rename_i s' es eo
    have h1:=(qQe h).1
    cases (qQe h).2
    simp only [Bool.and_eq_true] at h1
    refine⟨?_,rfl,n,⟨_,rfl⟩,by rw [eo];rfl⟩
    simp only [qQ9,ea,eo]
    exact⟨_,rfl,⟨qX6 h1.1.1,qX6 h1.1.2,h1.2⟩,rfl,rfl,rfl⟩
   ·cases h
  ·cases h
 ·cases h
def qRh (s ok:Bool) (z:PV) (ob:Nat→Option Ob) (m k:V):Option V:=match m with
 | .map n=>match zYz k with
  | some a=>match ob n with
   | some (.smap s' es)=>bif qHb s' s && qHb a.kind s then (match qMb es a,ok with
    | some x,true=>some (.tuple [x,.pv (.bool true)])
    | none,true=>some (.pv (.tuple [z,.bool false]))
    | some x,false=>some x
    | none,false=>some (.pv z)) else none
   | _=>none
  | none=>none
 | _=>none
theorem qRi {s ok:Bool} {z:PV} {ob:Nat→Option Ob} {m k x:V} (h:qRh s ok z ob m k=some x):Got (qJm s ok z ob m k) x:=by
 unfold qRh at h
 split at h
 ·rename_i n
  split at h
  ·rename_i a ea
   split at h
   ·rename_i s' es eo
    have h1:=(qQe h).1
    replace h:=(qQe h).2
    simp only [Bool.and_eq_true] at h1
    simp only [qJm,ea,eo]
    refine⟨_,rfl,⟨qX6 h1.1,qX6 h1.2⟩,?_,rfl,rfl⟩
    cases hg:qMb es a<;>cases ok<;>rw [hg] at h<;>cases h<;>rfl
   ·cases h
  ·cases h
 ·cases h
def zKd:V→Option V
 | .pv (.str l)=>some (.pv (.int (.ofNat l.length)))
 | _=>none
theorem qU0 {x y:V} (h:zKd x=some y):Got (qEs x) y:=by
 unfold zKd at h
 split at h
 ·cases h;exact⟨_,rfl,trivial,rfl,rfl,rfl⟩
 ·cases h
def qLd (x i:V):Option V:=match x with
 | .pv (.str l)=>match i with
  | .pv (.int z)=>match qIh z with
   | some k=>match qYl l k with
    | some b=>some (.pv (.num .u8 (.ofNat b)))
    | none=>none
   | none=>none
  | _=>none
 | _=>none
theorem qOf {x i y:V} (h:qLd x i=some y):Got (qYp x i) y:=by
 unfold qLd at h
 split at h
 ·rename_i l
  split at h
  ·rename_i z
   split at h
   ·rename_i k ek
    have hz:=qKc ek
    subst hz
    split at h
    ·rename_i b hb
     cases h
     rw [qJ7] at hb
     have hlt:k<l.length:=(List.getElem?_eq_some_iff.1 hb).1
     have hg:l.getD k 0=b:=by rw [List.getD_eq_getElem?_getD,hb];rfl
     refine⟨_,rfl,⟨by omega,by omega⟩,?_,rfl,rfl⟩
     simp only [R.ofIf,Int.toNat_natCast,hg]
     rfl
    ·cases h
   ·cases h
  ·cases h
 ·cases h
def qMl (d:Nat):Option V→Option Nat
 | none=>some d
 | some (.pv (.int k))=>qIh k
 | _=>none
theorem qHc {d n:Nat} {x:Option V} (h:qMl d x=some n):qXy (d:Int) x=some (n:Int):=by
 unfold qMl at h
 unfold qXy
 split at h
 ·cases h;rfl
 ·simp only [qKc h]
 ·cases h
def qLe (x:V) (lo hi mx:Option V):Option V:=match x with
 | .pv (.str l)=>match mx with
  | none=>match qMl 0 lo,qMl l.length hi with
   | some a,some b=>bif Nat.ble a b && Nat.ble b l.length then (match qOd (qG6 l a) (b-a) with
    | some r=>some (.pv (.str r))
    | none=>none) else none
   | _,_=>none
  | some _=>none
 | _=>none
theorem qOg {x y:V} {lo hi mx:Option V} (h:qLe x lo hi mx=some y):Got (qKs x lo hi mx) y:=by
 unfold qLe at h
 split at h
 ·rename_i l
  split at h
  ·split at h
   ·rename_i a b ea eb
    have h1:=(qQe h).1
    replace h:=(qQe h).2
    simp only [Bool.and_eq_true] at h1
    have h2:=Nat.le_of_ble_eq_true h1.1
    have h3:=Nat.le_of_ble_eq_true h1.2
    split at h
    ·rename_i r hr
     cases h
     rw [qA7,qA6] at hr
     split at hr
     ·cases hr
      have ea':=qHc ea
      have eb':=qHc eb
      have ea'':qXy 0 lo=some (a:Int):=ea'
      simp only [qKs,ea'',eb']
      refine⟨_,rfl,⟨by omega,by omega,by omega⟩,?_,rfl,rfl⟩
      have:((b:Int)-(a:Int)).toNat=b-a:=by omega
      simp [R.ofIf,this]
     ·cases hr
    ·cases h
   ·cases h
  ·cases h
 ·cases h
def qMm (nx:Nat):V→Option RB
 | .pv (.str l)=>some ⟨.loc nx 0,some (nx,.siter l 0),true⟩
 | _=>none
def zKe (ob:Nat→Option Ob):V→Option RB
 | .loc n 0=>match ob n with
  | some (.siter l p)=>match qYl l p with
   | some b=>bif Nat.blt b 128 then some ⟨.pv (.tuple [.bool true,.int (.ofNat p),.num .i32 (.ofNat b)]),some (n,.siter l (p+1)),false⟩ else none
   | none=>some ⟨.pv (.tuple [.bool false]),none,false⟩
  | _=>none
 | _=>none
theorem qMn {ob:Nat→Option Ob} {x:V} {r:RB} (h:zKe ob x=some r):qO6 (qKr ob x) r∧r.new=false ∧ ∀ n o,r.wr=some (n,o)→(ob n).isSome=true:=by
 unfold zKe at h
 split at h
 ·rename_i n
  split at h
  ·rename_i l p eo
   rw [qJ7] at h
   split at h
   ·rename_i b hb
    have h1:=qVj (qQe h).1
    cases (qQe h).2
    refine⟨?_,rfl,fun n' o e=>by cases e;rw [eo];rfl⟩
    simp only [qKr,eo,hb]
    exact⟨_,rfl,h1,rfl,rfl,rfl⟩
   ·rename_i hb
    cases h
    refine⟨?_,rfl,fun n' o e=>by cases e⟩
    simp only [qKr,eo,hb]
    exact⟨_,rfl,trivial,rfl,rfl,rfl⟩
  ·cases h
 ·cases h
def zKf (T:Nat→Option TI) (s t:Nat) (x:V):Option V:=match T s with
 | some _=>match T t with
  | some ⟨.num k,_,_,_,_⟩=>match x with
   | .pv (.num _ n)=>qHa k (k.wrap n)
   | .pv (.int n)=>qHa k (k.wrap n)
   | _=>none
  | some ⟨.int,_,_,_,_⟩=>match x with
   | .pv (.num _ n)=>qO5 (IntKind.i64.wrap n)
   | .pv (.int n)=>qO5 (IntKind.i64.wrap n)
   | _=>none
  | _=>none
 | none=>none
def qRj (T:Nat→Option TI) (s t:Nat) (x:V):Option V:=match T s with
 | some ⟨.str,_,_,_,_⟩=>match T t with
  | some ⟨.slice e,_,_,_,_⟩=>match x with
   | .pv (.str l)=>match T e with
    | some ⟨.num .u8,_,_,_,_⟩=>bif Nat.ble l.length maxLen then some (.pv (.slice (qW6 l))) else none
    | _=>none
   | _=>none
  | _=>none
 | _=>none
theorem qRk {x:Int} {v:V} (h:qO5 x=some v):v = .pv (.int x):=by
 unfold qO5 at h
 cases e:inB x with
 | true=>rw [e] at h;cases h;rfl
 | false=>rw [e] at h;cases h
theorem qU1 {T:Nat→Option TI} {s t:Nat} {x y:V} : zKf T s t x=some y→Got (match T s,T t,x with
  | some _,some ⟨.num k,_,_,_,_⟩,.pv (.num _ n)=>some (R.of (.pv (.num k (k.wrap n))))
  | some _,some ⟨.num k,_,_,_,_⟩,.pv (.int n)=>some (R.of (.pv (.num k (k.wrap n))))
  | some _,some ⟨.int,_,_,_,_⟩,.pv (.num _ n)=>some (R.of (.pv (.int (IntKind.i64.wrap n))))
  | some _,some ⟨.int,_,_,_,_⟩,.pv (.int n)=>some (R.of (.pv (.int (IntKind.i64.wrap n))))
  | some ⟨.str,_,_,_,_⟩,some ⟨.slice e,_,_,_,_⟩,.pv (.str l)=>match T e with
   | some ⟨.num .u8,_,_,_,_⟩=>some (R.ofIf (l.length≤maxLen) (.pv (.slice (qW6 l))))
   | _=>none
  | _,_,_=>none) y:=by
 intro h
 unfold zKf at h
 split at h
 ·rename_i si es
  split at h
  ·rename_i k a b c d et
   split at h
   ·simp only [es,et];rw [qFd h];exact⟨_,rfl,trivial,rfl,rfl,rfl⟩
   ·simp only [es,et];rw [qFd h];exact⟨_,rfl,trivial,rfl,rfl,rfl⟩
   ·cases h
  ·rename_i a b c d et
   split at h
   ·simp only [es,et];rw [qRk h];exact⟨_,rfl,trivial,rfl,rfl,rfl⟩
   ·simp only [es,et];rw [qRk h];exact⟨_,rfl,trivial,rfl,rfl,rfl⟩
   ·cases h
  ·cases h
 ·cases h
theorem qRl {T:Nat→Option TI} {s t:Nat} {x y:V} : qRj T s t x=some y→Got (match T s,T t,x with
  | some _,some ⟨.num k,_,_,_,_⟩,.pv (.num _ n)=>some (R.of (.pv (.num k (k.wrap n))))
  | some _,some ⟨.num k,_,_,_,_⟩,.pv (.int n)=>some (R.of (.pv (.num k (k.wrap n))))
  | some _,some ⟨.int,_,_,_,_⟩,.pv (.num _ n)=>some (R.of (.pv (.int (IntKind.i64.wrap n))))
  | some _,some ⟨.int,_,_,_,_⟩,.pv (.int n)=>some (R.of (.pv (.int (IntKind.i64.wrap n))))
  | some ⟨.str,_,_,_,_⟩,some ⟨.slice e,_,_,_,_⟩,.pv (.str l)=>match T e with
   | some ⟨.num .u8,_,_,_,_⟩=>some (R.ofIf (l.length≤maxLen) (.pv (.slice (qW6 l))))
   | _=>none
  | _,_,_=>none) y:=by
 intro h
 unfold qRj at h
 split at h
 ·rename_i es
  split at h
  ·rename_i et
   split at h
   ·split at h
    ·rename_i ee
     simp only [es,et,ee]
     rename_i l _ _ _ _ _ _
     cases e:Nat.ble _ maxLen with
     | true=>rw [e] at h;cases h;exact⟨_,rfl,Nat.le_of_ble_eq_true e,rfl,rfl,rfl⟩
     | false=>rw [e] at h;cases h
    ·cases h
   ·cases h
  ·cases h
 ·cases h
def qLf (ti:TI) (t:Nat) (ok:Bool) (x:V):Option V:=match x with
 | .pv (.iface t' p)=>bif Nat.beq t' t then (match ok with
   | true=>some (.pv (.tuple [p,.bool true]))
   | false=>some (.pv p))
  else (match ok with
   | true=>match qDq ti with
    | some z=>some (.pv (.tuple [z,.bool false]))
    | none=>none
   | false=>none)
 | .pv .nilif=>match ok with
   | true=>match qDq ti with
    | some z=>some (.pv (.tuple [z,.bool false]))
    | none=>none
   | false=>none
 | _=>none
theorem qOh {ti:TI} {t:Nat} {ok:Bool} {x y:V} (h:qLf ti t ok x=some y):Got (qKq ti t ok x) y:=by
 unfold qLf at h
 unfold qKq
 split at h
 ·rename_i t' p
  simp only
  cases e:Nat.beq t' t with
  | true =>
   rw [e] at h
   simp only [cond_true] at h
   rw [if_pos (Nat.eq_of_beq_eq_true e)]
   cases ok<;>cases h<;>exact⟨_,rfl,trivial,rfl,rfl,rfl⟩
  | false =>
   rw [e] at h
   simp only [cond_false] at h
   have hne:¬ t'=t:=fun e'=>by rw [qLb e'] at e;cases e
   rw [if_neg hne]
   cases ok with
   | false=>cases h
   | true =>
    simp only at h
    split at h
    ·rename_i z ez
     cases h
     simp only [ez]
     exact⟨_,rfl,trivial,rfl,rfl,rfl⟩
    ·cases h
 ·cases ok with
  | false=>cases h
  | true =>
   simp only at h
   split at h
   ·rename_i z ez
    cases h
    simp only [ez]
    exact⟨_,rfl,trivial,rfl,rfl,rfl⟩
   ·cases h
 ·cases h
def zIc (x:V):Option V:=match x with
 | .pv (.ptr cs)=>some (.pv (.ptr cs))
 | .pv (.nptr cs)=>some (.pv (.nptr cs))
 | .loc n off=>some (.loc n off)
 | .eloc n v i o=>some (.eloc n v i o)
 | _=>none
def zJu (T:Nat→Option TI) (t f:Nat) (x:V):Option V:=match T t with
 | some ⟨.struct fs _,_,_,_,_⟩=>match fs[f]? with
  | some (off,size)=>bif Nat.beq size 0 then none else qW5 x off
  | none=>none
 | _=>none
def qRm (T:Nat→Option TI) (t f:Nat) (x:V):Option V:=match T t with
 | some ⟨.struct fs pl,_,_,_,_⟩=>bif pl.elem f then (match fs[f]? with
  | some (off,_)=>(match x with
   | .pv (.agg cs)=>(match cs[off]? with|some c=>some (.pv c)|none=>none)
   | .agg cs=>cs[off]?
   | _=>none)
  | none=>none) else none
 | _=>none
def ro (x:Option V):Option RB:=match x with
 | some v=>some ⟨v,none,false⟩
 | none=>none
def opE (T:Nat→Option TI) (nx:Nat) (val:Operand→V) (ob:Nat→Option Ob) (dst:Option Nat) (op:Op):Option RB:=match op with
 | .move x=>rb (val x)
 | .assign x=>rb (val x)
 | .pick c a b=>match val c with
  | .pv (.bool true)=>rb (val a)
  | .pv (.bool false)=>rb (val b)
  | _=>none
 | .alloc t=>qRe T nx t
 | .box _ x=>zFd nx (val x)
 | .build t parts=>ro (qRf T t (parts.toList.map fun p=>(p.1,val p.2)))
 | .makeFunc (.func f) first caps=>match first.toList with
  | []=>rb (.fn f (caps.toList.map val))
  | a::l=>match caps.toList with
   | []=>rb (.bfn f ((a::l).map val))
   | _::_=>none
 | .buildSlice t len parts=>match T t with
  | some ⟨.slice e,_,_,_,_⟩=>match T e with
   | some te=>match qG9 0 (parts.toList.map fun p=>(p.1,val p.2)) with
    | some es=>zA0 e te nx len es
    | none=>none
   | none=>none
  | _=>none
 | .load t x=>match T t with
  | some ti=>ro (zW6 ti ob (val x))
  | none=>none
 | .store t x y=>match dst with
  | none=>match T t with
   | some ti=>qCc ti ob (val x) (val y)
   | none=>none
  | some _=>none
 | .nilCheck x=>ro (zIc (val x))
 | .binOp b t x y _=>match T t with
  | some ti=>ro (zKb ti.k b (val x) (val y) y)
  | none=>none
 | .unOp .not _ x=>match val x with
  | .pv (.bool b)=>rb (bv (!b))
  | _=>none
 | .makeInterface t x=>match T t with
  | some ti=>match val x with
   | .pv p=>bif ti.k.isIface then none else rb (.pv (.iface t p))
   | _=>none
  | none=>none
 | .fieldAddr t x f=>ro (zJu T t f (val x))
 | .field t x f=>ro (qRm T t f (val x))
 | .indexAddr t x i=>ro (qMi T ob t (val x) (val i))
 | .extract x i=>ro (qMj (val x) i)
 | .range t x=>match T t with
  | some ⟨.str,_,_,_,_⟩=>qMm nx (val x)
  | _=>none
 | .next x true=>zKe ob (val x)
 | .index t x i=>match T t with
  | some ⟨.str,_,_,_,_⟩=>ro (qLd (val x) (val i))
  | _=>none
 | .convert s t x=>ro (match zKf T s t (val x) with
  | some y=>some y
  | none=>qRj T s t (val x))
 | .typeAssert x _ t ok=>match T t with
  | some ti=>bif ti.k.isIface then none else ro (qLf ti t ok (val x))
  | none=>none
 | .makeMap t none=>match T t with
  | some ⟨.smap _ _ s,_,_,_,_⟩=>some ⟨.map nx,some (nx,.smap s []),true⟩
  | _=>none
 | .mapUpdate t m k v=>match dst with
  | none=>match T t with
   | some ⟨.smap _ _ s,_,_,_,_⟩=>qUz s ob (val m) (val k) (val v)
   | _=>none
  | some _=>none
 | .insert t m k v=>match dst with
  | none=>match T t with
   | some ⟨.smap _ _ s,_,_,_,_⟩=>qUz s ob (val m) (val k) (val v)
   | _=>none
  | some _=>none
 | .lookup t m k ok=>match T t with
  | some ⟨.smap _ vt s,_,_,_,_⟩=>match T vt with
   | some tv=>match zY0 tv.zero with
    | some z=>ro (qRh s ok z ob (val m) (val k))
    | none=>none
   | none=>none
  | _=>none
 | .slice t x lo hi mx=>match T t with
  | some ⟨.slice e,_,_,_,_⟩=>match T e with
   | some te=>ro (qG8 te ob (val x) (lo.map val) (hi.map val) (mx.map val))
   | none=>none
  | some ⟨.str,_,_,_,_⟩=>ro (qLe (val x) (lo.map val) (hi.map val) (mx.map val))
  | _=>none
 | .call { callee:=.builtin .len,args,argTypes } => match argTypes.toList,args.toList with
  | [t],[x]=>match T t with
   | some ⟨.slice _,_,_,_,_⟩=>ro (zFc ob (val x))
   | some ⟨.str,_,_,_,_⟩=>ro (zKd (val x))
   | _=>none
  | _,_=>none
 | .call { callee:=.builtin .append,args,argTypes } => match argTypes.toList,args.toList with
  | [t,t'],[x,y]=>bif Nat.beq t t' then (match T t with
    | some ⟨.slice e,_,_,_,_⟩=>match T e with
     | some te=>qXl e te ob nx (val x) (val y)
     | none=>none
    | _=>none) else none
  | _,_=>none
 | .call { callee:=.builtin .max,args,argTypes:=_ } => match args.toList with
  | [x,y]=>match val x,val y with
   | .pv (.int a),.pv (.int b)=>rb (.pv (.int (bif ltI a b then b else a)))
   | _,_=>none
  | _=>none
 | _=>none
theorem qCe {x:V} {r:RB} (h:rb x=some r) {f:Prop} : qO6 (some ⟨True,f,x,none,false⟩) r:=by
 cases h
 exact⟨_,rfl,trivial,rfl,rfl,rfl⟩
theorem qKd {o:Option V} {r:RB} (h:ro o=some r):∃ v,o=some v∧r=⟨v,none,false⟩:=by
 unfold ro at h
 split at h
 ·cases h;exact⟨_,rfl,rfl⟩
 ·cases h
theorem qX7 {x:V} {r:RB} (h:rb x=some r) {nx:Nat} : r.new=true→∃ q,r.wr=some (nx,q):=by
 cases h
 simp
theorem qRn {T:Nat→Option TI} {t:Nat} {ps:List (Nat × V)} {x:V} (h:qRf T t ps=some x) :
  Got (match T t with
  | some ⟨.struct fs _,_,_,_,zc⟩=>(qAs fs (pvL zc) ps).map (fun cs=>R.of (qAr cs))
  | some ⟨.array m e,_,_,_,zc⟩=>match T e with
   | some te=>(qAs (qVn te.size m 0) (pvL zc) ps).map (fun cs=>R.of (qAr cs))
   | none=>none
  | _=>none) x:=by
 unfold qRf at h
 split at h
 ·rename_i fs pl a b c zc et
  try simp only [et]
  split at h
  ·rename_i cs ec
   cases h
   rw [qFc ec,qLc]
   exact⟨_,rfl,trivial,rfl,rfl,rfl⟩
  ·cases h
 ·rename_i m e a b c zc et
  try simp only [et]
  split at h
  ·rename_i te ee
   try simp only [ee]
   split at h
   ·rename_i cs ec
    cases h
    rw [qFc ec,qLc]
    exact⟨_,rfl,trivial,rfl,rfl,rfl⟩
   ·cases h
  ·cases h
 ·cases h
theorem zJv {T:Nat→Option TI} {nx:Nat} {val:Operand→V} {ob:Nat→Option Ob} {dst:Option Nat} {op:Op} {r:RB} (h:opE T nx val ob dst op=some r) :
  ∃ note,qO6 (qQb T note val ob dst op) r∧(r.new=true→∃ o,r.wr=some (nx,o)):=by
 unfold opE at h
 split at h
 ·refine⟨.none,?_,qX7 h⟩
  simp only [qQb,qVh]
  exact qCe h
 ·refine⟨.none,?_,qX7 h⟩
  simp only [qQb,qVh]
  exact qCe h
 ·rename_i c a b
  have key:∀ (bb:Bool),val c = .pv (.bool bb)→rb (bif bb then val a else val b)=some r→qO6 (qQb T .none val ob dst (.pick c a b)) r:=by
   intro bb hc hr
   simp only [qQb,hc]
   cases bb<;>simp only [cond_true,cond_false] at hr
   ·split
    ·rename_i e1 e2 e3;rw [e3] at hr;cases e1;exact qCe hr
    ·rename_i e1 _;cases e1
    ·exact qCe hr
    ·rename_i h1 h2 h3;exact (h2 rfl).elim
   ·split
    ·rename_i e1 e2 e3;rw [e2] at hr;cases e1;exact qCe hr
    ·exact qCe hr
    ·rename_i e1 _;cases e1
    ·rename_i h1 h2 h3;exact (h1 rfl).elim
  split at h
  ·rename_i hc;exact⟨.none,key true hc h,qX7 h⟩
  ·rename_i hc;exact⟨.none,key false hc h,qX7 h⟩
  ·cases h
 ·rename_i t
  unfold qRe at h
  split at h
  ·rename_i ti et
   cases h
   refine⟨.box nx,?_,fun _=>⟨_,rfl⟩⟩
   simp only [qQb,et]
   exact⟨_,rfl,trivial,rfl,rfl,rfl⟩
  ·cases h
 ·rename_i t x
  unfold zFd at h
  split at h
  ·rename_i cs ec
   obtain⟨h1,h⟩:=qQe h
   cases h
   refine⟨.box nx,?_,fun _=>⟨_,rfl⟩⟩
   simp only [qQb,ec]
   rw [if_pos (qCb h1)]
   exact⟨_,rfl,trivial,rfl,rfl,rfl⟩
  ·cases h
 ·rename_i t parts
  obtain⟨v,hv,rfl⟩:=qKd h
  refine⟨.none,?_,by simp⟩
  simp only [qQb]
  exact (qRn hv).r
 ·rename_i f first caps
  split at h
  ·rename_i e
   refine⟨.none,?_,qX7 h⟩
   have e0:first.size=0:=by rw [← Array.length_toList,e];rfl
   simp only [qQb,e0,if_true]
   exact qCe h
  ·rename_i a l e
   split at h
   ·rename_i e'
    refine⟨.none,?_,qX7 h⟩
    have e0:¬ first.size=0:=by rw [← Array.length_toList,e];simp
    have e1:caps.size=0:=by rw [← Array.length_toList,e'];rfl
    simp only [qQb,e0,e1,if_true,if_false,e]
    exact qCe h
   ·cases h
 ·rename_i t len parts
  split at h
  ·rename_i e a b c d et
   split at h
   ·rename_i te ee
    split at h
    ·rename_i es ep
     obtain⟨note,hr,hn⟩:=zW8 h
     refine⟨note,?_,hn⟩
     simp only [qQb,et,ee,qCd ep]
     exact hr
    ·cases h
   ·cases h
  ·cases h
 ·rename_i t x
  split at h
  ·rename_i ti et
   obtain⟨v,hv,rfl⟩:=qKd h
   refine⟨.none,?_,by simp⟩
   simp only [qQb,et]
   exact (qUx hv).r
  ·cases h
 ·rename_i t x y
  split at h
  ·split at h
   ·rename_i ti et
    refine⟨.none,?_,?_⟩
    ·simp only [qQb,et]
     exact qG7 h
    ·obtain⟨q,_,_,_,_,_⟩:=qG7 h
     unfold qCc at h
     intro hn
     exfalso
     revert hn h
     simp only [qRa]
     repeat' (first|split|(intro h;cases h)|simp only [cond] )
     all_goals (intro h;first|(cases h;done)|(cases h;simp))
   ·cases h
  ·cases h
 ·obtain⟨v,hv,rfl⟩:=qKd h
  refine⟨.none,?_,by simp⟩
  unfold zIc at hv
  simp only [qQb]
  split at hv<;>rename_i ev<;>cases hv<;>rw [ev]<;>exact⟨_,rfl,trivial,rfl,rfl,rfl⟩
 ·split at h
  ·rename_i ti et
   obtain⟨v,hv,rfl⟩:=qKd h
   refine⟨.none,?_,by simp⟩
   simp only [qQb,et]
   exact (zKc hv).r
  ·cases h
 ·split at h
  ·rename_i b eb
   refine⟨.none,?_,qX7 h⟩
   simp only [qQb,eb,qJb]
   exact qCe h
  ·cases h
 ·split at h
  ·rename_i ti et
   split at h
   ·rename_i p ep
    cases e:ti.k.isIface with
    | true=>rw [e] at h;cases h
    | false =>
     rw [e] at h
     refine⟨.none,?_,qX7 h⟩
     simp only [qQb,et,ep,e]
     exact qCe h
   ·cases h
  ·cases h
 ·obtain⟨v,hv,rfl⟩:=qKd h
  refine⟨.none,?_,by simp⟩
  unfold zJu at hv
  simp only [qQb]
  split at hv
  ·rename_i fs pl a b c d et
   split at hv
   ·rename_i off size ef
    cases e:Nat.beq size 0 with
    | true=>rw [e] at hv;cases hv
    | false =>
     rw [e] at hv
     simp only [cond_false] at hv
     have hs:¬ size=0:=fun e'=>by rw [qLb e'] at e;cases e
     simp only [et,ef,hs,if_false,hv]
     exact⟨_,rfl,trivial,rfl,rfl,rfl⟩
   ·cases hv
  ·cases hv
 ·obtain⟨v,hv,rfl⟩:=qKd h
  refine⟨.none,?_,by simp⟩
  unfold qRm at hv
  simp only [qQb]
  split at hv
  ·rename_i fs pl a b c d et
   cases e:pl.elem _ with
   | false=>rw [e] at hv;cases hv
   | true =>
    rw [e] at hv
    simp only [cond_true] at hv
    split at hv
    ·rename_i off size ef
     simp only [et,ef,e,cond_true]
     split at hv
     ·split at hv
      ·rename_i ex _ c ec
       cases hv
       simp only [ex,ec,Option.map_some]
       exact⟨_,rfl,trivial,rfl,rfl,rfl⟩
      ·cases hv
     ·rename_i cs ex
      simp only [ex,hv,Option.map_some]
      exact⟨_,rfl,trivial,rfl,rfl,rfl⟩
     ·cases hv
    ·cases hv
  ·cases hv
 ·obtain⟨v,hv,rfl⟩:=qKd h
  refine⟨.none,?_,by simp⟩
  simp only [qQb]
  exact (qRb hv).r
 ·obtain⟨v,hv,rfl⟩:=qKd h
  refine⟨.none,?_,by simp⟩
  unfold qMj at hv
  simp only [qQb]
  simp only [qJ7] at hv
  split at hv
  ·rename_i cs ev
   split at hv
   ·rename_i c ec
    cases hv
    simp only [ev,ec]
    exact⟨_,rfl,trivial,rfl,rfl,rfl⟩
   ·cases hv
  ·rename_i cs ev
   simp only [ev,hv]
   exact⟨_,rfl,trivial,rfl,rfl,rfl⟩
  ·cases hv
 ·rename_i t x
  split at h
  ·rename_i a b c d et
   refine⟨.siter nx,?_,?_⟩
   ·simp only [qQb,et]
    unfold qMm at h
    split at h
    ·rename_i l el
     cases h
     simp only [qBu,el]
     exact⟨_,rfl,trivial,rfl,rfl,rfl⟩
    ·cases h
   ·intro _
    unfold qMm at h
    split at h
    ·cases h;exact⟨_,rfl⟩
    ·cases h
  ·cases h
 ·obtain⟨h1,h2,_⟩:=qMn h
  refine⟨.none,?_,by rw [h2];simp⟩
  simp only [qQb]
  exact h1
 ·split at h
  ·rename_i a b c d et
   obtain⟨v,hv,rfl⟩:=qKd h
   refine⟨.none,?_,by simp⟩
   simp only [qQb,et]
   exact (qOf hv).r
  ·cases h
 ·obtain⟨v,hv,rfl⟩:=qKd h
  refine⟨.none,?_,by simp⟩
  simp only [qQb]
  split at hv
  ·rename_i hv'
   cases hv
   exact (qU1 hv').r
  ·exact (qRl hv).r
 ·split at h
  ·rename_i ti et
   cases e:ti.k.isIface with
   | true=>rw [e] at h;cases h
   | false =>
    rw [e] at h
    obtain⟨v,hv,rfl⟩:=qKd h
    refine⟨.none,?_,by simp⟩
    simp only [qQb,et,e]
    exact (qOh hv).r
  ·cases h
 ·split at h
  ·rename_i kt vt sk a b c d et
   cases h
   refine⟨.smap nx sk,?_,fun _=>⟨_,rfl⟩⟩
   simp only [qQb]
   exact⟨_,rfl,trivial,rfl,rfl,rfl⟩
  ·cases h
 ·split at h
  ·split at h
   ·rename_i kt vt sk a b c d et
    obtain⟨h1,h2,_⟩:=qA8 h
    refine⟨.none,?_,by rw [h2];simp⟩
    simp only [qQb,et]
    exact h1
   ·cases h
  ·cases h
 ·split at h
  ·split at h
   ·rename_i kt vt sk a b c d et
    obtain⟨h1,h2,_⟩:=qA8 h
    refine⟨.none,?_,by rw [h2];simp⟩
    simp only [qQb,et]
    exact h1
   ·cases h
  ·cases h
 ·split at h
  ·rename_i kt vt sk a b c d et
   split at h
   ·rename_i tv ev
    split at h
    ·rename_i z ez
     obtain⟨v,hv,rfl⟩:=qKd h
     refine⟨.none,?_,by simp⟩
     simp only [qQb,et,ev,ez]
     exact (qRi hv).r
    ·cases h
   ·cases h
  ·cases h
 ·split at h
  ·rename_i e a b c d et
   split at h
   ·rename_i te ee
    obtain⟨v,hv,rfl⟩:=qKd h
    refine⟨.none,?_,by simp⟩
    simp only [qQb,et,ee]
    exact (qRc hv).r
   ·cases h
  ·rename_i a b c d et
   obtain⟨v,hv,rfl⟩:=qKd h
   refine⟨.none,?_,by simp⟩
   simp only [qQb,et]
   exact (qOg hv).r
  ·cases h
 ·split at h
  ·rename_i t x et ex
   split at h
   ·rename_i e a b c d ett
    obtain⟨v,hv,rfl⟩:=qKd h
    refine⟨.none,?_,by simp⟩
    simp only [qQb,et,ex,ett]
    exact (zW7 hv).r
   ·rename_i a b c d ett
    obtain⟨v,hv,rfl⟩:=qKd h
    refine⟨.none,?_,by simp⟩
    simp only [qQb,et,ex,ett]
    exact (qU0 hv).r
   ·cases h
  ·cases h
 ·split at h
  ·rename_i t t' x y et ex
   have h1:=(qQe h).1
   replace h:=(qQe h).2
   have ht:=Nat.eq_of_beq_eq_true h1
   subst ht
   split at h
   ·rename_i e a b c d ett
    split at h
    ·rename_i te ee
     obtain⟨note,hr,hn⟩:=qOe (xo:=x) h
     refine⟨note,?_,hn⟩
     simp only [qQb,et,ex,ett,ee,if_true]
     exact hr
    ·cases h
   ·cases h
  ·cases h
 ·split at h
  ·rename_i x y ex
   split at h
   ·rename_i a b ea eb
    refine⟨.none,?_,qX7 h⟩
    simp only [qQb,ex,ea,eb]
    have:(if b > a then b else a)=bif ltI a b then b else a:=by
     rw [qQr]
     by_cases hh:a<b
     ·rw [if_pos (show b > a from hh),decide_eq_true hh];rfl
     ·rw [if_neg (show ¬ b > a from hh),decide_eq_false hh];rfl
    rw [this]
    exact qCe h
   ·cases h
  ·cases h
 ·cases h
structure IS where
 sl:Tr V
 ob:Tr Ob
 nx:Nat
 dt:List Nat
inductive AE where
 | normal
 | exit (i:Nat)
 | ret
structure Res where
 x:V
 ch:List (Nat × Ob)
 nw:List (Nat × Ob)
 nx:Nat
structure Tc where
 wn:List Nat
 rd:List Nat
structure qVq where
 T:Nat→Option TI
 gl:Nat→Option (List PV)
 F:Nat→Option Func
 intr:Nat→List V→Option V
def IS.val (gl:Nat→Option (List PV)) (s:IS):Operand→V
 | .tmp t=>match s.sl.get t with
  | some v=>v
  | none => .undef
 | .const v=>cst v
 | .func f => .fn f []
 | .global g=>match gl g with
  | some cs => .pv (.ptr cs)
  | none => .undef
def qIi (t:Tr V) (dst:Option Nat) (x:V):Tr V:=match dst with
 | none=>t
 | some d=>t.put d (some x)
def zJw (bs n:Nat) (l:List Nat):List Nat:=bif Nat.blt n bs then n::l else l
def IS.app (bs:Nat) (s:IS) (dst:Option Nat) (r:RB):IS:=match r.wr with
 | none=>⟨qIi s.sl dst r.x,s.ob,s.nx,s.dt⟩
 | some (n,o)=>bif r.new then ⟨qIi s.sl dst r.x,s.ob.put n (some o),Nat.succ s.nx,s.dt⟩ else ⟨qIi s.sl dst r.x,s.ob.put n (some o),s.nx,zJw bs n s.dt⟩
def zA1:V→List Nat
 | .arr n _ _=>[n]
 | _=>[]
def qA9:V→List Nat
 | .arr n _ _=>[n]
 | .agg cs=>cs.flatMap zA1
 | _=>[]
def qU2 (bs:Nat) (s:IS) (n:Nat):IS:=bif Nat.blt n bs then s else (match s.ob.get n with
 | some (.arr ver _ _ es)=>match unE es with
  | some ps=>⟨s.sl.map (qB8 n ver ps),(s.ob.put n none).map (qJo n ver ps),s.nx,s.dt⟩
  | none=>s
 | _=>s)
def qRo (bs:Nat):List Nat→IS→IS
 | [],s=>s
 | n::r,s=>qRo bs r (qU2 bs s n)
def qOi (bs:Nat):List Nat→IS→IS
 | [],s=>s
 | t::r,s=>qOi bs r (match s.sl.get t with
  | some v=>qRo bs (qA9 v) s
  | none=>s)
def qD7:List Operand→List Nat
 | []=>[]
 | .tmp t::r=>t::qD7 r
 | _::r=>qD7 r
def zA2:Op→List Nat
 | .call { callee:=.value _,args,.. } => qD7 args.toList
 | .call { callee:=.builtin .append,args,.. } => qD7 (args.toList.drop 1)
 | .buildSlice _ _ ps=>qD7 (ps.toList.map (·.2))
 | .makeInterface _ x=>qD7 [x]
 | _=>[]
def qRp:List Oper→List Nat
 | []=>[]
 | o::r=>zA2 o.op++qRp r
def reach (nx:Nat) (ob:Tr Ob):Nat→List Nat→Tr Ob→List Nat→Option (Tr Ob × List Nat)
 | 0,_,_,_=>none
 | _+1,[],sub,l=>some (sub,l)
 | f+1,n::r,sub,l=>bif Nat.blt n nx then (match sub.get n with
  | some _=>reach nx ob f r sub l
  | none=>match ob.get n with
   | none=>reach nx ob f r sub l
   | some o=>reach nx ob f (o.names++r) (sub.put n (some o)) (n::l)) else none
def qAd (bs nx:Nat) (sub ob:Tr Ob):Nat→List Nat→Tr Ob→List (Nat × Ob)→Option (List (Nat × Ob))
 | 0,_,_,_=>none
 | _+1,[],_,l=>some l
 | f+1,n::r,seen,l=>bif Nat.blt n bs then (match sub.get n with
   | some _=>qAd bs nx sub ob f r seen l
   | none=>none) else match seen.get n with
  | some _=>qAd bs nx sub ob f r seen l
  | none=>match ob.get n with
   | none=>none
   | some o=>bif Nat.blt n nx then qAd bs nx sub ob f (o.names++r) (seen.put n (some o)) ((n,o)::l) else none
def zKg:List Nat→Tr Ob→List Nat
 | [],_=>[]
 | n::r,seen=>match seen.get n with
  | some _=>zKg r seen
  | none=>n::zKg r (seen.put n (some (.box [])))
def zD7 (ob:Tr Ob):List Nat→Option (List (Nat × Ob))
 | []=>some []
 | n::r=>match ob.get n with
  | some o=>match zD7 ob r with
   | some l=>some ((n,o)::l)
   | none=>none
  | none=>none
def qCf:List (Nat × Ob)→List Nat
 | []=>[]
 | (_,o)::r=>o.names++qCf r
def qCg (T:Nat→Option TI) (s:IS):ResultVar→Option V
 | .tmp t=>some (match s.sl.get t with|some v=>v|none => .undef)
 | .cell a t=>match T t,s.sl.get a with
  | some ti,some (.loc n off)=>match s.ob.get n with
   | some (.box cs)=>rdV ti.isAgg ti.size (cs.drop off)
   | _=>none
  | _,_=>none
def qU3 (T:Nat→Option TI) (s:IS):List ResultVar→Option (List V)
 | []=>some []
 | r::rs=>match qCg T s r,qU3 T s rs with
  | some x,some xs=>some (x::xs)
  | _,_=>none
def qU4 (bs:Nat):List Nat→List Nat
 | []=>[]
 | n::r=>bif Nat.blt n bs then qU4 bs r else n::qU4 bs r
def qAe (T:Nat→Option TI) (bs:Nat):List ResultVar→IS→IS
 | [],s=>s
 | r::rs,s=>qAe T bs rs (match qCg T s r with
  | some v=>qRo bs (qU4 bs (qA9 v)) s
  | none=>s)
def zJx (T:Nat→Option TI) (bs:Nat) (sub:Tr Ob) (rs:List ResultVar) (s:IS):Option Res:=match qU3 T s rs with
 | some xs=>match zD7 s.ob (zKg s.dt .nil) with
  | some ch=>match qAd bs s.nx sub s.ob 1000000 ((qP1 xs).names++qCf ch) .nil [] with
   | some nw=>some ⟨qP1 xs,ch,nw,s.nx⟩
   | none=>none
  | none=>none
 | none=>none
def zY4 (T:Nat→Option TI) (bs:Nat) (sub:Tr Ob) (rs:List ResultVar):AE→IS→Option Res
 | .exit _,_=>none
 | _,s=>zJx T bs sub rs (qAe T bs rs s)
def qHd (bs:Nat):List (Nat × Ob)→List Nat→List Nat
 | [],l=>l
 | (n,_)::r,l=>qHd bs r (zJw bs n l)
def qX8:List (Nat × Ob)→Tr Ob→Tr Ob
 | [],t=>t
 | (n,o)::r,t=>qX8 r (t.put n (some o))
def qJe:Nat→List V→Tr V→Tr V
 | _,[],t=>t
 | k,x::xs,t=>qJe (Nat.succ k) xs (t.put k (some x))
abbrev Run:=Nat→Nat→Code→IS→(AE→IS→Option Res)→Option Res
abbrev Call:=Nat→List V→IS→Option (Res × List Nat)
def qD8 (ev:qVq) (run:Run) (fn:Func) (c:Code) (args:List V) (nx:Nat) (sub:Tr Ob):Option Res :=
 run fn.ntmps nx c ⟨qJe 0 args .nil,sub,nx,[]⟩ (zY4 ev.T nx sub fn.results.toList)
def qFe (bs:Nat) (s:IS) (dst:Option Nat) (r:Res):IS:=⟨qIi s.sl dst r.x,qX8 r.nw (qX8 r.ch s.ob),r.nx,qHd bs r.ch s.dt⟩
def qOj:V:=.pv (.tuple [])
def zFe (nt:Nat):Option Nat→Bool
 | some d=>Nat.blt d nt
 | none=>true
def callR (bs:Nat) (s:IS) (dst:Option Nat):Option (Res × List Nat)→Option (IS × Tc)
 | some (r,ks)=>some (qFe bs s dst r,⟨r.ch.map (·.1)++r.nw.map (·.1),ks⟩)
 | none=>none
def doI (ev:qVq) (call:Call) (bs:Nat) (o:Oper) (s:IS):Option (IS × Tc):=match qZ8 (s.val ev.gl) o.op with
 | some (f,args)=>callR bs s o.dst (call f args s)
 | none=>match opE ev.T s.nx (s.val ev.gl) s.ob.get o.dst o.op with
  | some r=>some (s.app bs o.dst r,⟨match r.wr with|some (n,_)=>[n]|none=>[],rdN (s.val ev.gl) o.op⟩)
  | none=>none
def gvI (all:List Oper) (s:IS) (j:Nat):V:=match all[j]? with
 | some o=>match o.dst with
  | some d=>match s.sl.get d with
   | some v=>v
   | none => .undef
  | none => .undef
 | none => .undef
def qLg (ops:Array Oper) (o1 o2:Oper):Bool :=
 (match o1.dst with|some d=>(o2.looksAt ops).contains d || o2.dst == some d|none=>false) ||
 (match o2.dst with|some d=>(o1.looksAt ops).contains d|none=>false)
def zKh (ops:List Oper):Bool :=
 (List.range ops.length).all fun j=>match ops[j]? with
  | some oj=>(qG1 oj).all (fun i=>decide (i<j)) && (List.range j).all fun i=>match ops[i]? with
   | some oi => !qLg ops.toArray oi oj || ((qXj ops []).getD j 0).testBit i
   | none=>false
  | none=>false
def qHe (a b:Tc):Bool:=a.wn.all (fun n => !qC6 b.rd n && !qC6 b.wn n) && b.wn.all (fun n => !qC6 a.rd n)
def qOk:List Tc→Bool
 | []=>true
 | t::r=>match t.wn with
  | []=>qOk r
  | _::_=>false
def qU5 (ops:List Oper) (tr:List Tc):Bool :=
 (List.range ops.length).all fun j=>match tr[j]? with
  | some b=>(List.range j).all fun i=>match tr[i]? with
   | some a=>qHe a b || ((qXj ops []).getD j 0).testBit i
   | none=>false
  | none=>false
def zA3 (bs:Nat) (l:List Nat) (s:IS):IS:=bif Nat.beq s.nx bs then s else qOi bs l s
theorem qLh:∀ {cs:List V} {ps:List PV},unL cs=some ps→cs=pvL ps
 | [],ps,h=>by cases h;rfl
 | c::cs,ps,h=>by
  unfold unL at h
  split at h
  ·rename_i p ps' hp hps
   cases h
   have:=qLh hps
   subst this
   cases c<;>simp only [V.un] at hp<;>cases hp
   rfl
  ·cases h
theorem qRq:∀ {es:List (List V)} {ps:List (List PV)},unE es=some ps→es=pvE ps
 | [],ps,h=>by cases h;rfl
 | e::es,ps,h=>by
  unfold unE at h
  split at h
  ·rename_i p ps' hp hps
   cases h
   have h1:=qRq hps
   have h2:=qLh hp
   subst h1 h2
   rfl
  ·cases h
structure Rel (s:IS) (σ:St):Prop where
 sl:∀ t,qZy σ.slots t=(match s.sl.get t with|some v=>v|none => .undef)
 ob:∀ n,qQc σ.objs n=s.ob.get n
 us:∀ n∈σ.used,n<s.nx
structure Inv (bs:Nat) (sub:Tr Ob) (s:IS):Prop where
 le:bs≤s.nx
 same:∀ n,n<bs→n ∉ s.dt→s.ob.get n=sub.get n
 old:∀ n,n<bs→(s.ob.get n).isSome=true→(sub.get n).isSome=true
 names:∀ n o,sub.get n=some o→n<bs ∧ ∀ k∈o.names,k<bs
 dts:∀ n∈s.dt,n<bs
theorem Rel.val {s:IS} {σ:St} (h:Rel s σ) (gl:Nat→Option (List PV)):σ.val gl=s.val gl:=by
 funext x
 cases x with
 | tmp t=>exact h.sl t
 | const v=>rfl
 | func f=>rfl
 | global g=>rfl
theorem Rel.obf {s:IS} {σ:St} (h:Rel s σ):qQc σ.objs=s.ob.get:=funext h.ob
def Wk (σ σ':St):Prop:=∀ C E a w,Ga C E σ a w→∃ E',Ga C E' σ' a w
theorem Wk.refl (σ:St):Wk σ σ:=fun _ E _ _ h=>⟨E,h⟩
theorem Wk.trans {a b c:St} (h:Wk a b) (h':Wk b c):Wk a c:=fun C E x w hG=>by
 obtain⟨E',h1⟩:=h C E x w hG
 exact h' C E' x w h1
theorem AWP.wk {X:qZ9} {c:Code} {σ σ':St} {Q:AEx→St→Prop} (hw:Wk σ σ') (h:AWP X c σ' Q):AWP X c σ Q:=by
 intro C E a w hC hG
 obtain⟨E',h'⟩:=hw C E a w hG
 exact h C E' a w hC h'
theorem AWP.post {X:qZ9} {c:Code} {σ:St} {Q Q':AEx→St→Prop} (h:AWP X c σ Q) (hq:∀ ae σ',Q ae σ'→(∃ σ'',Wk σ' σ''∧Q' ae σ'') ∧ ∀ p,ae ≠ .panic p):AWP X c σ Q':=by
 intro C E a w hC hG
 refine wp_mono (h C E a w hC hG) ?_
 rintro e a' w' ⟨E',σ',ae,hG',hr,hqq⟩
 obtain⟨⟨σ'',hw,hq'⟩,hp⟩:=hq ae σ' hqq
 obtain⟨E'',hG''⟩:=hw C E' a' w' hG'
 refine⟨E'',σ'',ae,hG'',?_,hq'⟩
 cases ae with
 | panic p=>exact absurd rfl (hp p)
 | _=>exact hr
theorem zKi {n ver:Nat} {ps:List (List PV)} : ∀ {x:V},n ∉ x.names→qGn n ver ps x=x:=by
 intro x h
 cases x<;>simp only [qGn]
 rename_i m v l
 rw [if_neg]
 rintro⟨rfl,_⟩
 exact h (by simp [V.names])
theorem qRr {n ver:Nat} {ps:List (List PV)} : ∀ {cs:List V},n ∉ qQj cs→qC5 n ver ps cs=cs
 | [],_=>rfl
 | c::cs,h=>by
  simp only [qQj,List.mem_append,not_or] at h
  simp only [qC5]
  rw [zKi h.1,qRr h.2]
theorem qU6 {n ver:Nat} {ps:List (List PV)} {o:Ob} (h:n ∉ o.names):qJo n ver ps o=o:=by
 cases o with
 | box cs=>simp only [qJo];rw [qRr h]
 | _=>rfl
theorem qFf {bs:Nat} {sub:Tr Ob} {s:IS} (hI:Inv bs sub s) (n:Nat):Inv bs sub (qU2 bs s n):=by
 unfold qU2
 cases e:Nat.blt n bs with
 | true=>exact hI
 | false =>
  simp only [cond_false]
  rw [qJ8] at e
  have hn:¬ n<bs:=of_decide_eq_false e
  split
  ·rename_i ver sz ty es ho
   split
   ·rename_i ps hps
    have hget:∀ m,((s.ob.put n none).map (qJo n ver ps)).get m=if m=n then none else (s.ob.get m).map (qJo n ver ps):=by
     intro m
     rw [Tr.get_map,Tr.get_put]
     split<;>rfl
    refine⟨hI.le,?_,?_,hI.names,hI.dts⟩
    ·intro m hm hd
     show ((s.ob.put n none).map (qJo n ver ps)).get m=_
     rw [hget m,if_neg (by omega),hI.same m hm hd]
     cases q:sub.get m with
     | none=>rfl
     | some o =>
      simp only [Option.map_some]
      rw [qU6]
      intro hk
      exact hn ((hI.names m o q).2 n hk)
    ·intro m hm hs
     have hs:(((s.ob.put n none).map (qJo n ver ps)).get m).isSome=true:=hs
     rw [hget m,if_neg (by omega)] at hs
     exact hI.old m hm (by simpa using hs)
   ·exact hI
  ·exact hI
theorem qCh {bs:Nat} {sub:Tr Ob} : ∀ (l:List Nat) {s:IS},Inv bs sub s→Inv bs sub (qRo bs l s)
 | [],_,hI=>hI
 | n::r,_,hI=>qCh r (qFf hI n)
theorem qCi {bs:Nat} {sub:Tr Ob} : ∀ (l:List Nat) {s:IS},Inv bs sub s→Inv bs sub (qOi bs l s)
 | [],_,hI=>hI
 | t::r,s,hI=>by
  unfold qOi
  split
  ·exact qCi r (qCh _ hI)
  ·exact qCi r hI
theorem qV4 {T:Nat→Option TI} {bs:Nat} {sub:Tr Ob} : ∀ (l:List ResultVar) {s:IS},Inv bs sub s→Inv bs sub (qAe T bs l s)
 | [],_,hI=>hI
 | t::r,s,hI=>by
  unfold qAe
  split
  ·exact qV4 r (qCh _ hI)
  ·exact qV4 r hI
theorem qLi {bs:Nat} {s:IS} {σ:St} (hR:Rel s σ) (n:Nat):∃ σ',Wk σ σ'∧Rel (qU2 bs s n) σ':=by
 have hid:∃ σ',Wk σ σ'∧Rel s σ':=⟨σ,Wk.refl σ,hR⟩
 unfold qU2
 cases e:Nat.blt n bs with
 | true=>exact hid
 | false =>
  simp only [cond_false]
  split
  ·rename_i ver sz ty es ho
   split
   ·rename_i ps hps
    have hes:=qRq hps
    subst hes
    have ho':qQc σ.objs n=some (.arr ver sz ty (pvE ps)):=(hR.ob n).trans ho
    refine⟨σ.frz n ver ps,fun C E a w hG=>hG.frz ho',⟨?_,?_,hR.us⟩⟩
    ·intro t
     simp only [St.frz,qE5,hR.sl,Tr.get_map]
     cases s.sl.get t<;>rfl
    ·intro m
     simp only [St.frz,qKx,hR.ob,Tr.get_map,Tr.get_put]
     split<;>rfl
   ·exact hid
  ·exact hid
theorem qFg {bs:Nat} : ∀ (l:List Nat) {s:IS} {σ:St},Rel s σ→∃ σ',Wk σ σ'∧Rel (qRo bs l s) σ'
 | [],s,σ,hR=>⟨σ,Wk.refl σ,hR⟩
 | n::r,s,σ,hR=>by
  obtain⟨σ1,h1,h2⟩:=qLi (bs:=bs) hR n
  obtain⟨σ2,h4,h5⟩:=qFg r h2
  exact⟨σ2,h1.trans h4,h5⟩
theorem qFh {bs:Nat} : ∀ (l:List Nat) {s:IS} {σ:St},Rel s σ→∃ σ',Wk σ σ'∧Rel (qOi bs l s) σ'
 | [],s,σ,hR=>⟨σ,Wk.refl σ,hR⟩
 | t::r,s,σ,hR=>by
  unfold qOi
  split
  ·rename_i v hv
   obtain⟨σ1,h1,h2⟩:=qFg (bs:=bs) (qA9 v) hR
   obtain⟨σ2,h4,h5⟩:=qFh r h2
   exact⟨σ2,h1.trans h4,h5⟩
  ·exact qFh r hR
theorem qCj {T:Nat→Option TI} {bs:Nat} : ∀ (l:List ResultVar) {s:IS} {σ:St},Rel s σ→∃ σ',Wk σ σ'∧Rel (qAe T bs l s) σ'
 | [],s,σ,hR=>⟨σ,Wk.refl σ,hR⟩
 | t::r,s,σ,hR=>by
  unfold qAe
  split
  ·rename_i v hv
   obtain⟨σ1,h1,h2⟩:=qFg (bs:=bs) (qU4 bs (qA9 v)) hR
   obtain⟨σ2,h4,h5⟩:=qCj r h2
   exact⟨σ2,h1.trans h4,h5⟩
  ·exact qCj r hR
structure qLj (nx:Nat) (ob:Tr Ob) (todo:List Nat) (sub:Tr Ob) (l:List Nat):Prop where
 get:∀ n o,sub.get n=some o→ob.get n=some o∧n<nx∧n∈l ∧ ∀ k∈o.names,k<nx∨k∈todo
 mem:∀ n∈l,(sub.get n).isSome=true
theorem qBa {nx:Nat} {ob:Tr Ob} : ∀ (f:Nat) (todo:List Nat) (sub:Tr Ob) (l:List Nat) {sub':Tr Ob} {l':List Nat},reach nx ob f todo sub l=some (sub',l')→qLj nx ob todo sub l→qLj nx ob [] sub' l' ∧ ∀ k∈todo,k<nx
 | 0,_,_,_,_,_,h,_=>by cases h
 | f+1,[],sub,l,_,_,h,hr=>by cases h;exact⟨hr,by simp⟩
 | f+1,n::r,sub,l,sub',l',h,hr=>by
  unfold reach at h
  obtain⟨h1,h⟩:=qQe h
  have hn:=qVj h1
  have hdrop:qLj nx ob r sub l:=⟨fun m o hm=>⟨(hr.get m o hm).1,(hr.get m o hm).2.1,(hr.get m o hm).2.2.1,fun k hk=>by
   rcases (hr.get m o hm).2.2.2 k hk with h2|h2
   ·exact .inl h2
   ·rcases List.mem_cons.1 h2 with rfl|h2
    ·exact .inl hn
    ·exact .inr h2⟩,hr.mem⟩
  split at h
  ·obtain⟨h3,h4⟩:=qBa f r sub l h hdrop
   exact⟨h3,fun k hk=>by rcases List.mem_cons.1 hk with rfl|hk<;>first|exact hn|exact h4 k hk⟩
  ·split at h
   ·obtain⟨h3,h4⟩:=qBa f r sub l h hdrop
    exact⟨h3,fun k hk=>by rcases List.mem_cons.1 hk with rfl|hk<;>first|exact hn|exact h4 k hk⟩
   ·rename_i hs o ho
    obtain⟨h3,h4⟩:=qBa f (o.names++r) (sub.put n (some o)) (n::l) h (by
     refine⟨fun m q hm => ?_,fun m hm => ?_⟩
     ·rw [Tr.get_put] at hm
      split at hm
      ·rename_i e
       cases hm
       subst e
       exact⟨ho,hn,by simp,fun k hk => .inr (by simp [hk])⟩
      ·obtain⟨a,b,c,d⟩:=hdrop.get m q hm
       exact⟨a,b,by simp [c],fun k hk=>by rcases d k hk with h5|h5<;>first|exact .inl h5|exact .inr (by simp [h5])⟩
     ·rw [Tr.get_put]
      split
      ·rfl
      ·rename_i e
       rcases List.mem_cons.1 hm with h5|h5
       ·exact absurd h5 e
       ·exact hr.mem m h5)
    exact⟨h3,fun k hk=>by rcases List.mem_cons.1 hk with rfl|hk<;>first|exact hn|exact h4 k (by simp [hk])⟩
structure qFi (bs nx:Nat) (sub ob:Tr Ob) (todo:List Nat) (seen:Tr Ob) (l:List (Nat × Ob)):Prop where
 ent:∀ n o,(n,o)∈l→bs≤n∧n<nx∧ob.get n=some o ∧ ∀ k∈o.names,(sub.get k).isSome=true∨k∈qQa l∨k∈todo
 seen:∀ n,(seen.get n).isSome=true→n∈qQa l
theorem qCk {bs nx:Nat} {sub ob:Tr Ob} : ∀ (f:Nat) (todo:List Nat) (seen:Tr Ob) (l:List (Nat × Ob)) {l':List (Nat × Ob)},qAd bs nx sub ob f todo seen l=some l'→qFi bs nx sub ob todo seen l →
  (∃ seen',qFi bs nx sub ob [] seen' l')∧(∀ k∈todo,(sub.get k).isSome=true∨k∈qQa l') ∧ ∀ k∈qQa l,k∈qQa l'
 | 0,_,_,_,_,h,_=>by cases h
 | f+1,[],seen,l,_,h,hr=>by cases h;exact⟨⟨seen,hr⟩,by simp,fun k hk=>hk⟩
 | f+1,n::r,seen,l,l',h,hr=>by
  unfold qAd at h
  have hskip:((sub.get n).isSome=true∨n∈qQa l)→qAd bs nx sub ob f r seen l=some l'→(∃ seen',qFi bs nx sub ob [] seen' l')∧(∀ k∈n::r,(sub.get k).isSome=true∨k∈qQa l') ∧ ∀ k∈qQa l,k∈qQa l':=by
   intro hn h
   obtain⟨h1,h2,h3⟩:=qCk f r seen l h ⟨fun m o hm=>⟨(hr.ent m o hm).1,(hr.ent m o hm).2.1,(hr.ent m o hm).2.2.1,fun k hk=>by
    rcases (hr.ent m o hm).2.2.2 k hk with h4|h4|h4
    ·exact .inl h4
    ·exact .inr (.inl h4)
    ·rcases List.mem_cons.1 h4 with rfl|h4
     ·rcases hn with hn|hn
      ·exact .inl hn
      ·exact .inr (.inl hn)
     ·exact .inr (.inr h4)⟩,hr.seen⟩
   refine⟨h1,fun k hk => ?_,h3⟩
   rcases List.mem_cons.1 hk with rfl|hk
   ·rcases hn with hn|hn
    ·exact .inl hn
    ·exact .inr (h3 _ hn)
   ·exact h2 k hk
  cases e:Nat.blt n bs with
  | true =>
   rw [e] at h
   simp only [cond_true] at h
   split at h
   ·rename_i o ho
    exact hskip (.inl (by rw [ho];rfl)) h
   ·cases h
  | false =>
   rw [e] at h
   simp only [cond_false] at h
   rw [qJ8] at e
   have hnb:¬ n<bs:=of_decide_eq_false e
   split at h
   ·rename_i o ho
    exact hskip (.inr (hr.seen n (by rw [ho];rfl))) h
   ·split at h
    ·cases h
    ·rename_i hs o ho
     obtain⟨h1,h⟩:=qQe h
     have hn:=qVj h1
     obtain⟨h2,h3,h4⟩:=qCk f (o.names++r) (seen.put n (some o)) ((n,o)::l) h (by
      refine⟨fun m q hm => ?_,fun m hm => ?_⟩
      ·rcases List.mem_cons.1 hm with e1|e1
       ·cases e1
        exact⟨by omega,hn,ho,fun k hk => .inr (.inr (by simp [hk]))⟩
       ·obtain⟨a,b,c,d⟩:=hr.ent m q e1
        refine⟨a,b,c,fun k hk => ?_⟩
        rcases d k hk with h5|h5|h5
        ·exact .inl h5
        ·exact .inr (.inl (by simp only [qQa,List.map_cons,List.mem_cons];exact .inr h5))
        ·rcases List.mem_cons.1 h5 with rfl|h5
         ·exact .inr (.inl (by simp [qQa]))
         ·exact .inr (.inr (by simp [h5]))
      ·rw [Tr.get_put] at hm
       simp only [qQa,List.map_cons,List.mem_cons]
       by_cases e1:m=n
       ·exact .inl e1
       ·rw [if_neg e1] at hm
        exact .inr (hr.seen m hm))
     refine⟨h2,fun k hk => ?_,fun k hk=>h4 k (by simp only [qQa,List.map_cons,List.mem_cons];exact .inr hk)⟩
     rcases List.mem_cons.1 hk with rfl|hk
     ·exact .inr (h4 _ (by simp [qQa]))
     ·exact h3 k (by simp [hk])
theorem qCl:∀ {l u:List Nat},(∀ n∈l,n∈u)→zJr l u
 | [],_,_=>trivial
 | n::r,u,h=>⟨h n (by simp),qCl fun m hm=>h m (by simp [hm])⟩
theorem qFj:∀ {l u:List (Nat × Ob)},(∀ p∈l,qQc u p.1=some p.2)→qDg l u
 | [],_,_=>trivial
 | (n,o)::r,u,h=>⟨h (n,o) (by simp),qFj fun m hm=>h m (by simp [hm])⟩
theorem mem_mentO {l:List (Nat × Ob)} {n:Nat} : n∈qJ4 l ↔ ∃ p∈l,n∈p.2.names:=by
 induction l with
 | nil=>simp [qJ4]
 | cons p r ih=>obtain⟨k,o⟩:=p;simp [qJ4,ih]
theorem mem_namesOb {l:List (Nat × Ob)} {n:Nat} : n∈qZz l↔n∈qQa l∨n∈qJ4 l:=by
 induction l with
 | nil=>simp [qZz,qQa,qJ4]
 | cons p r ih =>
  obtain⟨k,o⟩:=p
  have hk:qQa ((k,o)::r)=k::qQa r:=rfl
  simp only [qZz,qJ4,List.mem_cons,List.mem_append,ih,hk]
  grind
theorem qQ3 (a b:List (Nat × Ob)):qQa (a++b)=qQa a++qQa b:=by simp [qQa]
theorem keysO_mem {l:List (Nat × Ob)} {n:Nat} : n∈qQa l ↔ ∃ o,(n,o)∈l:=by
 simp only [qQa,List.mem_map]
 constructor
 ·rintro⟨⟨k,o⟩,h,rfl⟩;exact⟨o,h⟩
 ·rintro⟨o,h⟩;exact⟨(n,o),h,rfl⟩
theorem qVk {l:List (Nat × Ob)} {n:Nat} {o:Ob} (h:qQc l n=some o):(n,o)∈l:=by
 induction l with
 | nil=>cases h
 | cons p r ih =>
  obtain⟨k,x⟩:=p
  simp only [qQc] at h
  split at h
  ·rename_i e;cases h;subst e;simp
  ·exact List.mem_cons_of_mem _ (ih h)
theorem qHf {l:List (Nat × Ob)} {n:Nat} (h:n ∉ qQa l):qQc l n=none:=by
 cases e:qQc l n with
 | none=>rfl
 | some o=>exact absurd (qQi e) h
theorem qMo {l:List (Nat × Ob)} {G:Nat→Option Ob} (h:∀ n o,(n,o)∈l→G n=some o) (n:Nat):(n∈qQa l→qQc l n=G n):=by
 intro hn
 obtain⟨o,ho⟩:=qQ6 hn
 rw [ho,h n o (qVk ho)]
def pick (sub:Tr Ob) (l:List Nat):List (Nat × Ob):=l.filterMap fun n=>(sub.get n).map fun o=>(n,o)
theorem mem_pick {sub:Tr Ob} {l:List Nat} {n:Nat} {o:Ob} : (n,o)∈pick sub l↔n∈l∧sub.get n=some o:=by
 simp only [pick,List.mem_filterMap,Option.map_eq_some_iff,Prod.mk.injEq]
 constructor
 ·rintro⟨m,hm,q,hq,rfl,rfl⟩;exact⟨hm,hq⟩
 ·rintro⟨h1,h2⟩;exact⟨n,h1,o,h2,rfl,rfl⟩
theorem qFk:∀ (l:List Nat) (seen:Tr Ob) (n:Nat),n∈l→(seen.get n).isSome=true∨n∈zKg l seen
 | [],_,_,h=>by cases h
 | m::r,seen,n,h=>by
  unfold zKg
  rcases List.mem_cons.1 h with rfl|h
  ·cases e:seen.get n with
   | some o=>exact .inl rfl
   | none=>exact .inr (by simp)
  ·cases e:seen.get m with
   | some o=>exact qFk r seen n h
   | none =>
    simp only
    rcases qFk r (seen.put m (some (.box []))) n h with h1|h1
    ·rw [Tr.get_put] at h1
     by_cases e1:n=m
     ·exact .inr (by simp [e1])
     ·rw [if_neg e1] at h1;exact .inl h1
    ·exact .inr (by simp [h1])
theorem qFl:∀ (l:List Nat) (seen:Tr Ob) (n:Nat),n∈zKg l seen→n∈l
 | [],_,_,h=>by cases h
 | m::r,seen,n,h=>by
  unfold zKg at h
  split at h
  ·exact List.mem_cons_of_mem _ (qFl r seen n h)
  ·rcases List.mem_cons.1 h with rfl|h
   ·simp
   ·exact List.mem_cons_of_mem _ (qFl r _ n h)
theorem qRs {ob:Tr Ob} : ∀ {l:List Nat} {ch:List (Nat × Ob)},zD7 ob l=some ch→qQa ch=l ∧ ∀ n o,(n,o)∈ch→ob.get n=some o
 | [],ch,h=>by cases h;exact⟨rfl,by simp⟩
 | m::r,ch,h=>by
  unfold zD7 at h
  split at h
  ·rename_i o ho
   split at h
   ·rename_i l hl
    cases h
    obtain⟨h1,h2⟩:=qRs hl
    refine⟨by simp [qQa] at h1 ⊢;exact h1,fun n q hm => ?_⟩
    rcases List.mem_cons.1 hm with e|hm
    ·cases e;exact ho
    ·exact h2 n q hm
   ·cases h
  ·cases h
theorem mem_chNames {l:List (Nat × Ob)} {n:Nat} : n∈qCf l↔n∈qJ4 l:=by
 induction l with
 | nil=>simp [qCf,qJ4]
 | cons p r ih=>obtain⟨k,o⟩:=p;simp [qCf,qJ4,ih]
def AE.x:AE→AEx
 | .normal => .normal
 | .exit i => .exit i
 | .ret => .ret
def KQ (k:AE→IS→Option Res) (r:Res) (bs:Nat) (sub:Tr Ob):AEx→St→Prop:=fun ae σ' => ∃ e s',ae=AE.x e∧Rel s' σ'∧Inv bs sub s'∧k e s'=some r
structure Good (ev:qVq) (P:Program) (run:Run):Prop where
 syn:∀ (nt bs:Nat) (c:Code) (s:IS) (k:AE→IS→Option Res) (r:Res),run nt bs c s k=some r→∀ (sub:Tr Ob),Inv bs sub s→∃ e s',Inv bs sub s'∧k e s'=some r
 awp:∀ (nt bs:Nat) (c:Code) (s:IS) (k:AE→IS→Option Res) (r:Res),run nt bs c s k=some r →
  ∀ (X:qZ9),X.P=P→X.T=ev.T→X.gl=ev.gl→X.nt=nt→(∀ n∈X.given,n<bs)→∀ (sub:Tr Ob) (σ:St),Rel s σ→Inv bs sub s→AWP X c σ (KQ k r bs sub)
structure zJy (ev:qVq) (P:Program):Prop where
 T:TOK P ev.T
 F : ∀ f fn, ev.F f = some fn → P.funcs[f]? = some fn ∧ (fn.name == "runtime.NumGoroutine") = false
 intr:∀ f args x,ev.intr f args=some x→AC P ev.gl f args [] (.ret x) []
 mix:P.follows .mixedOrders=true
theorem qOl {X:qZ9} {T:Nat→Option TI} (hT:X.T=T) {s:IS} {σ:St} (hR:Rel s σ) (v:ResultVar):qCg T s v=qAc X σ v:=by
 cases v with
 | tmp t=>simp only [qCg,qAc,hR.sl];all_goals (cases s.sl.get t<;>rfl)
 | cell a t =>
  simp only [qCg,qAc,hR.sl,hT]
  cases s.sl.get a with
  | none=>cases T t<;>rfl
  | some v =>
   cases T t with
   | none=>rfl
   | some ti =>
    cases v<;>try rfl
    simp only [hR.ob]
    rfl
theorem qMp {X:qZ9} {T:Nat→Option TI} (hT:X.T=T) {s:IS} {σ:St} (hR:Rel s σ):∀ (l:List ResultVar),qU3 T s l=qUr X σ l
 | []=>rfl
 | r::rs=>by
  simp only [qU3,qUr]
  rw [qOl hT hR,qMp hT hR rs]
  cases qAc X σ r<;>cases qUr X σ rs<;>rfl
theorem qCm:∀ (xs:List V) (k:Nat) (t:Tr V) (i:Nat),(qJe k xs t).get i=if k≤i∧i<k+xs.length then xs[i-k]? else t.get i
 | [],k,t,i=>by
  have:¬ (k≤i∧i<k+0):=by omega
  simp [qJe];omega
 | x::xs,k,t,i=>by
  simp only [qJe]
  rw [qCm xs (k+1)]
  rw [Tr.get_put]
  simp only [List.length_cons]
  by_cases h:k+1≤i∧i<k+1+xs.length
  ·rw [if_pos h,if_pos (by omega)]
   have:i-k=(i-(k+1))+1:=by omega
   rw [this]
   rfl
  ·rw [if_neg h]
   by_cases e:i=k
   ·subst e
    rw [if_pos rfl,if_pos (by omega)]
    simp
   ·rw [if_neg e,if_neg (by omega)]
structure Called (P:Program) (gl:Nat→Option (List PV)) (s:IS) (f:Nat) (args:List V) (r:Res) (ks:List Nat) (ro o1:List (Nat × Ob)):Prop where
 ac:AC P gl f args (ro++o1) (.ret r.x) (ro++(r.ch++r.nw))
 apart:∀ n∈qQa ro,n ∉ qQa o1∧n ∉ qQa (r.ch++r.nw)
 subs:∀ p∈ro++o1,s.ob.get p.1=some p.2
 kss:∀ n∈qQa ro++qQa o1,n∈ks
 inch:∀ n∈qQa o1,n∈qQa r.ch
 gfn:∃ G:Nat→Option Ob,∀ n o,(n,o)∈r.ch++r.nw→G n=some o
 chs:∀ n∈qQa r.ch,n<s.nx∧(s.ob.get n).isSome=true∧n∈qQa o1
 nws:∀ n∈qQa r.nw,s.nx≤n∧n<r.nx
 le:s.nx≤r.nx
 all:∀ n∈ks,n∈qQa (ro++o1)
theorem qBb {ev:qVq} {P:Program} {run:Run} (hg:Good ev P run) (he:zJy ev P) {f:Nat} {fn:Func} {c:Code} (hf:ev.F f=some fn) (hb:fn.body=some c) {args:List V} (hal:args.length≤fn.ntmps) {s:IS} {sub:Tr Ob} {ks:List Nat}
  (hrc:reach s.nx s.ob 1000000 (qQj args) .nil []=some (sub,ks)) {r:Res} (hr:qD8 ev run fn c args s.nx sub=some r):∃ ro o1,Called P ev.gl s f args r ks ro o1:=by
 obtain⟨hrd,hargs⟩:=qBa _ _ _ _ hrc ⟨fun n o h=>(by cases h),(by simp)⟩
 obtain⟨hPf,hname⟩:=he.F f fn hf
 -- the objects that are given
 have hroD:∀ n,n∈qQa (pick sub (ks.filter fun n => !qC6 (qQa r.ch) n))↔(sub.get n).isSome=true∧n ∉ qQa r.ch:=by
  intro n
  rw [keysO_mem]
  constructor
  ·rintro⟨o,h⟩
   obtain⟨h1,h2⟩:=mem_pick.1 h
   refine⟨by rw [h2];rfl,fun hc => ?_⟩
   rw [List.mem_filter,(qZw _ _).2 hc] at h1
   simp at h1
  ·rintro⟨h1,h2⟩
   obtain⟨o,ho⟩:=Option.isSome_iff_exists.1 h1
   refine⟨o,mem_pick.2 ⟨List.mem_filter.2 ⟨(hrd.get n o ho).2.2.1,?_⟩,ho⟩⟩
   cases e:qC6 (qQa r.ch) n with
   | false=>rfl
   | true=>exact absurd ((qZw _ _).1 e) h2
 have ho1D:∀ n,n∈qQa (pick sub (ks.filter fun n=>qC6 (qQa r.ch) n))↔(sub.get n).isSome=true∧n∈qQa r.ch:=by
  intro n
  rw [keysO_mem]
  constructor
  ·rintro⟨o,h⟩
   obtain⟨h1,h2⟩:=mem_pick.1 h
   exact⟨by rw [h2];rfl,(qZw _ _).1 (List.mem_filter.1 h1).2⟩
  ·rintro⟨h1,h2⟩
   obtain⟨o,ho⟩:=Option.isSome_iff_exists.1 h1
   exact⟨o,mem_pick.2 ⟨List.mem_filter.2 ⟨(hrd.get n o ho).2.2.1,(qZw _ _).2 h2⟩,ho⟩⟩
 generalize hro:pick sub (ks.filter fun n => !qC6 (qQa r.ch) n)=ro at hroD
 generalize ho1:pick sub (ks.filter fun n=>qC6 (qQa r.ch) n)=o1 at ho1D
 have hent:∀ n o,(n,o)∈ro++o1→sub.get n=some o:=by
  intro n o h
  rcases List.mem_append.1 h with h|h
  ·rw [← hro] at h;exact (mem_pick.1 h).2
  ·rw [← ho1] at h;exact (mem_pick.1 h).2
 have hkey:∀ n,n∈qQa (ro++o1)↔(sub.get n).isSome=true:=by
  intro n
  rw [qQ3,List.mem_append,hroD,ho1D]
  by_cases h:n∈qQa r.ch<;>simp [h]
 have hget:∀ n,qQc (ro++o1) n=sub.get n:=by
  intro n
  by_cases h:n∈qQa (ro++o1)
  ·exact qMo hent n h
  ·rw [qHf h]
   rw [hkey] at h
   cases e:sub.get n with
   | none=>rfl
   | some o=>rw [e] at h;exact absurd rfl h
 generalize hms:((qQj args++qJ4 (ro++o1)).filter fun n => !qC6 (qQa (ro++o1)) n)=ms
 have hmsD:∀ n,n∈ms↔(n∈qQj args∨n∈qJ4 (ro++o1))∧n ∉ qQa (ro++o1):=by
  intro n
  rw [← hms,List.mem_filter,List.mem_append]
  cases e:qC6 (qQa (ro++o1)) n with
  | true=>have:=(qZw _ _).1 e;simp [this]
  | false =>
   have:n ∉ qQa (ro++o1):=fun h=>by rw [(qZw _ _).2 h] at e;cases e
   simp [this]
 have hsubN:∀ n o,sub.get n=some o→n<s.nx ∧ ∀ k∈o.names,k<s.nx:=by
  intro n o h
  obtain⟨_,h1,_,h2⟩:=hrd.get n o h
  exact⟨h1,fun k hk=>by rcases h2 k hk with h3|h3<;>first|exact h3|cases h3⟩
 have hmsL:∀ n∈ms,n<s.nx:=by
  intro n hn
  obtain⟨h1,_⟩:=(hmsD n).1 hn
  rcases h1 with h1|h1
  ·exact hargs n h1
  ·obtain⟨p,hp,hn'⟩:=mem_mentO.1 h1
   exact (hsubN p.1 p.2 (hent p.1 p.2 hp)).2 n hn'
 let X:qZ9:=⟨P,ev.T,ev.gl,[],fn.ntmps,qQa (ro++o1)++ms,he.T,he.mix⟩
 have hR0:Rel ⟨qJe 0 args .nil,sub,s.nx,[]⟩ ⟨qJ6 0 args,ro++o1,qQa (ro++o1)++ms⟩:=by
  refine⟨fun t => ?_,hget,fun n hn => ?_⟩
  ·simp only
   rw [qXk,qCm]
   simp only [Nat.zero_le,if_true,Nat.sub_zero,true_and,Nat.zero_add,Tr.get_nil]
   by_cases h:t<args.length
   ·rw [if_pos h]
    simp [List.getD,List.getElem?_eq_getElem h]
   ·rw [if_neg h]
    simp [List.getD,List.getElem?_eq_none (by omega:args.length≤t)]
  ·rcases List.mem_append.1 hn with hn|hn
   ·obtain⟨o,ho⟩:=Option.isSome_iff_exists.1 ((hkey n).1 hn)
    exact (hsubN n o ho).1
   ·exact hmsL n hn
 have hI0:Inv s.nx sub ⟨qJe 0 args .nil,sub,s.nx,[]⟩:=⟨Nat.le_refl _,fun _ _ _=>rfl,fun _ _ h=>h,hsubN,by simp⟩
 have hA:=hg.awp fn.ntmps s.nx c _ _ r hr X rfl rfl rfl rfl hR0.us sub _ hR0 hI0
 -- the end
 have hend:∀ ae σ',KQ (zY4 ev.T s.nx sub fn.results.toList) r s.nx sub ae σ'→(∃ σ'',Wk σ' σ''∧((ae = .normal∨ae = .ret)∧qOa X σ'' fn.results.toList (.ret r.x)∧(∃ s'',Rel s'' σ''∧Inv s.nx sub s''∧zJx ev.T s.nx sub fn.results.toList s''=some r))) ∧ ∀ p,ae ≠ .panic p:=by
  rintro ae σ' ⟨e,s',rfl,hR',hI',hk⟩
  have hfin:zJx ev.T s.nx sub fn.results.toList (qAe ev.T s.nx fn.results.toList s')=some r→∃ σ'',Wk σ' σ''∧(qOa X σ'' fn.results.toList (.ret r.x)∧(∃ s'',Rel s'' σ''∧Inv s.nx sub s''∧zJx ev.T s.nx sub fn.results.toList s''=some r)):=by
   intro hk
   obtain⟨σ'',h1,h2⟩:=qCj (T:=ev.T) (bs:=s.nx) fn.results.toList hR'
   have h3:=qV4 (T:=ev.T) fn.results.toList hI'
   refine⟨σ'',h1,?_,_,h2,h3,hk⟩
   unfold zJx at hk
   split at hk
   ·rename_i xs hxs
    rw [qMp (X:=X) rfl h2] at hxs
    split at hk
    ·split at hk
     ·cases hk
      simp only [qOa,zD3,hxs,Option.map_some]
     ·cases hk
    ·cases hk
   ·cases hk
  cases e with
  | exit i=>cases hk
  | normal =>
   obtain⟨σ'',h1,h2⟩:=hfin hk
   exact⟨⟨σ'',h1,.inl rfl,h2⟩,by simp [AE.x]⟩
  | ret =>
   obtain⟨σ'',h1,h2⟩:=hfin hk
   exact⟨⟨σ'',h1,.inr rfl,h2⟩,by simp [AE.x]⟩
 -- what the last state says of the result; it does not depend on the world
 have hlast:∀ s'',Inv s.nx sub s''→zJx ev.T s.nx sub fn.results.toList s''=some r →
   (∀ n∈qQa r.ch,n∈s''.dt)∧(∀ n∈s''.dt,n∈qQa r.ch)∧(∀ n o,(n,o)∈r.ch++r.nw→s''.ob.get n=some o)∧(∀ n∈qQa r.nw,s.nx≤n∧n<r.nx)∧s.nx≤r.nx ∧
   ∀ k,k∈r.x.names∨k∈qJ4 (r.ch++r.nw)→(sub.get k).isSome=true∨k∈qQa r.nw:=by
  intro s'' hI'' hk
  unfold zJx at hk
  split at hk
  ·rename_i xs hxs
   split at hk
   ·rename_i ch hch
    split at hk
    ·rename_i nw hnw
     cases hk
     obtain⟨hck,hce⟩:=qRs hch
     obtain⟨⟨seen',hN⟩,hT1,_⟩:=qCk _ _ _ _ hnw ⟨(by simp),(by intro n h;cases h)⟩
     refine⟨fun n hn => ?_,fun n hn => ?_,fun n o hm => ?_,fun n hn => ?_,hI''.le,fun k hk => ?_⟩
     ·rw [hck] at hn;exact qFl _ _ n hn
     ·rw [hck]
      rcases qFk s''.dt .nil n hn with h|h
      ·cases h
      ·exact h
     ·rcases List.mem_append.1 hm with hm|hm
      ·exact hce n o hm
      ·exact (hN.ent n o hm).2.2.1
     ·obtain⟨o,ho⟩:=keysO_mem.1 hn
      exact⟨(hN.ent n o ho).1,(hN.ent n o ho).2.1⟩
     ·rcases hk with hk|hk
      ·exact hT1 k (by simp [hk])
      ·obtain⟨p,hp,hkp⟩:=mem_mentO.1 hk
       rcases List.mem_append.1 hp with hp|hp
       ·exact hT1 k (by rw [List.mem_append];exact .inr (mem_chNames.2 (mem_mentO.2 ⟨p,hp,hkp⟩)))
       ·rcases (hN.ent p.1 p.2 hp).2.2.2 k hkp with h|h|h
        ·exact .inl h
        ·exact .inr h
        ·cases h
    ·cases hk
   ·cases hk
  ·cases hk
 obtain⟨e0,s0,hI1,hk1⟩:=hg.syn fn.ntmps s.nx c _ _ r hr sub hI0
 have hk2:zJx ev.T s.nx sub fn.results.toList (qAe ev.T s.nx fn.results.toList s0)=some r:=by
  cases e0 with
  | exit i=>cases hk1
  | normal=>exact hk1
  | ret=>exact hk1
 obtain⟨l1,l2,l3,l4,l5,l6⟩:=hlast _ (qV4 (T:=ev.T) fn.results.toList hI1) hk2
 have hI2:=qV4 (T:=ev.T) (bs:=s.nx) fn.results.toList hI1
 have hchsub:∀ n∈qQa r.ch,(sub.get n).isSome=true:=by
  intro n hn
  obtain⟨o,ho⟩:=keysO_mem.1 hn
  have h1:=l3 n o (by simp [ho])
  refine hI2.old n ?_ (by rw [h1];rfl)
  exact hI2.dts n (l1 n hn)
 have hro':∀ n∈qQa ro,n ∉ qQa o1∧n ∉ qQa (r.ch++r.nw):=by
  intro n hn
  obtain⟨h1,h2⟩:=(hroD n).1 hn
  refine⟨fun h=>h2 ((ho1D n).1 h).2,fun h => ?_⟩
  rw [qQ3,List.mem_append] at h
  rcases h with h|h
  ·exact h2 h
  ·obtain⟨o,ho⟩:=Option.isSome_iff_exists.1 h1
   have:=(hsubN n o ho).1
   have:=(l4 n h).1
   omega
 refine⟨ro,o1,⟨?_,hro',?_,?_,fun n hn=>((ho1D n).1 hn).2,⟨_,l3⟩,?_,l4,l5,fun n hn=>(hkey n).2 (hrd.mem n hn)⟩⟩
 ·refine AC.of_body (X:=X) he.T hPf hb hname rfl (ms:=ms) rfl hal (qCl fun n hn => ?_) (fun n hn=>((hmsD n).1 hn).2) (fun n hn h => ?_) (qCl fun n hn => ?_) (qCl fun n hn => ?_) ?_
  ·rw [qXi,List.mem_append];exact ((hmsD n).1 hn).1
  ·rw [qQ3,List.mem_append,qQ3,List.mem_append] at h
   have h0:=((hmsD n).1 hn).2
   rw [qQ3,List.mem_append] at h0
   rcases h with h|h|h
   ·exact h0 (.inl h)
   ·exact h0 (.inr ((ho1D n).2 ⟨hchsub n h,h⟩))
   ·have:=(l4 n h).1
    have:=hmsL n hn
    omega
  ·rw [List.mem_append] at hn ⊢
   by_cases hk:n∈qQa (ro++o1)
   ·exact .inl hk
   ·refine .inr ((hmsD n).2 ⟨?_,hk⟩)
    rcases hn with hn|hn
    ·exact .inl hn
    ·rcases mem_namesOb.1 hn with h|h
     ·exact absurd h hk
     ·exact .inr h
  ·rw [List.mem_append] at hn
   simp only [List.mem_append]
   have hme:n∈r.x.names∨n∈qJ4 (r.ch++r.nw)→(n∈qQa (ro++o1)∨n∈ms)∨n∈qQa (ro++(r.ch++r.nw)):=by
    intro h
    rcases l6 n h with h|h
    ·exact .inl (.inl ((hkey n).2 h))
    ·refine .inr ?_
     rw [qQ3,qQ3,List.mem_append,List.mem_append]
     exact .inr (.inr h)
   rcases hn with hn|hn
   ·exact hme (.inl hn)
   ·rcases mem_namesOb.1 hn with h|h
    ·exact .inr h
    ·obtain⟨p,hp,hkp⟩:=mem_mentO.1 h
     rcases List.mem_append.1 hp with hp|hp
     ·by_cases hk:n∈qQa (ro++o1)
      ·exact .inl (.inl hk)
      ·exact .inl (.inr ((hmsD n).2 ⟨.inr (mem_mentO.2 ⟨p,by simp [hp],hkp⟩),hk⟩))
     ·exact hme (.inr (mem_mentO.2 ⟨p,hp,hkp⟩))
  ·refine AWP.post hA fun ae σ' hq => ?_
   obtain⟨⟨σ'',h1,h2,h3,s'',h4,h5,h6⟩,h7⟩:=hend ae σ' hq
   refine⟨⟨σ'',h1,?_⟩,h7⟩
   obtain⟨m1,m2,m3,_⟩:=hlast s'' h5 h6
   have hsub:qDg (ro++(r.ch++r.nw)) σ''.objs:=by
    refine qFj fun p hp => ?_
    rw [h4.ob]
    rcases List.mem_append.1 hp with hp|hp
    ·have h8:=(hroD p.1).1 (keysO_mem.2 ⟨p.2,hp⟩)
     have h9:=hent p.1 p.2 (by simp [hp])
     rw [h5.same p.1 (hsubN p.1 p.2 h9).1 (fun hd=>h8.2 (m2 p.1 hd))]
     exact h9
    ·exact m3 p.1 p.2 hp
   rcases h2 with rfl|rfl
   ·exact⟨h3,hsub⟩
   ·exact⟨h3,hsub⟩
 ·intro p hp
  exact (hrd.get p.1 p.2 (hent p.1 p.2 hp)).1
 ·intro n hn
  rw [← qQ3] at hn
  obtain⟨o,ho⟩:=Option.isSome_iff_exists.1 ((hkey n).1 hn)
  exact (hrd.get n o ho).2.2.1
 ·intro n hn
  have h1:=hchsub n hn
  obtain⟨o,ho⟩:=Option.isSome_iff_exists.1 h1
  refine⟨(hsubN n o ho).1,?_,(ho1D n).2 ⟨h1,hn⟩⟩
  rw [(hrd.get n o ho).1]
  rfl
theorem zFf {o:Option V} {r:RB} (h:ro o=some r):r.wr=none:=by
 obtain⟨v,_,rfl⟩:=qKd h;rfl
theorem zFg {x:V} {r:RB} (h:rb x=some r):r.wr=none:=by cases h;rfl
theorem qRt {ti:TI} {ob:Nat→Option Ob} {x y:V} {r:RB} (h:qCc ti ob x y=some r) {n:Nat} {o:Ob} (hw:r.wr=some (n,o)):(ob n).isSome=true:=by
 unfold qCc at h
 split at h
 ·cases h
 ·replace h:=(qQe h).2
  replace h:=(qQe h).2
  split at h
  ·split at h
   ·rename_i eo
    split at h
    ·cases h
     cases hw
     rw [eo];rfl
    ·cases h
   ·cases h
  ·split at h
   ·rename_i eo
    replace h:=(qQe h).2
    replace h:=(qQe h).2
    split at h
    ·cases h
     cases hw
     rw [eo];rfl
    ·cases h
   ·cases h
  ·obtain⟨_,_,_,_,_,_,rfl⟩:=qMh h
   cases hw
  ·cases h
theorem qOm {e:Nat} {te:TI} {ob:Nat→Option Ob} {nx:Nat} {x y:V} {r:RB} (h:qXl e te ob nx x y=some r) {n:Nat} {o:Ob} (hw:r.wr=some (n,o)) (hn:r.new=false):(ob n).isSome=true:=by
 unfold qXl at h
 split at h
 ·split at h
  ·rename_i eo ey
   replace h:=(qQe h).2
   cases h
   cases hw
   rw [eo];rfl
  ·cases h
 ·split at h
  ·replace h:=(qQe h).2
   cases h
   cases hw
  ·cases h
 ·split at h
  ·replace h:=(qQe h).2
   cases h
   cases hn
  ·cases h
 ·cases h
theorem zKj {e:Nat} {te:TI} {nx len:Nat} {es:List (List V)} {r:RB} (h:zA0 e te nx len es=some r) {n:Nat} {o:Ob} (hw:r.wr=some (n,o)) (hn:r.new=false):False:=by
 unfold zA0 at h
 replace h:=(qQe h).2
 split at h
 ·cases h;cases hw
 ·cases h;cases hn
theorem zA4 {T:Nat→Option TI} {nx:Nat} {val:Operand→V} {ob:Nat→Option Ob} {dst:Option Nat} {op:Op} {r:RB} (h:opE T nx val ob dst op=some r) {n:Nat} {o:Ob} (hw:r.wr=some (n,o)) (hn:r.new=false):(ob n).isSome=true:=by
 have h1:∀ {x:V},rb x=some r→(ob n).isSome=true:=fun h=>by rw [zFg h] at hw;cases hw
 have h2:∀ {x:Option V},ro x=some r→(ob n).isSome=true:=fun h=>by rw [zFf h] at hw;cases hw
 unfold opE at h
 split at h
 ·exact h1 h
 ·exact h1 h
 ·split at h
  ·exact h1 h
  ·exact h1 h
  ·cases h
 ·unfold qRe at h
  split at h
  ·cases h;cases hn
  ·cases h
 ·unfold zFd at h
  split at h
  ·replace h:=(qQe h).2
   cases h;cases hn
  ·cases h
 ·exact h2 h
 ·split at h
  ·exact h1 h
  ·split at h
   ·exact h1 h
   ·cases h
 ·split at h
  ·split at h
   ·split at h
    ·exact (zKj h hw hn).elim
    ·cases h
   ·cases h
  ·cases h
 ·split at h
  ·exact h2 h
  ·cases h
 ·split at h
  ·split at h
   ·exact qRt h hw
   ·cases h
  ·cases h
 ·exact h2 h
 ·split at h
  ·exact h2 h
  ·cases h
 ·split at h
  ·exact h1 h
  ·cases h
 ·split at h
  ·split at h
   ·rename_i ti et _ p ep
    cases e:ti.k.isIface with
    | true=>rw [e] at h;cases h
    | false=>rw [e] at h;exact h1 h
   ·cases h
  ·cases h
 ·exact h2 h
 ·exact h2 h
 ·exact h2 h
 ·exact h2 h
 ·split at h
  ·unfold qMm at h
   split at h
   ·cases h;cases hn
   ·cases h
  ·cases h
 ·exact (qMn h).2.2 n o hw
 ·split at h
  ·exact h2 h
  ·cases h
 ·exact h2 h
 ·split at h
  ·rename_i ti et
   cases e:ti.k.isIface with
   | true=>rw [e] at h;cases h
   | false=>rw [e] at h;exact h2 h
  ·cases h
 ·split at h
  ·cases h;cases hn
  ·cases h
 ·split at h
  ·split at h
   ·obtain⟨_,_,n',⟨o',ho'⟩,hs⟩:=qA8 h
    rw [ho'] at hw;cases hw;exact hs
   ·cases h
  ·cases h
 ·split at h
  ·split at h
   ·obtain⟨_,_,n',⟨o',ho'⟩,hs⟩:=qA8 h
    rw [ho'] at hw;cases hw;exact hs
   ·cases h
  ·cases h
 ·split at h
  ·split at h
   ·split at h
    ·exact h2 h
    ·cases h
   ·cases h
  ·cases h
 ·split at h
  ·split at h
   ·exact h2 h
   ·cases h
  ·exact h2 h
  ·cases h
 ·split at h
  ·split at h
   ·exact h2 h
   ·exact h2 h
   ·cases h
  ·cases h
 ·split at h
  ·replace h:=(qQe h).2
   split at h
   ·split at h
    ·exact qOm h hw hn
    ·cases h
   ·cases h
  ·cases h
 ·split at h
  ·split at h
   ·exact h1 h
   ·cases h
  ·cases h
 ·cases h
theorem qMq {bs n m:Nat} {l:List Nat} (h:m∈zJw bs n l):(m=n∧n<bs)∨m∈l:=by
 unfold zJw at h
 cases e:Nat.blt n bs with
 | true=>rw [e] at h;rcases List.mem_cons.1 h with h|h<;>first|exact .inl ⟨h,qVj e⟩|exact .inr h
 | false=>rw [e] at h;exact .inr h
theorem qHg {bs n m:Nat} {l:List Nat} (h:m∈l):m∈zJw bs n l:=by
 unfold zJw
 cases Nat.blt n bs
 ·exact h
 ·exact List.mem_cons_of_mem _ h
theorem qHh {bs n:Nat} {l:List Nat} (h:n<bs):n∈zJw bs n l:=by
 unfold zJw
 rw [qJ8,decide_eq_true h]
 simp
theorem Inv.slot {bs:Nat} {sub:Tr Ob} {s:IS} (h:Inv bs sub s) (t:Tr V):Inv bs sub ⟨t,s.ob,s.nx,s.dt⟩:=⟨h.le,h.same,h.old,h.names,h.dts⟩
theorem qRu {bs:Nat} {sub:Tr Ob} {s:IS} (h:Inv bs sub s) {r:RB} (hn:r.new=true) (hnx:∃ o,r.wr=some (s.nx,o)) (d:Option Nat):Inv bs sub (s.app bs d r):=by
 obtain⟨o,hw⟩:=hnx
 unfold IS.app
 rw [hw,hn]
 refine⟨Nat.le_succ_of_le h.le,fun m hm hd => ?_,fun m hm hs => ?_,h.names,h.dts⟩
 ·have:=h.le
  show (s.ob.put s.nx (some o)).get m=_
  rw [Tr.get_put,if_neg (by omega)]
  exact h.same m hm hd
 ·have:=h.le
  have hs:((s.ob.put s.nx (some o)).get m).isSome=true:=hs
  rw [Tr.get_put,if_neg (by omega)] at hs
  exact h.old m hm hs
theorem zKk {bs:Nat} {sub:Tr Ob} {s:IS} (h:Inv bs sub s) {T:Nat→Option TI} {val:Operand→V} {dst:Option Nat} {op:Op} {r:RB} (hr:opE T s.nx val s.ob.get dst op=some r) (d:Option Nat):Inv bs sub (s.app bs d r):=by
 unfold IS.app
 cases hw:r.wr with
 | none=>exact h.slot _
 | some p =>
  obtain⟨n,o⟩:=p
  cases hn:r.new with
  | true =>
   obtain⟨note,_,hnx⟩:=zJv hr
   have:=qRu h hn (hnx hn) d
   unfold IS.app at this
   rwa [hw,hn] at this
  | false =>
   have hsome:=zA4 hr hw hn
   refine⟨h.le,fun m hm hd => ?_,fun m hm hs => ?_,h.names,fun m hm => ?_⟩
   ·show (s.ob.put n (some o)).get m=_
    have hne:m≠n:=by rintro rfl;exact hd (qHh hm)
    rw [Tr.get_put,if_neg hne]
    exact h.same m hm (fun hm'=>hd (qHg hm'))
   ·have hs:((s.ob.put n (some o)).get m).isSome=true:=hs
    rw [Tr.get_put] at hs
    by_cases e:m=n
    ·subst e;exact h.old m hm hsome
    ·rw [if_neg e] at hs;exact h.old m hm hs
   ·rcases qMq hm with ⟨rfl,h1⟩|h1
    ·exact h1
    ·exact h.dts m h1
theorem qHi (l:List (Nat × Ob)) (n m:Nat) (o:Ob):qQc (qWv l [(n,some o)]) m=if m=n then some o else qQc l m:=by
 simp only [qWv,zFa]
 exact qQv l n m o
theorem qFm {s:IS} {σ:St} (h:Rel s σ) (d:Option Nat) (x:V) (t:Nat):qZy (qBq d x σ.slots) t=(match (qIi s.sl d x).get t with|some v=>v|none => .undef):=by
 rw [qJ5]
 cases d with
 | none=>simp only [qIi];exact h.sl t
 | some d =>
  simp only [qIi,Tr.get_put]
  by_cases e:d=t
  ·subst e;simp
  ·have e':¬ t=d:=fun h=>e h.symm
   rw [if_neg (by simpa using e),if_neg e']
   exact h.sl t
theorem qCn:∀ (l:List (Nat × Ob)) (t:Tr Ob) (G:Nat→Option Ob),(∀ n o,(n,o)∈l→G n=some o)→∀ n,(qX8 l t).get n=if n∈qQa l then G n else t.get n
 | [],t,G,_,n=>by simp [qX8,qQa]
 | (k,o)::r,t,G,h,n=>by
  simp only [qX8]
  rw [qCn r _ G (fun n q hq=>h n q (by simp [hq])),Tr.get_put]
  have hk:qQa ((k,o)::r)=k::qQa r:=rfl
  rw [hk]
  by_cases h1:n∈qQa r
  ·rw [if_pos h1,if_pos (by simp [h1])]
  ·rw [if_neg h1]
   by_cases e:n=k
   ·subst e
    rw [if_pos rfl,if_pos (by simp),h n o (by simp)]
   ·rw [if_neg e,if_neg (by simp [e,h1])]
theorem qHj {bs m:Nat} : ∀ {l:List (Nat × Ob)} {d:List Nat},m∈qHd bs l d→(m∈qQa l∧m<bs)∨m∈d
 | [],d,h => .inr h
 | (n,o)::r,d,h=>by
  simp only [qHd] at h
  have hk:qQa ((n,o)::r)=n::qQa r:=rfl
  rcases qHj h with h|h
  ·exact .inl ⟨by rw [hk];simp [h.1],h.2⟩
  ·rcases qMq h with ⟨rfl,h⟩|h
   ·exact .inl ⟨by rw [hk];simp,h⟩
   ·exact .inr h
theorem qYt {bs m:Nat} : ∀ {l:List (Nat × Ob)} {d:List Nat},m∈d→m∈qHd bs l d
 | [],d,h=>h
 | (n,o)::r,d,h=>by simp only [qHd];exact qYt (qHg h)
theorem qD9 {bs m:Nat} (hm:m<bs):∀ {l:List (Nat × Ob)} {d:List Nat},m∈qQa l→m∈qHd bs l d
 | [],d,h=>by simp [qQa] at h
 | (n,o)::r,d,h=>by
  simp only [qHd]
  have hk:qQa ((n,o)::r)=n::qQa r:=rfl
  rw [hk] at h
  rcases List.mem_cons.1 h with rfl|h
  ·exact qYt (qHh hm)
  ·exact qD9 hm h
section
variable {P:Program} {gl:Nat→Option (List PV)} {s:IS} {f:Nat} {args:List V} {r:Res} {ks:List Nat} {o1 ro:List (Nat × Ob)}
theorem Called.get (h:Called P gl s f args r ks ro o1) (t:Tr Ob):∃ G:Nat→Option Ob,(∀ n,(qX8 r.nw (qX8 r.ch t)).get n=if n∈qQa (r.ch++r.nw) then G n else t.get n) ∧ ∀ n,qQc (r.ch++r.nw) n=if n∈qQa (r.ch++r.nw) then G n else none:=by
 obtain⟨G,hG⟩:=h.gfn
 refine⟨G,fun n => ?_,fun n => ?_⟩
 ·have hk:n∈qQa (r.ch++r.nw)↔n∈qQa r.ch∨n∈qQa r.nw:=by rw [qQ3,List.mem_append]
  rw [qCn r.nw _ G (fun n o ho=>hG n o (by simp [ho])),qCn r.ch _ G (fun n o ho=>hG n o (by simp [ho]))]
  by_cases h1:n∈qQa r.nw
  ·rw [if_pos h1,if_pos (hk.2 (.inr h1))]
  ·rw [if_neg h1]
   by_cases h2:n∈qQa r.ch
   ·rw [if_pos h2,if_pos (hk.2 (.inl h2))]
   ·rw [if_neg h2,if_neg (fun h=>by rcases hk.1 h with h|h<;>contradiction)]
 ·by_cases h1:n∈qQa (r.ch++r.nw)
  ·rw [if_pos h1];exact qMo hG n h1
  ·rw [if_neg h1];exact qHf h1
theorem Called.inv (h:Called P gl s f args r ks ro o1) {bs:Nat} {sub:Tr Ob} (hI:Inv bs sub s) (d:Option Nat):Inv bs sub (qFe bs s d r):=by
 obtain⟨G,hG,_⟩:=h.get s.ob
 have:=hI.le
 have:=h.le
 refine⟨by show bs≤r.nx;omega,fun m hm hd => ?_,fun m hm hs => ?_,hI.names,fun m hm => ?_⟩
 ·show (qX8 r.nw (qX8 r.ch s.ob)).get m=_
  rw [hG,if_neg]
  ·exact hI.same m hm (fun hm'=>hd (qYt hm'))
  ·rw [qQ3,List.mem_append]
   rintro (h1|h1)
   ·exact hd (qD9 hm h1)
   ·have:=(h.nws m h1).1;omega
 ·have hs:((qX8 r.nw (qX8 r.ch s.ob)).get m).isSome=true:=hs
  rw [hG] at hs
  split at hs
  ·rename_i h1
   rw [qQ3,List.mem_append] at h1
   rcases h1 with h1|h1
   ·exact hI.old m hm (h.chs m h1).2.1
   ·have:=(h.nws m h1).1;omega
  ·exact hI.old m hm hs
 ·rcases qHj hm with h1|h1
  ·exact h1.2
  ·exact hI.dts m h1
theorem Called.rel (h:Called P gl s f args r ks ro o1) {σ:St} (hR:Rel s σ) (bs:Nat) (d:Option Nat):Rel (qFe bs s d r) (σ.eff d (qWg r.x ro o1 (r.ch++r.nw))):=by
 obtain⟨G,hG,hG'⟩:=h.get s.ob
 refine⟨fun t=>qFm hR d r.x t,fun n => ?_,fun n hn => ?_⟩
 ·show qQc (qWv σ.objs (qK7 o1 (r.ch++r.nw))) n=(qX8 r.nw (qX8 r.ch s.ob)).get n
  rw [qZk,hG,hG']
  by_cases h1:n∈qQa (r.ch++r.nw)
  ·rw [if_pos h1,if_pos h1]
   have h2:=qQ6 h1
   obtain⟨o,ho⟩:=h2
   rw [hG',if_pos h1] at ho
   rw [ho]
  ·rw [if_neg h1,if_neg h1]
   simp only
   rw [if_neg]
   ·exact hR.ob n
   ·intro h2
    exact h1 (by rw [qQ3];simp [h.inch n h2])
 ·have hn:n∈(qQa (r.ch++r.nw)).filter (fun n=>(qQc o1 n).isNone)++σ.used:=hn
  show n<r.nx
  have hle:=h.le
  rcases List.mem_append.1 hn with hn|hn
  ·obtain⟨h1,h2⟩:=List.mem_filter.1 hn
   rw [qQ3,List.mem_append] at h1
   rcases h1 with h1|h1
   ·have:=(h.chs n h1).1;omega
   ·exact (h.nws n h1).2
  ·have:=hR.us n hn;omega
theorem Called.op (h:Called P gl s f args r ks ro o1) {X:qZ9} (hP:X.P=P) (hgl:X.gl=gl) {σ:St} (hR:Rel s σ) {o:Oper} (hf:qZ8 (σ.val X.gl) o.op=some (f,args)):OpW X o σ (qWg r.x ro o1 (r.ch++r.nw)):=by
 subst hP hgl
 refine OpW.callR f args ro o1 r.x (r.ch++r.nw) hf h.ac h.apart (qFj fun p hp => ?_) (fun n hn hu => ?_)
 ·rw [hR.ob];exact h.subs p hp
 ·have hn:n∈(qQa (r.ch++r.nw)).filter (fun n=>(qQc o1 n).isNone):=hn
  obtain⟨h1,h2⟩:=List.mem_filter.1 hn
  rw [qQ3,List.mem_append] at h1
  have:=hR.us n hu
  rcases h1 with h1|h1
  ·obtain⟨q,hq⟩:=qQ6 (h.chs n h1).2.2
   rw [hq] at h2
   cases h2
  ·have:=(h.nws n h1).1;omega
end
def qHk (ev:qVq) (P:Program) (call:Call):Prop:=∀ (f:Nat) (args:List V) (s:IS) (r:Res) (ks:List Nat),call f args s=some (r,ks)→∃ ro o1,Called P ev.gl s f args r ks ro o1
def qU7 (e:Eff) (tc:Tc):Prop:=(∀ n∈e.wn,n∈tc.wn) ∧ ∀ n∈e.rd,n∈tc.rd
section
variable {ev:qVq} {P:Program} {call:Call}
theorem zKl (hg:qHk ev P call) {bs:Nat} {o:Oper} {s s1:IS} {tc:Tc} (h:doI ev call bs o s=some (s1,tc)) {sub:Tr Ob} (hI:Inv bs sub s):Inv bs sub s1:=by
 unfold doI at h
 split at h
 ·unfold callR at h
  split at h
  ·rename_i r ks hc
   cases h
   obtain⟨ro,o1,hC⟩:=hg _ _ _ _ _ hc
   exact hC.inv hI _
  ·cases h
 ·split at h
  ·rename_i r hr
   cases h
   exact zKk hI hr _
  ·cases h
theorem zJz {bs:Nat} {o:Oper} {s:IS} {r:RB} {note:qDa} (hG:qO6 (qQb ev.T note (s.val ev.gl) s.ob.get o.dst o.op) r) (hnx:r.new=true→∃ o',r.wr=some (s.nx,o')) {X:qZ9} (hXT:X.T=ev.T) (hgl:X.gl=ev.gl) {σ:St} (hR:Rel s σ) :
  ∃ e,OpW X o σ e∧Rel (s.app bs o.dst r) (σ.eff o.dst e)∧qU7 e ⟨match r.wr with|some (n,_)=>[n]|none=>[],rdN (s.val ev.gl) o.op⟩:=by
 obtain⟨q,hq,hc,hx,hw,hn⟩:=hG
 have hval:=hR.val ev.gl
 have hOW:OpW X o σ (q.eff (rdN (σ.val X.gl) o.op)):=by
  refine .step note q ?_ hc fun n hnn => ?_
  ·rw [hgl,hXT,hval,hR.obf];exact hq
  ·simp only [R.eff,hw,hn] at hnn
   cases hwr:r.wr with
   | none=>rw [hwr] at hnn;simp at hnn
   | some p =>
    obtain⟨m,ob⟩:=p
    rw [hwr] at hnn
    cases hnw:r.new with
    | false=>rw [hnw] at hnn;simp at hnn
    | true =>
     rw [hnw] at hnn
     obtain⟨o',ho'⟩:=hnx hnw
     rw [hwr] at ho'
     cases ho'
     simp at hnn
     subst hnn
     intro hu
     exact absurd (hR.us _ hu) (Nat.lt_irrefl _)
 refine⟨_,hOW,?_,?_,?_⟩
 ·-- the state
  refine⟨fun t => ?_,fun n => ?_,fun n hnn => ?_⟩
  ·have:qZy (qBq o.dst q.out σ.slots) t=_:=qFm hR o.dst q.out t
   rw [hx] at this
   show qZy (qBq o.dst q.out σ.slots) t=_
   rw [hx,this]
   unfold IS.app
   cases r.wr with
   | none=>rfl
   | some p=>cases r.new<;>rfl
  ·show qQc (qWv σ.objs (match q.wr with|some (n,o)=>[(n,some o)]|none=>[])) n=_
   rw [hw]
   unfold IS.app
   cases hwr:r.wr with
   | none=>exact hR.ob n
   | some p =>
    obtain⟨m,ob⟩:=p
    simp only
    rw [qHi,hR.ob]
    cases r.new<;>exact (Tr.get_put _ _ _ _).symm
  ·have hnn:n∈(match q.wr,q.new with|some (n,_),true=>[n]|_,_=>[])++σ.used:=hnn
   rw [hw,hn] at hnn
   unfold IS.app
   cases hwr:r.wr with
   | none=>rw [hwr] at hnn;simp at hnn;exact hR.us n hnn
   | some p =>
    obtain⟨m,ob⟩:=p
    rw [hwr] at hnn
    cases hnw:r.new with
    | false=>rw [hnw] at hnn;simp at hnn;exact hR.us n hnn
    | true =>
     rw [hnw] at hnn
     obtain⟨o',ho'⟩:=hnx hnw
     rw [hwr] at ho'
     cases ho'
     simp at hnn
     show n<Nat.succ s.nx
     rcases hnn with h1|h1
     ·subst h1;exact Nat.lt_succ_self _
     ·exact Nat.lt_succ_of_lt (hR.us n h1)
 ·intro n hnn
  simp only [Eff.wn,R.eff,hw] at hnn
  cases hwr:r.wr with
  | none=>rw [hwr] at hnn;simp at hnn
  | some p =>
   obtain⟨m,ob⟩:=p
   rw [hwr] at hnn
   simpa using hnn
 ·intro n hnn
  have hnn:n∈rdN (σ.val X.gl) o.op:=hnn
  rw [hgl,hval] at hnn
  exact hnn
theorem zA5 (hg:qHk ev P call) {bs:Nat} {o:Oper} {s s1:IS} {tc:Tc} (h:doI ev call bs o s=some (s1,tc)) {X:qZ9} (hP:X.P=P) (hXT:X.T=ev.T) (hgl:X.gl=ev.gl) {σ:St} (hR:Rel s σ) :
  ∃ e,OpW X o σ e∧Rel s1 (σ.eff o.dst e)∧qU7 e tc:=by
 unfold doI at h
 split at h
 ·rename_i f args hf
  unfold callR at h
  split at h
  ·rename_i r ks hc
   cases h
   obtain⟨ro,o1,hC⟩:=hg _ _ _ _ _ hc
   refine⟨_,hC.op hP hgl hR (by rw [hR.val,hgl];exact hf),hC.rel hR bs _,fun n hn => ?_,fun n hn => ?_⟩
   ·have hn:n∈(qK7 o1 (r.ch++r.nw)).map (·.1):=hn
    simp only [qK7,List.map_append,List.map_map,List.mem_append] at hn ⊢
    rcases hn with hn|hn
    ·obtain⟨m,hm,rfl⟩:=List.mem_map.1 hn
     have:=hC.inch m (List.mem_filter.1 hm).1
     exact .inl this
    ·obtain⟨p,hp,rfl⟩:=List.mem_map.1 hn
     rw [List.mem_reverse,List.mem_append] at hp
     rcases hp with hp|hp
     ·exact .inl (List.mem_map.2 ⟨p,hp,rfl⟩)
     ·exact .inr (List.mem_map.2 ⟨p,hp,rfl⟩)
   ·exact hC.kss n hn
  ·cases h
 ·rename_i hf
  split at h
  ·rename_i r hr
   cases h
   obtain⟨note,hG,hnx⟩:=zJv hr
   exact zJz hG hnx hXT hgl hR
  ·cases h
end
end Go.Lg
