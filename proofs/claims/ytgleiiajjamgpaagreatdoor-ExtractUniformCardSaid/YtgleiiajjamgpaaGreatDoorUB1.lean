/- The engine that computes runs; no conditions. -/
import Derived.Test.YtgleiiajjamgpaaGreatDoorUA4
set_option linter.all false
namespace Go.Lg
inductive Tr (α:Type) where
 | nil
 | node (l:Tr α) (v:Option α) (r:Tr α)
theorem qIi {a b:Nat} (h:a=b):Nat.beq a b=true:=by subst h;exact Nat.beq_refl a
theorem zV7 {a b:Nat} (h:a≠b):Nat.beq a b=false:=by
 cases e:Nat.beq a b with
 | false=>rfl
 | true=>exact absurd (Nat.eq_of_beq_eq_true e) h
def Tr.get {α:Type} : Tr α→Nat→Option α
 | .nil,_=>none
 | .node l v r,i=>bif Nat.beq i 0 then v else bif Nat.beq (Nat.mod i 2) 1 then l.get (Nat.div i 2) else r.get (Nat.pred (Nat.div i 2))
def Tr.putF {α:Type} : Nat→Tr α→Nat→Option α→Tr α
 | 0,t,_,_=>t
 | f+1,.nil,i,x=>bif Nat.beq i 0 then .node .nil x .nil else bif Nat.beq (Nat.mod i 2) 1 then .node (Tr.putF f .nil (Nat.div i 2) x) none .nil else .node .nil none (Tr.putF f .nil (Nat.pred (Nat.div i 2)) x)
 | f+1,.node l v r,i,x=>bif Nat.beq i 0 then .node l x r else bif Nat.beq (Nat.mod i 2) 1 then .node (Tr.putF f l (Nat.div i 2) x) v r else .node l v (Tr.putF f r (Nat.pred (Nat.div i 2)) x)
def Tr.put {α:Type} (t:Tr α) (i:Nat) (x:Option α):Tr α:=Tr.putF (Nat.succ i) t i x
def Tr.map {α β:Type} (f:α→β):Tr α→Tr β
 | .nil => .nil
 | .node l v r => .node (l.map f) (v.map f) (r.map f)
theorem Tr.get_nil {α:Type} (i:Nat):(Tr.nil:Tr α).get i=none:=rfl
theorem Tr.get_node {α:Type} (l:Tr α) (v:Option α) (r:Tr α) (i:Nat):(Tr.node l v r).get i=if i=0 then v else if i % 2=1 then l.get (i / 2) else r.get (i / 2-1):=by
 show (bif Nat.beq i 0 then v else bif Nat.beq (Nat.mod i 2) 1 then l.get (Nat.div i 2) else r.get (Nat.pred (Nat.div i 2)))=_
 by_cases h:i=0
 ·subst h;rfl
 ·rw [if_neg h,zV7 h]
  simp only [cond_false]
  by_cases h1:i % 2=1
  ·rw [if_pos h1,show Nat.beq (Nat.mod i 2) 1=true from qIi h1];rfl
  ·rw [if_neg h1,show Nat.beq (Nat.mod i 2) 1=false from zV7 h1];rfl
theorem Tr.get_putF {α:Type} : ∀ (f:Nat) (t:Tr α) (i:Nat) (x:Option α) (j:Nat),i<f→(Tr.putF f t i x).get j=if j=i then x else t.get j
 | 0,_,_,_,_,h=>absurd h (Nat.not_lt_zero _)
 | f+1,t,i,x,j,h=>by
  have key:∀ (l:Tr α) (v:Option α) (r:Tr α),
    (bif Nat.beq i 0 then Tr.node l x r else bif Nat.beq (Nat.mod i 2) 1 then .node (Tr.putF f l (Nat.div i 2) x) v r else .node l v (Tr.putF f r (Nat.pred (Nat.div i 2)) x)).get j=if j=i then x else (Tr.node l v r).get j:=by
   intro l v r
   by_cases h0:i=0
   ·subst h0
    show (Tr.node l x r).get j=_
    rw [Tr.get_node,Tr.get_node]
    by_cases hj:j=0
    ·simp [hj]
    ·simp [hj]
   ·rw [show Nat.beq i 0=false from zV7 h0]
    simp only [cond_false]
    by_cases h1:i % 2=1
    ·rw [show Nat.beq (Nat.mod i 2) 1=true from qIi h1]
     simp only [cond_true]
     rw [Tr.get_node,Tr.get_node]
     have ih:=Tr.get_putF f l (i / 2) x (j / 2) (by omega)
     by_cases hj:j=0
     ·subst hj;rw [if_pos rfl,if_pos rfl,if_neg (by omega)]
     ·rw [if_neg hj,if_neg hj]
      by_cases h2:j % 2=1
      ·rw [if_pos h2,if_pos h2]
       refine ih.trans ?_
       by_cases e:j=i
       ·rw [if_pos e,if_pos (by rw [e])]
       ·rw [if_neg e,if_neg (by omega)]
      ·rw [if_neg h2,if_neg h2,if_neg (by intro e;subst e;exact h2 h1)]
    ·rw [show Nat.beq (Nat.mod i 2) 1=false from zV7 h1]
     simp only [cond_false]
     rw [Tr.get_node,Tr.get_node]
     have ih:=Tr.get_putF f r (i / 2-1) x (j / 2-1) (by omega)
     by_cases hj:j=0
     ·subst hj;rw [if_pos rfl,if_pos rfl,if_neg (by omega)]
     ·rw [if_neg hj,if_neg hj]
      by_cases h2:j % 2=1
      ·rw [if_pos h2,if_pos h2,if_neg (by intro e;subst e;exact h1 h2)]
      ·rw [if_neg h2,if_neg h2]
       refine ih.trans ?_
       by_cases e:j=i
       ·rw [if_pos e,if_pos (by rw [e])]
       ·rw [if_neg e,if_neg (by omega)]
  cases t with
  | nil =>
   have:=key .nil none .nil
   simp only [Tr.get_node,Tr.get_nil,ite_self] at this ⊢
   exact this
  | node l v r=>exact key l v r
theorem Tr.get_put {α:Type} (t:Tr α) (i:Nat) (x:Option α) (j:Nat):(t.put i x).get j=if j=i then x else t.get j:=Tr.get_putF _ t i x j (Nat.lt_succ_self i)
theorem Tr.get_map {α β:Type} (f:α→β):∀ (t:Tr α) (i:Nat),(t.map f).get i=(t.get i).map f
 | .nil,_=>rfl
 | .node l v r,i=>by
  show (Tr.node (l.map f) (v.map f) (r.map f)).get i=_
  rw [Tr.get_node,Tr.get_node]
  split
  ·rfl
  ·split
   ·exact Tr.get_map f l _
   ·exact Tr.get_map f r _
def qGf {α:Type} : List α→Nat→List α
 | [],_=>[]
 | a::l,n=>match n with
  | 0=>a::l
  | m+1=>qGf l m
theorem qAe {α:Type} : ∀ (l:List α) (n:Nat),qGf l n=l.drop n
 | [],n=>by simp [qGf]
 | a::l,0=>rfl
 | a::l,n+1=>by simp only [qGf,List.drop_succ_cons];exact qAe l n
def qNg {α:Type} : List α→Nat→Option (List α)
 | [],n=>match n with
  | 0=>some []
  | _+1=>none
 | a::l,n=>match n with
  | 0=>some []
  | m+1=>match qNg l m with
   | some r=>some (a::r)
   | none=>none
theorem qAf {α:Type} : ∀ (l:List α) (n:Nat),qNg l n=if n≤l.length then some (l.take n) else none
 | [],0=>rfl
 | [],n+1=>rfl
 | a::l,0=>rfl
 | a::l,n+1=>by
  simp only [qNg,qAf l n,List.length_cons,Nat.add_le_add_iff_right]
  by_cases h:n≤l.length
  ·rw [if_pos h,if_pos h];rfl
  ·rw [if_neg h,if_neg h]
def qXx {α:Type} : List α→Nat→Option α
 | [],_=>none
 | a::l,n=>match n with
  | 0=>some a
  | m+1=>qXx l m
theorem qJy {α:Type} : ∀ (l:List α) (n:Nat),qXx l n=l[n]?
 | [],n=>by simp [qXx]
 | a::l,0=>rfl
 | a::l,n+1=>by simp only [qXx,List.getElem?_cons_succ];exact qJy l n
def qS8 {α:Type} : List α→Nat→List α→Option (List α)
 | cs,0,[]=>some cs
 | [],0,_::_=>none
 | _::cs,0,y::ys=>match qS8 cs 0 ys with
  | some r=>some (y::r)
  | none=>none
 | [],_+1,_=>none
 | c::cs,n+1,ys=>match qS8 cs n ys with
  | some r=>some (c::r)
  | none=>none
theorem qEk {α:Type} : ∀ (cs:List α) (n:Nat) (ys r:List α),qS8 cs n ys=some r→n+ys.length≤cs.length∧r=cs.take n++ys++cs.drop (n+ys.length)
 | cs,0,[],r,h=>by simp only [qS8,Option.some.injEq] at h;subst h;simp
 | [],0,_::_,r,h=>by simp [qS8] at h
 | c::cs,0,y::ys,r,h=>by
  simp only [qS8] at h
  split at h
  ·rename_i r' hr
   cases h
   obtain⟨h1,h2⟩:=qEk cs 0 ys r' hr
   subst h2
   refine⟨by simp at h1 ⊢;omega,by simp⟩
  ·cases h
 | [],n+1,ys,r,h=>by simp [qS8] at h
 | c::cs,n+1,ys,r,h=>by
  simp only [qS8] at h
  split at h
  ·rename_i r' hr
   cases h
   obtain⟨h1,h2⟩:=qEk cs n ys r' hr
   subst h2
   refine⟨by simp;omega,?_⟩
   rw [show n+1+ys.length=(n+ys.length)+1 by omega]
   simp
  ·cases h
structure RB where
 x:V
 wr:Option (Nat × Ob)
 new:Bool
def rb (x:V):Option RB:=some ⟨x,none,false⟩
def qCe:List Nat→Nat→Bool
 | [],_=>false
 | k::r,n=>bif Nat.beq k n then true else qCe r n
theorem qZt:∀ (l:List Nat) (n:Nat),qCe l n=true↔n∈l
 | [],n=>by simp [qCe]
 | k::r,n=>by
  unfold qCe
  by_cases h:k=n
  ·rw [qIi h];simp [h]
  ·rw [zV7 h]
   simp only [cond_false,List.mem_cons]
   rw [qZt r n]
   constructor
   ·exact .inr
   ·rintro (h1|h1)
    ·exact absurd h1.symm h
    ·exact h1
def inB:Int→Bool
 | .ofNat n=>Nat.ble n 9223372036854775807
 | .negSucc n=>Nat.ble n 9223372036854775807
theorem zYw {x:Int} (h:inB x=true):inI x:=by
 unfold inI
 cases x with
 | ofNat n=>have:=Nat.le_of_ble_eq_true h;constructor<;>simp only [Int.ofNat_eq_natCast]<;>omega
 | negSucc n=>have:=Nat.le_of_ble_eq_true h;constructor<;>omega
def ltI:Int→Int→Bool
 | .ofNat m,.ofNat n=>Nat.blt m n
 | .negSucc m,.negSucc n=>Nat.blt n m
 | .negSucc _,.ofNat _=>true
 | .ofNat _,.negSucc _=>false
theorem qJz (m n:Nat):Nat.blt m n=decide (m<n):=by
 cases e:Nat.blt m n with
 | true=>have:m+1≤n:=Nat.le_of_ble_eq_true e;exact (decide_eq_true (by omega)).symm
 | false =>
  refine (decide_eq_false fun h => ?_).symm
  have:Nat.ble (m+1) n=true:=Nat.ble_eq_true_of_le (by omega)
  have e':Nat.ble (m+1) n=false:=e
  rw [e'] at this
  cases this
theorem qQs (a b:Int):ltI a b=decide (a<b):=by
 cases a<;>cases b<;>simp only [ltI]
 ·rw [qJz];simp
 ·refine (decide_eq_false ?_).symm;simp only [Int.ofNat_eq_natCast];omega
 ·refine (decide_eq_true ?_).symm;simp only [Int.ofNat_eq_natCast];omega
 ·rw [qJz];simp only [decide_eq_decide];omega
def eqI:Int→Int→Bool
 | .ofNat m,.ofNat n=>Nat.beq m n
 | .negSucc m,.negSucc n=>Nat.beq m n
 | _,_=>false
theorem qO9 (m n:Nat):Nat.beq m n=decide (m=n):=by
 by_cases h:m=n
 ·rw [qIi h];simp [h]
 ·rw [zV7 h];simp [h]
theorem qVd (a b:Int):eqI a b=decide (a=b):=by
 cases a<;>cases b<;>simp only [eqI]
 ·rw [qO9];simp only [Int.ofNat_eq_natCast,decide_eq_decide];omega
 ·exact (decide_eq_false (by simp)).symm
 ·exact (decide_eq_false (by simp)).symm
 ·rw [qO9];simp
def Got (o:Option R) (x:V):Prop:=∃ q,o=some q∧q.cond∧q.out=x∧q.wr=none∧q.new=false
def bv (b:Bool):V:=.pv (.bool b)
def qN8 (x:Int):Option V:=bif inB x then some (.pv (.int x)) else none
def zZt (op:BinOp) (a b:Int):Option V:=match op with
 | .add=>qN8 (a+b)
 | .sub=>qN8 (a-b)
 | .mul=>qN8 (a * b)
 | .rem=>bif eqI b 0 then none else some (.pv (.int (a.tmod b)))
 | .lss=>some (bv (ltI a b))
 | .leq=>some (bv (!ltI b a))
 | .gtr=>some (bv (ltI b a))
 | .geq=>some (bv (!ltI a b))
 | .eql=>some (bv (eqI a b))
 | .neq=>some (bv (!eqI a b))
 | _=>none
theorem zV8 {op:BinOp} {a b:Int} {x:V} (h:zZt op a b=some x):Got (qDz op a b) x:=by
 have hv:∀ c:Int,qN8 c=some x→Got (some (R.ofIf (inI c) (.pv (.int c)))) x:=by
  intro c hc
  unfold qN8 at hc
  cases e:inB c with
  | true=>rw [e] at hc;cases hc;exact⟨_,rfl,zYw e,rfl,rfl,rfl⟩
  | false=>rw [e] at hc;cases hc
 have hb:∀ c d:Bool,c=d→some (bv c)=some x→Got (qZ6 d) x:=by
  intro c d e hc
  subst e
  cases hc
  exact⟨_,rfl,trivial,rfl,rfl,rfl⟩
 cases op<;>simp only [zZt] at h<;>try cases h<;>done
 case add=>exact hv _ h
 case sub=>exact hv _ h
 case mul=>exact hv _ h
 case rem =>
  cases e:eqI b 0 with
  | true=>rw [e] at h;cases h
  | false =>
   rw [e] at h
   cases h
   rw [qVd] at e
   exact⟨_,rfl,(show b≠0 by simpa using e),rfl,rfl,rfl⟩
 case lss=>exact hb _ _ (qQs a b) h
 case leq=>exact hb _ _ (by rw [qQs];by_cases hh:b<a<;>simp [hh]<;>omega) h
 case gtr=>exact hb _ _ (qQs b a) h
 case geq=>exact hb _ _ (by rw [qQs];by_cases hh:a<b<;>simp [hh]<;>omega) h
 case eql=>exact hb _ _ (qVd a b) h
 case neq=>exact hb _ _ (by rw [qVd]) h
def qY7 (n:Nat):List (List PV)→Bool
 | []=>true
 | y::r=>bif Nat.beq y.length n then qY7 n r else false
theorem qBh {n:Nat} : ∀ {l:List (List PV)},qY7 n l=true→∀ y∈l,y.length=n
 | [],_,_,h=>by cases h
 | y::r,h,z,hz=>by
  unfold qY7 at h
  cases e:Nat.beq y.length n with
  | false=>rw [e] at h;cases h
  | true =>
   rw [e] at h
   rcases List.mem_cons.1 hz with rfl|hz
   ·exact Nat.eq_of_beq_eq_true e
   ·exact qBh h z hz
def qBi (n:Nat):List (List V)→Bool
 | []=>true
 | y::r=>bif Nat.beq y.length n then qBi n r else false
theorem qEl {n:Nat} : ∀ {l:List (List V)},qBi n l=true→∀ y∈l,y.length=n
 | [],_,_,h=>by cases h
 | y::r,h,z,hz=>by
  unfold qBi at h
  cases e:Nat.beq y.length n with
  | false=>rw [e] at h;cases h
  | true =>
   rw [e] at h
   rcases List.mem_cons.1 hz with rfl|hz
   ·exact Nat.eq_of_beq_eq_true e
   ·exact qEl h z hz
def zZu:List V→Bool
 | []=>true
 | y::r=>bif y.one then zZu r else false
theorem qBj:∀ {l:List V},zZu l=true→l.all V.one=true
 | [],_=>rfl
 | y::r,h=>by
  unfold zZu at h
  cases e:y.one with
  | false=>rw [e] at h;cases h
  | true=>rw [e] at h;simp only [List.all_cons,e,Bool.true_and];exact qBj h
def qJk:List (List V)→Bool
 | []=>true
 | y::r=>bif zZu y then qJk r else false
theorem qEm:∀ {l:List (List V)},qJk l=true→∀ y∈l,y.all V.one=true
 | [],_,_,h=>by cases h
 | y::r,h,z,hz=>by
  unfold qJk at h
  cases e:zZu y with
  | false=>rw [e] at h;cases h
  | true =>
   rw [e] at h
   rcases List.mem_cons.1 hz with rfl|hz
   ·exact qBj e
   ·exact qEm h z hz
def zCx (agg:Bool) (n:Nat) (cs:List PV):Option V:=match agg with
 | true=>match qNg cs n with
  | some l=>some (.pv (.agg l))
  | none=>none
 | false=>match cs with
  | c::_=>some (.pv c)
  | []=>none
theorem qPa {agg:Bool} {n:Nat} {cs:List PV} {x:V} (h:zCx agg n cs=some x):Got (rdP agg n cs) x:=by
 unfold zCx at h
 unfold rdP
 cases agg with
 | true =>
  simp only [qAf] at h
  by_cases e:n≤cs.length
  ·rw [if_pos e] at h;cases h;exact⟨_,rfl,e,rfl,rfl,rfl⟩
  ·rw [if_neg e] at h;cases h
 | false =>
  cases cs with
  | nil=>cases h
  | cons c cs=>cases h;exact⟨_,rfl,trivial,rfl,rfl,rfl⟩
def unR:List V→Option (List PV)
 | []=>some []
 | c::cs=>match c with
  | .pv p=>match unR cs with
   | some r=>some (p::r)
   | none=>none
  | _=>none
theorem qPb:∀ (l:List V),unR l=unL l
 | []=>rfl
 | c::cs=>by
  cases c<;>simp only [unR,unL,V.un,qPb cs]
  all_goals cases unL cs<;>rfl
def zYx (cs:List V):V:=match unR cs with
 | some ps => .pv (.agg ps)
 | none => .agg cs
theorem qIj (cs:List V):zYx cs=qY1 cs:=by unfold zYx qY1;rw [qPb];cases unL cs<;>rfl
def zYy (agg:Bool) (n:Nat) (cs:List V):Option V:=match agg with
 | true=>match qNg cs n with
  | some l=>some (zYx l)
  | none=>none
 | false=>match cs with
  | c::_=>some c
  | []=>none
theorem qPc (agg:Bool) (n:Nat) (cs:List V):zYy agg n cs=rdV agg n cs:=by
 unfold zYy rdV
 cases agg with
 | true =>
  simp only [if_true,qAf,qIj]
  by_cases e:n≤cs.length
  ·rw [if_pos e,if_pos e]
  ·rw [if_neg e,if_neg e]
 | false=>rfl
def zV9 (ti:TI) (ob:Nat→Option Ob) (x:V):Option V:=match x with
 | .pv (.ptr cs)=>zCx ti.isAgg ti.size cs
 | .pv (.nptr cs)=>zCx ti.isAgg ti.size cs
 | .loc n off=>match ob n with
  | some (.box cs)=>zYy ti.isAgg ti.size (qGf cs off)
  | _=>none
 | .eloc n ver i off=>match ob n with
  | some (.arr ver' _ _ es)=>match qXx es i with
   | some e=>bif Nat.beq ver ver' then zYy ti.isAgg ti.size (qGf e off) else none
   | none=>none
  | _=>none
 | _=>none
theorem qTz {ti:TI} {ob:Nat→Option Ob} {x y:V} (h:zV9 ti ob x=some y):Got (qVz ti ob x) y:=by
 unfold zV9 at h
 unfold qVz
 split at h
 ·exact qPa h
 ·exact qPa h
 ·rename_i n off
  simp only
  split at h
  ·rename_i cs e
   rw [qPc,qAe] at h
   simp only [e,h]
   exact⟨_,rfl,trivial,rfl,rfl,rfl⟩
  ·cases h
 ·rename_i n ver i off
  simp only
  split at h
  ·rename_i ver' sz ty es e
   rw [qJy] at h
   split at h
   ·rename_i el he
    cases ev:Nat.beq ver ver' with
    | false=>rw [ev] at h;cases h
    | true =>
     rw [ev] at h
     simp only [cond_true] at h
     rw [qPc,qAe] at h
     simp only [e,he,h]
     exact⟨_,rfl,Nat.eq_of_beq_eq_true ev,rfl,rfl,rfl⟩
   ·cases h
  ·cases h
 ·cases h
def qT0 (o:Option R) (r:RB):Prop:=∃ q,o=some q∧q.cond∧q.out=r.x∧q.wr=r.wr∧q.new=r.new
theorem Got.r {o:Option R} {x:V} (h:Got o x):qT0 o ⟨x,none,false⟩:=h
theorem qQe {α:Type} {c:Bool} {a:Option α} {x:α} (h:(bif c then a else none)=some x):c=true∧a=some x:=by
 cases c with
 | true=>exact⟨rfl,h⟩
 | false=>cases h
theorem qJ6 {m n:Nat} (h:Nat.blt m n=true):m<n:=by rw [qJz] at h;exact of_decide_eq_true h
def qPd (q:PV) (y:V):Option RB:=match q with
 | .nptr cs=>match cs with
  | c::_=>match c with
   | .flg p=>match y with
    | .pv z=>match z with
     | .bool b=>bif (bif b then p else true) then some ⟨.undef,none,false⟩ else none
     | _=>none
    | _=>none
   | _=>none
  | []=>none
 | _=>none
theorem qLo {q:PV} {y:V} {r:RB} (h:qPd q y=some r):∃ p l b,q = .nptr (.flg p::l)∧y = .pv (.bool b)∧(b=true→p=true)∧r=⟨.undef,none,false⟩:=by
 unfold qPd at h
 split at h
 ·split at h
  ·split at h
   ·split at h
    ·split at h
     ·rename_i b
      obtain⟨hb,h⟩:=qQe h
      cases h
      exact⟨_,_,b,rfl,rfl,fun e=>by subst e;exact hb,rfl⟩
     ·cases h
    ·cases h
   ·cases h
  ·cases h
 ·cases h
def qBk (ti:TI) (ob:Nat→Option Ob) (x y:V):Option RB:=match qVl y with
 | none=>none
 | some ys=>bif Nat.beq ys.length ti.size then (bif zZu ys then (match x with
  | .loc n off=>match ob n with
   | some (.box cs)=>match qS8 cs off ys with
    | some r=>some ⟨.undef,some (n,.box r),false⟩
    | none=>none
   | _=>none
  | .eloc n ver i off=>match ob n with
   | some (.arr ver' sz ty es)=>bif Nat.beq ver ver' then (bif Nat.ble (off+ys.length) sz then (match qXx es i with
    | some e=>some ⟨.undef,some (n,.arr ver' sz ty (es.set i (qDy e off ys))),false⟩
    | none=>none) else none) else none
   | _=>none
  | .pv q=>qPd q y
  | _=>none) else none) else none
theorem qGg {ti:TI} {ob:Nat→Option Ob} {x y:V} {r:RB} (h:qBk ti ob x y=some r):qT0 (qJr ti ob x y) r:=by
 unfold qBk at h
 unfold qJr
 split at h
 ·cases h
 ·rename_i ys ey
  have h1:=(qQe h).1
  replace h:=(qQe h).2
  have h3:=(qQe h).1
  replace h:=(qQe h).2
  have h1:=Nat.eq_of_beq_eq_true h1
  simp only [ey]
  split at h
  ·rename_i n off
   split at h
   ·rename_i cs eo
    split at h
    ·rename_i q hq
     cases h
     obtain⟨h2,h4⟩:=qEk cs off ys q hq
     simp only [eo]
     exact⟨_,rfl,⟨h1,h2,qBj h3⟩,rfl,by rw [h4];rfl,rfl⟩
    ·cases h
   ·cases h
  ·rename_i n ver i off
   split at h
   ·rename_i ver' sz ty es eo
    have h2:=(qQe h).1
    replace h:=(qQe h).2
    have h4:=(qQe h).1
    replace h:=(qQe h).2
    split at h
    ·rename_i e he
     cases h
     rw [qJy] at he
     have hlt:i<es.length:=(List.getElem?_eq_some_iff.1 he).1
     have hg:es.getD i []=e:=by rw [List.getD_eq_getElem?_getD,he];rfl
     simp only [eo]
     exact⟨_,rfl,⟨Nat.eq_of_beq_eq_true h2,hlt,h1,Nat.le_of_ble_eq_true h4,qBj h3⟩,rfl,by rw [hg],rfl⟩
    ·cases h
   ·cases h
  ·rename_i q
   obtain⟨p,l,b,rfl,rfl,hb,rfl⟩:=qLo h
   refine⟨_,rfl,⟨?_,hb⟩,rfl,rfl,rfl⟩
   cases ey
   exact h1.symm
  ·cases h
def qHp:Int→Option Nat
 | .ofNat n=>some n
 | .negSucc _=>none
theorem qWs {i:Int} {n:Nat} (h:qHp i=some n):i=n:=by
 cases i with
 | ofNat k=>simp only [qHp,Option.some.injEq] at h;subst h;rfl
 | negSucc k=>cases h
def qLp (T:Nat→Option TI) (ob:Nat→Option Ob) (t:Nat) (x i:V):Option V:=match i with
 | .pv (.int z)=>match qHp z with
  | some k=>match T t with
   | some ⟨.slice e,_,_,_,_⟩=>match T e with
    | some te=>match x with
     | .pv (.slice es)=>match qXx es k with
      | some e=>bif qY7 te.size es then some (.pv (.ptr e)) else none
      | none=>none
     | .arr n ver len=>match ob n with
      | some (.arr ver' sz _ es)=>bif Nat.beq ver ver' then (bif Nat.blt k len then (bif Nat.beq sz te.size then (bif Nat.ble len es.length then some (.eloc n ver k 0) else none) else none) else none) else none
      | _=>none
     | _=>none
    | none=>none
   | some ⟨.array m e,_,_,_,_⟩=>match T e with
    | some te=>bif Nat.blt k m then qWl x (k * te.size) else none
    | none=>none
   | _=>none
  | none=>none
 | _=>none
theorem qPe {T:Nat→Option TI} {ob:Nat→Option Ob} {t:Nat} {x i y:V} (h:qLp T ob t x i=some y):Got (qJs T ob t x i) y:=by
 unfold qLp at h
 unfold qJs
 split at h
 ·rename_i z
  split at h
  ·rename_i k ek
   have hz:=qWs ek
   subst hz
   simp only [Int.toNat_natCast]
   split at h
   ·rename_i e a b c d et
    simp only [et]
    split at h
    ·rename_i te ete
     simp only [ete]
     split at h
     ·rename_i es
      split at h
      ·rename_i e' he
       obtain⟨h2,h⟩:=qQe h
       cases h
       rw [qJy] at he
       have hlt:k<es.length:=(List.getElem?_eq_some_iff.1 he).1
       have hg:es.getD k []=e':=by rw [List.getD_eq_getElem?_getD,he];rfl
       refine⟨_,rfl,?_,by rw [hg];rfl,rfl,rfl⟩
       exact⟨by omega,by omega,qBh h2⟩
      ·cases h
     ·rename_i n ver len
      split at h
      ·rename_i ver' sz ty es eo
       obtain⟨h1,h⟩:=qQe h
       obtain⟨h2,h⟩:=qQe h
       obtain⟨h3,h⟩:=qQe h
       obtain⟨h4,h⟩:=qQe h
       cases h
       simp only [eo]
       refine⟨_,rfl,?_,rfl,rfl,rfl⟩
       exact⟨Nat.eq_of_beq_eq_true h1,by omega,by have:=qJ6 h2;omega,Nat.eq_of_beq_eq_true h3,Nat.le_of_ble_eq_true h4⟩
      ·cases h
     ·cases h
    ·cases h
   ·rename_i m e a b c d et
    simp only [et]
    split at h
    ·rename_i te ete
     obtain⟨h1,h⟩:=qQe h
     simp only [ete,h]
     refine⟨_,rfl,?_,rfl,rfl,rfl⟩
     exact⟨by omega,by have:=qJ6 h1;omega⟩
    ·cases h
   ·cases h
  ·cases h
 ·cases h
def zD0 (ob:Nat→Option Ob) (x:V):Option V:=match x with
 | .pv (.slice es)=>some (.pv (.int (.ofNat es.length)))
 | .pv .nils=>some (.pv (.int 0))
 | .arr n ver len=>match ob n with
  | some (.arr ver' _ _ _)=>bif Nat.beq ver ver' then some (.pv (.int (.ofNat len))) else none
  | _=>none
 | _=>none
theorem zWa {ob:Nat→Option Ob} {x y:V} (h:zD0 ob x=some y):Got (qKx ob x) y:=by
 unfold zD0 at h
 unfold qKx
 split at h
 ·cases h;exact⟨_,rfl,trivial,rfl,rfl,rfl⟩
 ·cases h;exact⟨_,rfl,trivial,rfl,rfl,rfl⟩
 ·split at h
  ·rename_i ver' sz ty es eo
   obtain⟨h1,h⟩:=qQe h
   cases h
   simp only [eo]
   exact⟨_,rfl,Nat.eq_of_beq_eq_true h1,rfl,rfl,rfl⟩
  ·cases h
 ·cases h
def qK1 (e:Nat) (te:TI) (ob:Nat→Option Ob) (nx:Nat) (x y:V):Option RB:=match x with
 | .arr n ver len=>match ob n,qAw y with
  | some (.arr ver' sz ty es),some ys=>bif Nat.beq ver ver' && Nat.ble len es.length && Nat.beq ty e && Nat.beq sz te.size && Nat.blt 0 sz && qBi sz ys && qJk ys && Nat.ble (len+ys.length) maxLen && Nat.ble ((len+ys.length) * te.bytes) 140737488355328 then
    some ⟨.arr n (ver+1) (len+ys.length),some (n,.arr (ver+1) sz ty (es.take len++ys)),false⟩ else none
  | _,_=>none
 | .fsl es=>match y with
  | .pv (.slice (y::ys))=>bif qY7 te.size es && qY7 te.size (y::ys) && Nat.blt 0 te.size && Nat.ble (es.length+(y::ys).length) maxLen && Nat.ble ((es.length+(y::ys).length) * te.bytes) 140737488355328 then
    some ⟨.pv (.slice (es++y::ys)),none,false⟩ else none
  | _=>none
 | .pv .nils=>match qAw y with
  | some ys=>bif Nat.blt 0 te.size && qBi te.size ys && qJk ys && Nat.ble ys.length maxLen && Nat.ble (ys.length * te.bytes) 140737488355328 then
    some ⟨.arr nx 1 ys.length,some (nx,.arr 1 te.size e ys),true⟩ else none
  | none=>none
 | _=>none
theorem qNh {e:Nat} {te:TI} {ob:Nat→Option Ob} {nx:Nat} {xo:Operand} {x y:V} {r:RB} (h:qK1 e te ob nx x y=some r) :
  ∃ note,qT0 (qZl e te ob note xo x y) r∧(r.new=true→∃ o,r.wr=some (nx,o)):=by
 unfold qK1 at h
 split at h
 ·rename_i n ver len
  split at h
  ·rename_i ver' sz ty es ys eo ey
   obtain⟨h1,h⟩:=qQe h
   cases h
   simp only [Bool.and_eq_true] at h1
   obtain⟨⟨⟨⟨⟨⟨⟨⟨a1,a2⟩,a3⟩,a4⟩,a5⟩,a6⟩,a7⟩,a8⟩,a9⟩:=h1
   refine⟨.none,?_,by simp⟩
   simp only [qZl,eo,ey]
   exact⟨_,rfl,⟨Nat.eq_of_beq_eq_true a1,Nat.le_of_ble_eq_true a2,Nat.eq_of_beq_eq_true a3,Nat.eq_of_beq_eq_true a4,qJ6 a5,qEl a6,qEm a7,Nat.le_of_ble_eq_true a8,Nat.le_of_ble_eq_true a9⟩,rfl,rfl,rfl⟩
  ·cases h
 ·rename_i es
  split at h
  ·rename_i y ys
   obtain⟨h1,h⟩:=qQe h
   cases h
   simp only [Bool.and_eq_true] at h1
   obtain⟨⟨⟨⟨a1,a2⟩,a3⟩,a4⟩,a5⟩:=h1
   refine⟨.none,?_,by simp⟩
   simp only [qZl]
   exact⟨_,rfl,⟨qBh a1,qBh a2,qJ6 a3,by simp,Nat.le_of_ble_eq_true a4,Nat.le_of_ble_eq_true a5⟩,rfl,rfl,rfl⟩
  ·cases h
 ·split at h
  ·rename_i ys ey
   obtain⟨h1,h⟩:=qQe h
   cases h
   simp only [Bool.and_eq_true] at h1
   obtain⟨⟨⟨⟨a1,a2⟩,a3⟩,a4⟩,a5⟩:=h1
   refine⟨.arr nx te.size e,?_,fun _=>⟨_,rfl⟩⟩
   simp only [qZl,ey]
   exact⟨_,rfl,⟨by first|rfl|trivial,by first|rfl|trivial,qJ6 a1,qEl a2,qEm a3,Nat.le_of_ble_eq_true a4,Nat.le_of_ble_eq_true a5⟩,rfl,rfl,rfl⟩
  ·cases h
 ·cases h
def qGh (te:TI) (ob:Nat→Option Ob) (x:V) (lo hi mx:Option V):Option V:=match x,lo,hi,mx with
 | .pv (.slice es),some (.pv (.int l)),none,none=>match qHp l with
  | some k=>bif Nat.ble k es.length && qY7 te.size es then some (.pv (.slice (es.drop k))) else none
  | none=>none
 | .pv (.slice es),none,some (.pv (.int h)),none=>match qHp h with
  | some k=>bif Nat.ble k es.length then some (.pv (.slice (es.take k))) else none
  | none=>none
 | .arr n ver len,none,some (.pv (.int h)),none=>match qHp h,ob n with
  | some k,some (.arr ver' _ _ _)=>bif Nat.beq ver ver' && Nat.ble k len then some (.arr n ver k) else none
  | _,_=>none
 | .pv (.slice es),none,some (.pv (.int h)),some (.pv (.int m))=>match qHp h,qHp m with
  | some k,some l=>bif Nat.beq k es.length && Nat.beq l es.length then some (.fsl es) else none
  | _,_=>none
 | .pv .nils,lo,hi,mx=>bif qD1 lo && qD1 hi && qD1 mx && (!mx.isSome || hi.isSome) then some (.pv .nils) else none
 | _,_,_,_=>none
theorem qPf {te:TI} {ob:Nat→Option Ob} {x y:V} {lo hi mx:Option V} (h:qGh te ob x lo hi mx=some y):Got (qJt te ob x lo hi mx) y:=by
 unfold qGh at h
 unfold qJt
 split at h
 ·split at h
  ·rename_i k ek
   have hz:=qWs ek
   subst hz
   obtain⟨h1,h⟩:=qQe h
   cases h
   simp only [Bool.and_eq_true] at h1
   have h2:=Nat.le_of_ble_eq_true h1.1
   refine⟨_,rfl,?_,by simp [R.ofIf],rfl,rfl⟩
   exact⟨by omega,by omega,qBh h1.2⟩
  ·cases h
 ·split at h
  ·rename_i k ek
   have hz:=qWs ek
   subst hz
   obtain⟨h1,h⟩:=qQe h
   cases h
   have h2:=Nat.le_of_ble_eq_true h1
   refine⟨_,rfl,?_,by simp [R.ofIf],rfl,rfl⟩
   exact⟨by omega,by omega⟩
  ·cases h
 ·split at h
  ·rename_i k ver' sz ty es ek eo
   have hz:=qWs ek
   subst hz
   obtain⟨h1,h⟩:=qQe h
   cases h
   simp only [Bool.and_eq_true] at h1
   have h2:=Nat.le_of_ble_eq_true h1.2
   simp only [eo]
   refine⟨_,rfl,?_,by simp [R.ofIf],rfl,rfl⟩
   exact⟨Nat.eq_of_beq_eq_true h1.1,by omega,by omega⟩
  ·cases h
 ·split at h
  ·rename_i k l ek el
   have hz:=qWs ek
   have hz':=qWs el
   subst hz hz'
   obtain⟨h1,h⟩:=qQe h
   cases h
   simp only [Bool.and_eq_true] at h1
   have h2:=Nat.eq_of_beq_eq_true h1.1
   have h3:=Nat.eq_of_beq_eq_true h1.2
   refine⟨_,rfl,?_,rfl,rfl,rfl⟩
   exact⟨by omega,by omega⟩
  ·cases h
 ·obtain⟨h1,h⟩:=qQe h
  cases h
  simp only [h1,cond_true]
  exact⟨_,rfl,trivial,rfl,rfl,rfl⟩
 ·cases h
def qPg (fs:List (Nat × Nat)) (cells:List V):List (Nat × V)→Option (List V)
 | []=>some cells
 | (i,x)::rest=>match qXx fs i with
  | some (off,size)=>match qVl x with
   | some ys=>bif Nat.beq ys.length size then (match qS8 cells off ys with
    | some r=>qPg fs r rest
    | none=>none) else none
   | none=>none
  | none=>none
theorem qEn {fs:List (Nat × Nat)} : ∀ {l:List (Nat × V)} {cells cs:List V},qPg fs cells l=some cs→qY2 fs cells l=some cs
 | [],_,_,h=>h
 | (i,x)::rest,cells,cs,h=>by
  unfold qPg at h
  unfold qY2
  rw [qJy] at h
  split at h
  ·rename_i off size ei
   split at h
   ·rename_i ys ex
    obtain⟨h1,h⟩:=qQe h
    have h1:=Nat.eq_of_beq_eq_true h1
    split at h
    ·rename_i r hr
     obtain⟨h2,h3⟩:=qEk cells off ys r hr
     simp only [ei,ex]
     rw [if_pos ⟨h1,by omega⟩]
     have:qDy cells off ys=r:=by rw [h3];rfl
     rw [this]
     exact qEn h
    ·cases h
   ·cases h
  ·cases h
def qLq:Nat→List (Nat × V)→Option (List (List V))
 | _,[]=>some []
 | k,(i,x)::rest=>bif Nat.beq i k then (match qVl x with
   | some cs=>match qLq (Nat.succ k) rest with
    | some es=>some (cs::es)
    | none=>none
   | none=>none) else none
theorem qGi:∀ {l:List (Nat × V)} {k:Nat} {es:List (List V)},qLq k l=some es→qZ8 k l=some es
 | [],_,_,h=>h
 | (i,x)::rest,k,es,h=>by
  unfold qLq at h
  unfold qZ8
  obtain⟨h1,h⟩:=qQe h
  rw [if_pos (Nat.eq_of_beq_eq_true h1)]
  split at h
  ·rename_i cs ec
   split at h
   ·rename_i es' ee
    cases h
    simp only [ec,qGi ee]
   ·cases h
  ·cases h
def zYz (e:Nat) (te:TI) (nx len:Nat) (es:List (List V)):Option RB :=
 bif Nat.beq es.length len && Nat.ble len 16777216 && Nat.ble (len * te.size) 16777216 && qBi te.size es then (match unE es with
  | some ps=>some ⟨.pv (.slice ps),none,false⟩
  | none=>some ⟨.arr nx 0 len,some (nx,.arr 0 te.size e es),true⟩) else none
theorem zWb {e:Nat} {te:TI} {nx len:Nat} {es:List (List V)} {r:RB} (h:zYz e te nx len es=some r):∃ note,qT0 (qHt e te note len es) r∧(r.new=true→∃ o,r.wr=some (nx,o)):=by
 unfold zYz at h
 obtain⟨h1,h⟩:=qQe h
 simp only [Bool.and_eq_true] at h1
 obtain⟨⟨⟨a1,a2⟩,a3⟩,a4⟩:=h1
 have hc:=And.intro (Nat.eq_of_beq_eq_true a1) (And.intro (Nat.le_of_ble_eq_true a2) (And.intro (Nat.le_of_ble_eq_true a3) (qEl a4)))
 split at h
 ·rename_i ps ep
  cases h
  refine⟨.none,⟨_,rfl,hc,?_,rfl,rfl⟩,by simp⟩
  simp [R.ofIf,qXz,ep]
 ·cases h
  exact⟨.arr nx te.size e,⟨_,rfl,⟨hc,rfl,rfl⟩,rfl,rfl,rfl⟩,fun _=>⟨_,rfl⟩⟩
def qPh (T:Nat→Option TI) (nx t:Nat):Option RB:=match T t with
 | some ti=>some ⟨.loc nx 0,some (nx,.box (pvL ti.zc)),true⟩
 | none=>none
def zD1 (nx:Nat) (x:V):Option RB:=match qVl x with
 | some cs=>bif zZu cs then some ⟨.loc nx 0,some (nx,.box cs),true⟩ else none
 | none=>none
def qPi (T:Nat→Option TI) (t:Nat) (ps:List (Nat × V)):Option V:=match T t with
 | some ⟨.struct fs _,_,_,_,zc⟩=>match qPg fs (pvL zc) ps with
  | some cs=>some (zYx cs)
  | none=>none
 | some ⟨.array m e,_,_,_,zc⟩=>match T e with
  | some te=>match qPg (qVb te.size m 0) (pvL zc) ps with
   | some cs=>some (zYx cs)
   | none=>none
  | none=>none
 | _=>none
def qLr (x:V) (i:Nat):Option V:=match x with
 | .pv (.tuple cs)=>match qXx cs i with
  | some c=>some (.pv c)
  | none=>none
 | .tuple cs=>qXx cs i
 | _=>none
def qY8:IntKind→IntKind→Bool
 | .u8,.u8=>true
 | .u32,.u32=>true
 | .i32,.i32=>true
 | _,_=>false
theorem qT1 {a b:IntKind} (h:qY8 a b=true):a=b:=by cases a<;>cases b<;>first|rfl|cases h
def qLs (x:Int):Option Int:=bif inB x then some x else none
def qGj (k:IntKind) (x:Int):Option V:=match qLs x with
 | some y=>some (.pv (.num k y))
 | none=>none
theorem qEo {k:IntKind} {x:Int} {v:V} (h:qGj k x=some v):v = .pv (.num k x):=by
 unfold qGj qLs at h
 cases e:inB x with
 | true=>rw [e] at h;cases h;rfl
 | false=>rw [e] at h;cases h
def zWc (op:BinOp) (k:IntKind) (a b:Int):Option V:=match op with
 | .add=>qGj k (k.wrap (a+b))
 | .sub=>qGj k (k.wrap (a-b))
 | .and=>qGj k (qQq .and k a b)
 | .or=>qGj k (qQq .or k a b)
 | .andNot=>qGj k (qQq .andNot k a b)
 | .lss=>some (bv (ltI a b))
 | .leq=>some (bv (!ltI b a))
 | .gtr=>some (bv (ltI b a))
 | .geq=>some (bv (!ltI a b))
 | .eql=>some (bv (eqI a b))
 | .neq=>some (bv (!eqI a b))
 | _=>none
theorem zWd {op:BinOp} {k:IntKind} {a b:Int} {x:V} (h:zWc op k a b=some x):Got (qD0 op k a b) x:=by
 have hb:∀ c d:Bool,c=d→some (bv c)=some x→Got (qZ6 d) x:=by
  intro c d e hc
  subst e
  cases hc
  exact⟨_,rfl,trivial,rfl,rfl,rfl⟩
 have hv:∀ c:Int,qGj k c=some x→Got (some (R.of (.pv (.num k c)))) x:=by
  intro c hc
  rw [qEo hc]
  exact⟨_,rfl,trivial,rfl,rfl,rfl⟩
 cases op<;>simp only [zWc] at h<;>try cases h<;>done
 case add=>exact hv _ h
 case sub=>exact hv _ h
 case and=>exact hv _ h
 case or=>exact hv _ h
 case andNot=>exact hv _ h
 case lss=>exact hb _ _ (qQs a b) h
 case leq=>exact hb _ _ (by rw [qQs];by_cases hh:b<a<;>simp [hh]<;>omega) h
 case gtr=>exact hb _ _ (qQs b a) h
 case geq=>exact hb _ _ (by rw [qQs];by_cases hh:a<b<;>simp [hh]<;>omega) h
 case eql=>exact hb _ _ (qVd a b) h
 case neq=>exact hb _ _ (by rw [qVd]) h
def qDh (op:BinOp) (k:IntKind) (a n:Int):Option V:=match op with
 | .shl=>bif ltI n 0 then none else qGj k (k.wrap (a * 2 ^ (min n.toNat k.bits)))
 | .shr=>bif ltI n 0 then none else qGj k (a.fdiv (2 ^ (min n.toNat k.bits)))
 | _=>none
theorem qPj {op:BinOp} {k:IntKind} {a n:Int} {x:V} (h:qDh op k a n=some x):Got (qK9 op k a n) x:=by
 have hv:∀ c:Int,(bif ltI n 0 then none else qGj k c)=some x→Got (some (R.ofIf (0≤n) (.pv (.num k c)))) x:=by
  intro c hc
  cases e:ltI n 0 with
  | true=>rw [e] at hc;cases hc
  | false =>
   rw [e] at hc
   rw [qEo hc]
   rw [qQs] at e
   exact⟨_,rfl,(show 0≤n by simpa using e),rfl,rfl,rfl⟩
 cases op<;>simp only [qDh] at h<;>try cases h<;>done
 case shl=>exact hv _ h
 case shr=>exact hv _ h
def zWe (k:TK) (op:BinOp) (x y:V) (yo:Operand):Option V:=match x,y with
 | .pv (.int a),.pv (.int b)=>zZt op a b
 | .pv (.num j a),.pv (.num j' b)=>bif qY8 j j' then zWc op j a b else none
 | .pv (.num j a),.pv (.int n)=>qDh op j a n
 | .pv (.str a),.pv (.str b)=>match op with
  | .eql=>some (bv (eqL a b))
  | .neq=>some (bv (!eqL a b))
  | _=>none
 | x,y=>match op with
  | .eql=>match qCx k x y yo with
   | some b=>some (bv b)
   | none=>none
  | .neq=>match qCx k x y yo with
   | some b=>some (bv (!b))
   | none=>none
  | _=>none
theorem zWf {k:TK} {op:BinOp} {x y z:V} {yo:Operand} (h:zWe k op x y yo=some z):Got (qWk k op x y yo) z:=by
 have hb:∀ c:Bool,some (bv c)=some z→Got (qZ6 c) z:=by
  intro c hc
  cases hc
  exact⟨_,rfl,trivial,rfl,rfl,rfl⟩
 unfold zWe at h
 split at h
 ·exact zV8 h
 ·rename_i j a j' b
  have h1:=qT1 (qQe h).1
  replace h:=(qQe h).2
  subst h1
  simp only [qWk,if_true]
  exact zWd h
 ·simp only [qWk]
  exact qPj h
 ·simp only [qWk]
  split at h
  ·exact hb _ h
  ·exact hb _ h
  ·cases h
 ·rename_i hne hne2 hne4 hne3
  have key:∀ b,qCx k x y yo=some b→((op = .eql∧z=bv b)∨(op = .neq∧z=bv (!b)))→Got (qWk k op x y yo) z:=by
   intro b hb2 hop
   unfold qWk
   split
   ·rename_i a b';exact (hne a b' rfl rfl).elim
   ·rename_i j a j' b';exact (hne2 j a j' b' rfl rfl).elim
   ·rename_i j a n;exact (hne4 j a n rfl rfl).elim
   ·rename_i a b';exact (hne3 a b' rfl rfl).elim
   ·rcases hop with ⟨rfl,rfl⟩|⟨rfl,rfl⟩<;>simp only [hb2]<;>exact⟨_,rfl,trivial,rfl,rfl,rfl⟩
  split at h
  ·split at h
   ·rename_i b' hb';cases h;exact key b' hb' (.inl ⟨rfl,rfl⟩)
   ·cases h
  ·split at h
   ·rename_i b' hb';cases h;exact key b' hb' (.inr ⟨rfl,rfl⟩)
   ·cases h
  ·cases h
def qGk:Bool→Bool→Bool
 | true,b=>b
 | false,true=>false
 | false,false=>true
theorem qXm {a b:Bool} (h:qGk a b=true):a=b:=by cases a<;>cases b<;>first|rfl|cases h
def qT2 (s:Bool) (ob:Nat→Option Ob) (m k v:V):Option RB:=match m with
 | .map n=>match zX0 k with
  | some a=>match ob n with
   | some (.smap s' es)=>bif qGk s' s && qGk a.kind s && v.one then some ⟨.undef,some (n,.smap s' (qFs es a v)),false⟩ else none
   | _=>none
  | none=>none
 | _=>none
theorem qAg {s:Bool} {ob:Nat→Option Ob} {m k v:V} {r:RB} (h:qT2 s ob m k v=some r):qT0 (qQ9 s ob m k v) r∧r.new=false ∧ ∃ n,(∃ o,r.wr=some (n,o))∧(ob n).isSome=true:=by
 unfold qT2 at h
 split at h
 ·rename_i n
  split at h
  ·rename_i a ea
   split at h
   ·rename_i s' es eo
    have h1:=(qQe h).1
    cases (qQe h).2
    simp only [Bool.and_eq_true] at h1
    refine⟨?_,rfl,n,⟨_,rfl⟩,by rw [eo];rfl⟩
    simp only [qQ9,ea,eo]
    exact⟨_,rfl,⟨qXm h1.1.1,qXm h1.1.2,h1.2⟩,rfl,rfl,rfl⟩
   ·cases h
  ·cases h
 ·cases h
def qPk (s ok:Bool) (z:PV) (ob:Nat→Option Ob) (m k:V):Option V:=match m with
 | .map n=>match zX0 k with
  | some a=>match ob n with
   | some (.smap s' es)=>bif qGk s' s && qGk a.kind s then (match qLi es a,ok with
    | some x,true=>some (.tuple [x,.pv (.bool true)])
    | none,true=>some (.pv (.tuple [z,.bool false]))
    | some x,false=>some x
    | none,false=>some (.pv z)) else none
   | _=>none
  | none=>none
 | _=>none
theorem qPl {s ok:Bool} {z:PV} {ob:Nat→Option Ob} {m k x:V} (h:qPk s ok z ob m k=some x):Got (qJf s ok z ob m k) x:=by
 unfold qPk at h
 split at h
 ·rename_i n
  split at h
  ·rename_i a ea
   split at h
   ·rename_i s' es eo
    have h1:=(qQe h).1
    replace h:=(qQe h).2
    simp only [Bool.and_eq_true] at h1
    simp only [qJf,ea,eo]
    refine⟨_,rfl,⟨qXm h1.1,qXm h1.2⟩,?_,rfl,rfl⟩
    cases hg:qLi es a<;>cases ok<;>rw [hg] at h<;>cases h<;>rfl
   ·cases h
  ·cases h
 ·cases h
def zWg:V→Option V
 | .pv (.str l)=>some (.pv (.int (.ofNat l.length)))
 | _=>none
theorem qT3 {x y:V} (h:zWg x=some y):Got (qD2 x) y:=by
 unfold zWg at h
 split at h
 ·cases h;exact⟨_,rfl,trivial,rfl,rfl,rfl⟩
 ·cases h
def qIk (x i:V):Option V:=match x with
 | .pv (.str l)=>match i with
  | .pv (.int z)=>match qHp z with
   | some k=>match qXx l k with
    | some b=>some (.pv (.num .u8 (.ofNat b)))
    | none=>none
   | none=>none
  | _=>none
 | _=>none
theorem qNi {x i y:V} (h:qIk x i=some y):Got (qX0 x i) y:=by
 unfold qIk at h
 split at h
 ·rename_i l
  split at h
  ·rename_i z
   split at h
   ·rename_i k ek
    have hz:=qWs ek
    subst hz
    split at h
    ·rename_i b hb
     cases h
     rw [qJy] at hb
     have hlt:k<l.length:=(List.getElem?_eq_some_iff.1 hb).1
     have hg:l.getD k 0=b:=by rw [List.getD_eq_getElem?_getD,hb];rfl
     refine⟨_,rfl,⟨by omega,by omega⟩,?_,rfl,rfl⟩
     simp only [R.ofIf,Int.toNat_natCast,hg]
     rfl
    ·cases h
   ·cases h
  ·cases h
 ·cases h
def qLt (d:Nat):Option V→Option Nat
 | none=>some d
 | some (.pv (.int k))=>qHp k
 | _=>none
theorem qGl {d n:Nat} {x:Option V} (h:qLt d x=some n):qXc (d:Int) x=some (n:Int):=by
 unfold qLt at h
 unfold qXc
 split at h
 ·cases h;rfl
 ·simp only [qWs h]
 ·cases h
def qIl (x:V) (lo hi mx:Option V):Option V:=match x with
 | .pv (.str l)=>match mx with
  | none=>match qLt 0 lo,qLt l.length hi with
   | some a,some b=>bif Nat.ble a b && Nat.ble b l.length then (match qNg (qGf l a) (b-a) with
    | some r=>some (.pv (.str r))
    | none=>none) else none
   | _,_=>none
  | some _=>none
 | _=>none
theorem qNj {x y:V} {lo hi mx:Option V} (h:qIl x lo hi mx=some y):Got (qKa x lo hi mx) y:=by
 unfold qIl at h
 split at h
 ·rename_i l
  split at h
  ·split at h
   ·rename_i a b ea eb
    have h1:=(qQe h).1
    replace h:=(qQe h).2
    simp only [Bool.and_eq_true] at h1
    have h2:=Nat.le_of_ble_eq_true h1.1
    have h3:=Nat.le_of_ble_eq_true h1.2
    split at h
    ·rename_i r hr
     cases h
     rw [qAf,qAe] at hr
     split at hr
     ·cases hr
      have ea':=qGl ea
      have eb':=qGl eb
      have ea'':qXc 0 lo=some (a:Int):=ea'
      simp only [qKa,ea'',eb']
      refine⟨_,rfl,⟨by omega,by omega,by omega⟩,?_,rfl,rfl⟩
      have:((b:Int)-(a:Int)).toNat=b-a:=by omega
      simp [R.ofIf,this]
     ·cases hr
    ·cases h
   ·cases h
  ·cases h
 ·cases h
def qLu (nx:Nat):V→Option RB
 | .pv (.str l)=>some ⟨.loc nx 0,some (nx,.siter l 0),true⟩
 | _=>none
def zWh (ob:Nat→Option Ob):V→Option RB
 | .loc n 0=>match ob n with
  | some (.siter l p)=>match qXx l p with
   | some b=>bif Nat.blt b 128 then some ⟨.pv (.tuple [.bool true,.int (.ofNat p),.num .i32 (.ofNat b)]),some (n,.siter l (p+1)),false⟩ else none
   | none=>some ⟨.pv (.tuple [.bool false]),none,false⟩
  | _=>none
 | _=>none
theorem qLv {ob:Nat→Option Ob} {x:V} {r:RB} (h:zWh ob x=some r):qT0 (qW9 ob x) r∧r.new=false ∧ ∀ n o,r.wr=some (n,o)→(ob n).isSome=true:=by
 unfold zWh at h
 split at h
 ·rename_i n
  split at h
  ·rename_i l p eo
   rw [qJy] at h
   split at h
   ·rename_i b hb
    have h1:=qJ6 (qQe h).1
    cases (qQe h).2
    refine⟨?_,rfl,fun n' o e=>by cases e;rw [eo];rfl⟩
    simp only [qW9,eo,hb]
    exact⟨_,rfl,h1,rfl,rfl,rfl⟩
   ·rename_i hb
    cases h
    refine⟨?_,rfl,fun n' o e=>by cases e⟩
    simp only [qW9,eo,hb]
    exact⟨_,rfl,trivial,rfl,rfl,rfl⟩
  ·cases h
 ·cases h
def zWi (T:Nat→Option TI) (s t:Nat) (x:V):Option V:=match T s with
 | some _=>match T t with
  | some ⟨.num k,_,_,_,_⟩=>match x with
   | .pv (.num _ n)=>qGj k (k.wrap n)
   | .pv (.int n)=>qGj k (k.wrap n)
   | _=>none
  | some ⟨.int,_,_,_,_⟩=>match x with
   | .pv (.num _ n)=>qN8 (IntKind.i64.wrap n)
   | .pv (.int n)=>qN8 (IntKind.i64.wrap n)
   | _=>none
  | _=>none
 | none=>none
def qPm (T:Nat→Option TI) (s t:Nat) (x:V):Option V:=match T s with
 | some ⟨.str,_,_,_,_⟩=>match T t with
  | some ⟨.slice e,_,_,_,_⟩=>match x with
   | .pv (.str l)=>match T e with
    | some ⟨.num .u8,_,_,_,_⟩=>bif Nat.ble l.length maxLen then some (.pv (.slice (qWn l))) else none
    | _=>none
   | _=>none
  | _=>none
 | _=>none
theorem qPn {x:Int} {v:V} (h:qN8 x=some v):v = .pv (.int x):=by
 unfold qN8 at h
 cases e:inB x with
 | true=>rw [e] at h;cases h;rfl
 | false=>rw [e] at h;cases h
theorem qT4 {T:Nat→Option TI} {s t:Nat} {x y:V} : zWi T s t x=some y→Got (match T s,T t,x with
  | some _,some ⟨.num k,_,_,_,_⟩,.pv (.num _ n)=>some (R.of (.pv (.num k (k.wrap n))))
  | some _,some ⟨.num k,_,_,_,_⟩,.pv (.int n)=>some (R.of (.pv (.num k (k.wrap n))))
  | some _,some ⟨.int,_,_,_,_⟩,.pv (.num _ n)=>some (R.of (.pv (.int (IntKind.i64.wrap n))))
  | some _,some ⟨.int,_,_,_,_⟩,.pv (.int n)=>some (R.of (.pv (.int (IntKind.i64.wrap n))))
  | some ⟨.str,_,_,_,_⟩,some ⟨.slice e,_,_,_,_⟩,.pv (.str l)=>match T e with
   | some ⟨.num .u8,_,_,_,_⟩=>some (R.ofIf (l.length≤maxLen) (.pv (.slice (qWn l))))
   | _=>none
  | _,_,_=>none) y:=by
 intro h
 unfold zWi at h
 split at h
 ·rename_i si es
  split at h
  ·rename_i k a b c d et
   split at h
   ·simp only [es,et];rw [qEo h];exact⟨_,rfl,trivial,rfl,rfl,rfl⟩
   ·simp only [es,et];rw [qEo h];exact⟨_,rfl,trivial,rfl,rfl,rfl⟩
   ·cases h
  ·rename_i a b c d et
   split at h
   ·simp only [es,et];rw [qPn h];exact⟨_,rfl,trivial,rfl,rfl,rfl⟩
   ·simp only [es,et];rw [qPn h];exact⟨_,rfl,trivial,rfl,rfl,rfl⟩
   ·cases h
  ·cases h
 ·cases h
theorem qPo {T:Nat→Option TI} {s t:Nat} {x y:V} : qPm T s t x=some y→Got (match T s,T t,x with
  | some _,some ⟨.num k,_,_,_,_⟩,.pv (.num _ n)=>some (R.of (.pv (.num k (k.wrap n))))
  | some _,some ⟨.num k,_,_,_,_⟩,.pv (.int n)=>some (R.of (.pv (.num k (k.wrap n))))
  | some _,some ⟨.int,_,_,_,_⟩,.pv (.num _ n)=>some (R.of (.pv (.int (IntKind.i64.wrap n))))
  | some _,some ⟨.int,_,_,_,_⟩,.pv (.int n)=>some (R.of (.pv (.int (IntKind.i64.wrap n))))
  | some ⟨.str,_,_,_,_⟩,some ⟨.slice e,_,_,_,_⟩,.pv (.str l)=>match T e with
   | some ⟨.num .u8,_,_,_,_⟩=>some (R.ofIf (l.length≤maxLen) (.pv (.slice (qWn l))))
   | _=>none
  | _,_,_=>none) y:=by
 intro h
 unfold qPm at h
 split at h
 ·rename_i es
  split at h
  ·rename_i et
   split at h
   ·split at h
    ·rename_i ee
     simp only [es,et,ee]
     rename_i l _ _ _ _ _ _
     cases e:Nat.ble _ maxLen with
     | true=>rw [e] at h;cases h;exact⟨_,rfl,Nat.le_of_ble_eq_true e,rfl,rfl,rfl⟩
     | false=>rw [e] at h;cases h
    ·cases h
   ·cases h
  ·cases h
 ·cases h
def qIm (ti:TI) (t:Nat) (ok:Bool) (x:V):Option V:=match x with
 | .pv (.iface t' p)=>bif Nat.beq t' t then (match ok with
   | true=>some (.pv (.tuple [p,.bool true]))
   | false=>some (.pv p))
  else (match ok with
   | true=>match qCz ti with
    | some z=>some (.pv (.tuple [z,.bool false]))
    | none=>none
   | false=>none)
 | .pv .nilif=>match ok with
   | true=>match qCz ti with
    | some z=>some (.pv (.tuple [z,.bool false]))
    | none=>none
   | false=>none
 | _=>none
theorem qNk {ti:TI} {t:Nat} {ok:Bool} {x y:V} (h:qIm ti t ok x=some y):Got (qW8 ti t ok x) y:=by
 unfold qIm at h
 unfold qW8
 split at h
 ·rename_i t' p
  simp only
  cases e:Nat.beq t' t with
  | true =>
   rw [e] at h
   simp only [cond_true] at h
   rw [if_pos (Nat.eq_of_beq_eq_true e)]
   cases ok<;>cases h<;>exact⟨_,rfl,trivial,rfl,rfl,rfl⟩
  | false =>
   rw [e] at h
   simp only [cond_false] at h
   have hne:¬ t'=t:=fun e'=>by rw [qIi e'] at e;cases e
   rw [if_neg hne]
   cases ok with
   | false=>cases h
   | true =>
    simp only at h
    split at h
    ·rename_i z ez
     cases h
     simp only [ez]
     exact⟨_,rfl,trivial,rfl,rfl,rfl⟩
    ·cases h
 ·cases ok with
  | false=>cases h
  | true =>
   simp only at h
   split at h
   ·rename_i z ez
    cases h
    simp only [ez]
    exact⟨_,rfl,trivial,rfl,rfl,rfl⟩
   ·cases h
 ·cases h
def zGw (x:V):Option V:=match x with
 | .pv (.ptr cs)=>some (.pv (.ptr cs))
 | .pv (.nptr cs)=>some (.pv (.nptr cs))
 | .loc n off=>some (.loc n off)
 | .eloc n v i o=>some (.eloc n v i o)
 | _=>none
def zZv (T:Nat→Option TI) (t f:Nat) (x:V):Option V:=match T t with
 | some ⟨.struct fs _,_,_,_,_⟩=>match fs[f]? with
  | some (off,size)=>bif Nat.beq size 0 then none else qWl x off
  | none=>none
 | _=>none
def qPp (T:Nat→Option TI) (t f:Nat) (x:V):Option V:=match T t with
 | some ⟨.struct fs pl,_,_,_,_⟩=>bif pl.elem f then (match fs[f]? with
  | some (off,_)=>(match x with
   | .pv (.agg cs)=>(match cs[off]? with|some c=>some (.pv c)|none=>none)
   | .agg cs=>cs[off]?
   | _=>none)
  | none=>none) else none
 | _=>none
def ro (x:Option V):Option RB:=match x with
 | some v=>some ⟨v,none,false⟩
 | none=>none
def opE (T:Nat→Option TI) (nx:Nat) (val:Operand→V) (ob:Nat→Option Ob) (dst:Option Nat) (op:Op):Option RB:=match op with
 | .move x=>rb (val x)
 | .assign x=>rb (val x)
 | .pick c a b=>match val c with
  | .pv (.bool true)=>rb (val a)
  | .pv (.bool false)=>rb (val b)
  | _=>none
 | .alloc t=>qPh T nx t
 | .box _ x=>zD1 nx (val x)
 | .build t parts=>ro (qPi T t (parts.toList.map fun p=>(p.1,val p.2)))
 | .makeFunc (.func f) first caps=>match first.toList with
  | []=>rb (.fn f (caps.toList.map val))
  | a::l=>match caps.toList with
   | []=>rb (.bfn f ((a::l).map val))
   | _::_=>none
 | .buildSlice t len parts=>match T t with
  | some ⟨.slice e,_,_,_,_⟩=>match T e with
   | some te=>match qLq 0 (parts.toList.map fun p=>(p.1,val p.2)) with
    | some es=>zYz e te nx len es
    | none=>none
   | none=>none
  | _=>none
 | .load t x=>match T t with
  | some ti=>ro (zV9 ti ob (val x))
  | none=>none
 | .store t x y=>match dst with
  | none=>match T t with
   | some ti=>qBk ti ob (val x) (val y)
   | none=>none
  | some _=>none
 | .nilCheck x=>ro (zGw (val x))
 | .binOp b t x y _=>match T t with
  | some ti=>ro (zWe ti.k b (val x) (val y) y)
  | none=>none
 | .unOp .not _ x=>match val x with
  | .pv (.bool b)=>rb (bv (!b))
  | _=>none
 | .makeInterface t x=>match T t with
  | some ti=>match val x with
   | .pv p=>bif ti.k.isIface then none else rb (.pv (.iface t p))
   | _=>none
  | none=>none
 | .fieldAddr t x f=>ro (zZv T t f (val x))
 | .field t x f=>ro (qPp T t f (val x))
 | .indexAddr t x i=>ro (qLp T ob t (val x) (val i))
 | .extract x i=>ro (qLr (val x) i)
 | .range t x=>match T t with
  | some ⟨.str,_,_,_,_⟩=>qLu nx (val x)
  | _=>none
 | .next x true=>zWh ob (val x)
 | .index t x i=>match T t with
  | some ⟨.str,_,_,_,_⟩=>ro (qIk (val x) (val i))
  | _=>none
 | .convert s t x=>ro (match zWi T s t (val x) with
  | some y=>some y
  | none=>qPm T s t (val x))
 | .typeAssert x _ t ok=>match T t with
  | some ti=>bif ti.k.isIface then none else ro (qIm ti t ok (val x))
  | none=>none
 | .makeMap t none=>match T t with
  | some ⟨.smap _ _ s,_,_,_,_⟩=>some ⟨.map nx,some (nx,.smap s []),true⟩
  | _=>none
 | .mapUpdate t m k v=>match dst with
  | none=>match T t with
   | some ⟨.smap _ _ s,_,_,_,_⟩=>qT2 s ob (val m) (val k) (val v)
   | _=>none
  | some _=>none
 | .insert t m k v=>match dst with
  | none=>match T t with
   | some ⟨.smap _ _ s,_,_,_,_⟩=>qT2 s ob (val m) (val k) (val v)
   | _=>none
  | some _=>none
 | .lookup t m k ok=>match T t with
  | some ⟨.smap _ vt s,_,_,_,_⟩=>match T vt with
   | some tv=>match zZp tv.zero with
    | some z=>ro (qPk s ok z ob (val m) (val k))
    | none=>none
   | none=>none
  | _=>none
 | .slice t x lo hi mx=>match T t with
  | some ⟨.slice e,_,_,_,_⟩=>match T e with
   | some te=>ro (qGh te ob (val x) (lo.map val) (hi.map val) (mx.map val))
   | none=>none
  | some ⟨.str,_,_,_,_⟩=>ro (qIl (val x) (lo.map val) (hi.map val) (mx.map val))
  | _=>none
 | .call { callee:=.builtin .len,args,argTypes } => match argTypes.toList,args.toList with
  | [t],[x]=>match T t with
   | some ⟨.slice _,_,_,_,_⟩=>ro (zD0 ob (val x))
   | some ⟨.str,_,_,_,_⟩=>ro (zWg (val x))
   | _=>none
  | _,_=>none
 | .call { callee:=.builtin .append,args,argTypes } => match argTypes.toList,args.toList with
  | [t,t'],[x,y]=>bif Nat.beq t t' then (match T t with
    | some ⟨.slice e,_,_,_,_⟩=>match T e with
     | some te=>qK1 e te ob nx (val x) (val y)
     | none=>none
    | _=>none) else none
  | _,_=>none
 | .call { callee:=.builtin .max,args,argTypes:=_ } => match args.toList with
  | [x,y]=>match val x,val y with
   | .pv (.int a),.pv (.int b)=>rb (.pv (.int (bif ltI a b then b else a)))
   | _,_=>none
  | _=>none
 | _=>none
theorem qBl {x:V} {r:RB} (h:rb x=some r) {f:Prop} : qT0 (some ⟨True,f,x,none,false⟩) r:=by
 cases h
 exact⟨_,rfl,trivial,rfl,rfl,rfl⟩
theorem qWt {o:Option V} {r:RB} (h:ro o=some r):∃ v,o=some v∧r=⟨v,none,false⟩:=by
 unfold ro at h
 split at h
 ·cases h;exact⟨_,rfl,rfl⟩
 ·cases h
theorem qXn {x:V} {r:RB} (h:rb x=some r) {nx:Nat} : r.new=true→∃ q,r.wr=some (nx,q):=by
 cases h
 simp
theorem qPq {T:Nat→Option TI} {t:Nat} {ps:List (Nat × V)} {x:V} (h:qPi T t ps=some x) :
  Got (match T t with
  | some ⟨.struct fs _,_,_,_,zc⟩=>(qY2 fs (pvL zc) ps).map (fun cs=>R.of (qY1 cs))
  | some ⟨.array m e,_,_,_,zc⟩=>match T e with
   | some te=>(qY2 (qVb te.size m 0) (pvL zc) ps).map (fun cs=>R.of (qY1 cs))
   | none=>none
  | _=>none) x:=by
 unfold qPi at h
 split at h
 ·rename_i fs pl a b c zc et
  try simp only [et]
  split at h
  ·rename_i cs ec
   cases h
   rw [qEn ec,qIj]
   exact⟨_,rfl,trivial,rfl,rfl,rfl⟩
  ·cases h
 ·rename_i m e a b c zc et
  try simp only [et]
  split at h
  ·rename_i te ee
   try simp only [ee]
   split at h
   ·rename_i cs ec
    cases h
    rw [qEn ec,qIj]
    exact⟨_,rfl,trivial,rfl,rfl,rfl⟩
   ·cases h
  ·cases h
 ·cases h
theorem zZw {T:Nat→Option TI} {nx:Nat} {val:Operand→V} {ob:Nat→Option Ob} {dst:Option Nat} {op:Op} {r:RB} (h:opE T nx val ob dst op=some r) :
  ∃ note,qT0 (qQb T note val ob dst op) r∧(r.new=true→∃ o,r.wr=some (nx,o)):=by
 unfold opE at h
 split at h
 ·refine⟨.none,?_,qXn h⟩
  simp only [qQb,qJ4]
  exact qBl h
 ·refine⟨.none,?_,qXn h⟩
  simp only [qQb,qJ4]
  exact qBl h
 ·rename_i c a b
  have key:∀ (bb:Bool),val c = .pv (.bool bb)→rb (bif bb then val a else val b)=some r→qT0 (qQb T .none val ob dst (.pick c a b)) r:=by
   intro bb hc hr
   simp only [qQb,hc]
   cases bb<;>simp only [cond_true,cond_false] at hr
   ·split
    ·rename_i e1 e2 e3;rw [e3] at hr;cases e1;exact qBl hr
    ·rename_i e1 _;cases e1
    ·exact qBl hr
    ·rename_i h1 h2 h3;exact (h2 rfl).elim
   ·split
    ·rename_i e1 e2 e3;rw [e2] at hr;cases e1;exact qBl hr
    ·exact qBl hr
    ·rename_i e1 _;cases e1
    ·rename_i h1 h2 h3;exact (h1 rfl).elim
  split at h
  ·rename_i hc;exact⟨.none,key true hc h,qXn h⟩
  ·rename_i hc;exact⟨.none,key false hc h,qXn h⟩
  ·cases h
 ·rename_i t
  unfold qPh at h
  split at h
  ·rename_i ti et
   cases h
   refine⟨.box nx,?_,fun _=>⟨_,rfl⟩⟩
   simp only [qQb,et]
   exact⟨_,rfl,trivial,rfl,rfl,rfl⟩
  ·cases h
 ·rename_i t x
  unfold zD1 at h
  split at h
  ·rename_i cs ec
   obtain⟨h1,h⟩:=qQe h
   cases h
   refine⟨.box nx,?_,fun _=>⟨_,rfl⟩⟩
   simp only [qQb,ec]
   rw [if_pos (qBj h1)]
   exact⟨_,rfl,trivial,rfl,rfl,rfl⟩
  ·cases h
 ·rename_i t parts
  obtain⟨v,hv,rfl⟩:=qWt h
  refine⟨.none,?_,by simp⟩
  simp only [qQb]
  exact (qPq hv).r
 ·rename_i f first caps
  split at h
  ·rename_i e
   refine⟨.none,?_,qXn h⟩
   have e0:first.size=0:=by rw [← Array.length_toList,e];rfl
   simp only [qQb,e0,if_true]
   exact qBl h
  ·rename_i a l e
   split at h
   ·rename_i e'
    refine⟨.none,?_,qXn h⟩
    have e0:¬ first.size=0:=by rw [← Array.length_toList,e];simp
    have e1:caps.size=0:=by rw [← Array.length_toList,e'];rfl
    simp only [qQb,e0,e1,if_true,if_false,e]
    exact qBl h
   ·cases h
 ·rename_i t len parts
  split at h
  ·rename_i e a b c d et
   split at h
   ·rename_i te ee
    split at h
    ·rename_i es ep
     obtain⟨note,hr,hn⟩:=zWb h
     refine⟨note,?_,hn⟩
     simp only [qQb,et,ee,qGi ep]
     exact hr
    ·cases h
   ·cases h
  ·cases h
 ·rename_i t x
  split at h
  ·rename_i ti et
   obtain⟨v,hv,rfl⟩:=qWt h
   refine⟨.none,?_,by simp⟩
   simp only [qQb,et]
   exact (qTz hv).r
  ·cases h
 ·rename_i t x y
  split at h
  ·split at h
   ·rename_i ti et
    refine⟨.none,?_,?_⟩
    ·simp only [qQb,et]
     exact qGg h
    ·obtain⟨q,_,_,_,_,_⟩:=qGg h
     unfold qBk at h
     intro hn
     exfalso
     revert hn h
     simp only [qPd]
     repeat' (first|split|(intro h;cases h)|simp only [cond] )
     all_goals (intro h;first|(cases h;done)|(cases h;simp))
   ·cases h
  ·cases h
 ·obtain⟨v,hv,rfl⟩:=qWt h
  refine⟨.none,?_,by simp⟩
  unfold zGw at hv
  simp only [qQb]
  split at hv<;>rename_i ev<;>cases hv<;>rw [ev]<;>exact⟨_,rfl,trivial,rfl,rfl,rfl⟩
 ·split at h
  ·rename_i ti et
   obtain⟨v,hv,rfl⟩:=qWt h
   refine⟨.none,?_,by simp⟩
   simp only [qQb,et]
   exact (zWf hv).r
  ·cases h
 ·split at h
  ·rename_i b eb
   refine⟨.none,?_,qXn h⟩
   simp only [qQb,eb,qZ6]
   exact qBl h
  ·cases h
 ·split at h
  ·rename_i ti et
   split at h
   ·rename_i p ep
    cases e:ti.k.isIface with
    | true=>rw [e] at h;cases h
    | false =>
     rw [e] at h
     refine⟨.none,?_,qXn h⟩
     simp only [qQb,et,ep,e]
     exact qBl h
   ·cases h
  ·cases h
 ·obtain⟨v,hv,rfl⟩:=qWt h
  refine⟨.none,?_,by simp⟩
  unfold zZv at hv
  simp only [qQb]
  split at hv
  ·rename_i fs pl a b c d et
   split at hv
   ·rename_i off size ef
    cases e:Nat.beq size 0 with
    | true=>rw [e] at hv;cases hv
    | false =>
     rw [e] at hv
     simp only [cond_false] at hv
     have hs:¬ size=0:=fun e'=>by rw [qIi e'] at e;cases e
     simp only [et,ef,hs,if_false,hv]
     exact⟨_,rfl,trivial,rfl,rfl,rfl⟩
   ·cases hv
  ·cases hv
 ·obtain⟨v,hv,rfl⟩:=qWt h
  refine⟨.none,?_,by simp⟩
  unfold qPp at hv
  simp only [qQb]
  split at hv
  ·rename_i fs pl a b c d et
   cases e:pl.elem _ with
   | false=>rw [e] at hv;cases hv
   | true =>
    rw [e] at hv
    simp only [cond_true] at hv
    split at hv
    ·rename_i off size ef
     simp only [et,ef,e,cond_true]
     split at hv
     ·split at hv
      ·rename_i ex _ c ec
       cases hv
       simp only [ex,ec,Option.map_some]
       exact⟨_,rfl,trivial,rfl,rfl,rfl⟩
      ·cases hv
     ·rename_i cs ex
      simp only [ex,hv,Option.map_some]
      exact⟨_,rfl,trivial,rfl,rfl,rfl⟩
     ·cases hv
    ·cases hv
  ·cases hv
 ·obtain⟨v,hv,rfl⟩:=qWt h
  refine⟨.none,?_,by simp⟩
  simp only [qQb]
  exact (qPe hv).r
 ·obtain⟨v,hv,rfl⟩:=qWt h
  refine⟨.none,?_,by simp⟩
  unfold qLr at hv
  simp only [qQb]
  simp only [qJy] at hv
  split at hv
  ·rename_i cs ev
   split at hv
   ·rename_i c ec
    cases hv
    simp only [ev,ec]
    exact⟨_,rfl,trivial,rfl,rfl,rfl⟩
   ·cases hv
  ·rename_i cs ev
   simp only [ev,hv]
   exact⟨_,rfl,trivial,rfl,rfl,rfl⟩
  ·cases hv
 ·rename_i t x
  split at h
  ·rename_i a b c d et
   refine⟨.siter nx,?_,?_⟩
   ·simp only [qQb,et]
    unfold qLu at h
    split at h
    ·rename_i l el
     cases h
     simp only [qAz,el]
     exact⟨_,rfl,trivial,rfl,rfl,rfl⟩
    ·cases h
   ·intro _
    unfold qLu at h
    split at h
    ·cases h;exact⟨_,rfl⟩
    ·cases h
  ·cases h
 ·obtain⟨h1,h2,_⟩:=qLv h
  refine⟨.none,?_,by rw [h2];simp⟩
  simp only [qQb]
  exact h1
 ·split at h
  ·rename_i a b c d et
   obtain⟨v,hv,rfl⟩:=qWt h
   refine⟨.none,?_,by simp⟩
   simp only [qQb,et]
   exact (qNi hv).r
  ·cases h
 ·obtain⟨v,hv,rfl⟩:=qWt h
  refine⟨.none,?_,by simp⟩
  simp only [qQb]
  split at hv
  ·rename_i hv'
   cases hv
   exact (qT4 hv').r
  ·exact (qPo hv).r
 ·split at h
  ·rename_i ti et
   cases e:ti.k.isIface with
   | true=>rw [e] at h;cases h
   | false =>
    rw [e] at h
    obtain⟨v,hv,rfl⟩:=qWt h
    refine⟨.none,?_,by simp⟩
    simp only [qQb,et,e]
    exact (qNk hv).r
  ·cases h
 ·split at h
  ·rename_i kt vt sk a b c d et
   cases h
   refine⟨.smap nx sk,?_,fun _=>⟨_,rfl⟩⟩
   simp only [qQb]
   exact⟨_,rfl,trivial,rfl,rfl,rfl⟩
  ·cases h
 ·split at h
  ·split at h
   ·rename_i kt vt sk a b c d et
    obtain⟨h1,h2,_⟩:=qAg h
    refine⟨.none,?_,by rw [h2];simp⟩
    simp only [qQb,et]
    exact h1
   ·cases h
  ·cases h
 ·split at h
  ·split at h
   ·rename_i kt vt sk a b c d et
    obtain⟨h1,h2,_⟩:=qAg h
    refine⟨.none,?_,by rw [h2];simp⟩
    simp only [qQb,et]
    exact h1
   ·cases h
  ·cases h
 ·split at h
  ·rename_i kt vt sk a b c d et
   split at h
   ·rename_i tv ev
    split at h
    ·rename_i z ez
     obtain⟨v,hv,rfl⟩:=qWt h
     refine⟨.none,?_,by simp⟩
     simp only [qQb,et,ev,ez]
     exact (qPl hv).r
    ·cases h
   ·cases h
  ·cases h
 ·split at h
  ·rename_i e a b c d et
   split at h
   ·rename_i te ee
    obtain⟨v,hv,rfl⟩:=qWt h
    refine⟨.none,?_,by simp⟩
    simp only [qQb,et,ee]
    exact (qPf hv).r
   ·cases h
  ·rename_i a b c d et
   obtain⟨v,hv,rfl⟩:=qWt h
   refine⟨.none,?_,by simp⟩
   simp only [qQb,et]
   exact (qNj hv).r
  ·cases h
 ·split at h
  ·rename_i t x et ex
   split at h
   ·rename_i e a b c d ett
    obtain⟨v,hv,rfl⟩:=qWt h
    refine⟨.none,?_,by simp⟩
    simp only [qQb,et,ex,ett]
    exact (zWa hv).r
   ·rename_i a b c d ett
    obtain⟨v,hv,rfl⟩:=qWt h
    refine⟨.none,?_,by simp⟩
    simp only [qQb,et,ex,ett]
    exact (qT3 hv).r
   ·cases h
  ·cases h
 ·split at h
  ·rename_i t t' x y et ex
   have h1:=(qQe h).1
   replace h:=(qQe h).2
   have ht:=Nat.eq_of_beq_eq_true h1
   subst ht
   split at h
   ·rename_i e a b c d ett
    split at h
    ·rename_i te ee
     obtain⟨note,hr,hn⟩:=qNh (xo:=x) h
     refine⟨note,?_,hn⟩
     simp only [qQb,et,ex,ett,ee,if_true]
     exact hr
    ·cases h
   ·cases h
  ·cases h
 ·split at h
  ·rename_i x y ex
   split at h
   ·rename_i a b ea eb
    refine⟨.none,?_,qXn h⟩
    simp only [qQb,ex,ea,eb]
    have:(if b > a then b else a)=bif ltI a b then b else a:=by
     rw [qQs]
     by_cases hh:a<b
     ·rw [if_pos (show b > a from hh),decide_eq_true hh];rfl
     ·rw [if_neg (show ¬ b > a from hh),decide_eq_false hh];rfl
    rw [this]
    exact qBl h
   ·cases h
  ·cases h
 ·cases h
structure IS where
 sl:Tr V
 ob:Tr Ob
 nx:Nat
 dt:List Nat
inductive AE where
 | normal
 | exit (i:Nat)
 | ret
structure Res where
 x:V
 ch:List (Nat × Ob)
 nw:List (Nat × Ob)
 nx:Nat
structure Tc where
 wn:List Nat
 rd:List Nat
structure qVk where
 T:Nat→Option TI
 gl:Nat→Option (List PV)
 F:Nat→Option Func
 intr:Nat→List V→Option V
def IS.val (gl:Nat→Option (List PV)) (s:IS):Operand→V
 | .tmp t=>match s.sl.get t with
  | some v=>v
  | none => .undef
 | .const v=>cst v
 | .func f => .fn f []
 | .global g=>match gl g with
  | some cs => .pv (.ptr cs)
  | none => .undef
def qHq (t:Tr V) (dst:Option Nat) (x:V):Tr V:=match dst with
 | none=>t
 | some d=>t.put d (some x)
def zZx (bs n:Nat) (l:List Nat):List Nat:=bif Nat.blt n bs then n::l else l
def IS.app (bs:Nat) (s:IS) (dst:Option Nat) (r:RB):IS:=match r.wr with
 | none=>⟨qHq s.sl dst r.x,s.ob,s.nx,s.dt⟩
 | some (n,o)=>bif r.new then ⟨qHq s.sl dst r.x,s.ob.put n (some o),Nat.succ s.nx,s.dt⟩ else ⟨qHq s.sl dst r.x,s.ob.put n (some o),s.nx,zZx bs n s.dt⟩
def zY0:V→List Nat
 | .arr n _ _=>[n]
 | _=>[]
def qAh:V→List Nat
 | .arr n _ _=>[n]
 | .agg cs=>cs.flatMap zY0
 | _=>[]
def qT5 (bs:Nat) (s:IS) (n:Nat):IS:=bif Nat.blt n bs then s else (match s.ob.get n with
 | some (.arr ver _ _ es)=>match unE es with
  | some ps=>⟨s.sl.map (qBg n ver ps),(s.ob.put n none).map (qJg n ver ps),s.nx,s.dt⟩
  | none=>s
 | _=>s)
def qPr (bs:Nat):List Nat→IS→IS
 | [],s=>s
 | n::r,s=>qPr bs r (qT5 bs s n)
def qNl (bs:Nat):List Nat→IS→IS
 | [],s=>s
 | t::r,s=>qNl bs r (match s.sl.get t with
  | some v=>qPr bs (qAh v) s
  | none=>s)
def qDi:List Operand→List Nat
 | []=>[]
 | .tmp t::r=>t::qDi r
 | _::r=>qDi r
def zY1:Op→List Nat
 | .call { callee:=.value _,args,.. } => qDi args.toList
 | .call { callee:=.builtin .append,args,.. } => qDi (args.toList.drop 1)
 | .buildSlice _ _ ps=>qDi (ps.toList.map (·.2))
 | .makeInterface _ x=>qDi [x]
 | _=>[]
def qPs:List Oper→List Nat
 | []=>[]
 | o::r=>zY1 o.op++qPs r
def reach (nx:Nat) (ob:Tr Ob):Nat→List Nat→Tr Ob→List Nat→Option (Tr Ob × List Nat)
 | 0,_,_,_=>none
 | _+1,[],sub,l=>some (sub,l)
 | f+1,n::r,sub,l=>bif Nat.blt n nx then (match sub.get n with
  | some _=>reach nx ob f r sub l
  | none=>match ob.get n with
   | none=>reach nx ob f r sub l
   | some o=>reach nx ob f (o.names++r) (sub.put n (some o)) (n::l)) else none
def qYp (bs nx:Nat) (sub ob:Tr Ob):Nat→List Nat→Tr Ob→List (Nat × Ob)→Option (List (Nat × Ob))
 | 0,_,_,_=>none
 | _+1,[],_,l=>some l
 | f+1,n::r,seen,l=>bif Nat.blt n bs then (match sub.get n with
   | some _=>qYp bs nx sub ob f r seen l
   | none=>none) else match seen.get n with
  | some _=>qYp bs nx sub ob f r seen l
  | none=>match ob.get n with
   | none=>none
   | some o=>bif Nat.blt n nx then qYp bs nx sub ob f (o.names++r) (seen.put n (some o)) ((n,o)::l) else none
def zWj:List Nat→Tr Ob→List Nat
 | [],_=>[]
 | n::r,seen=>match seen.get n with
  | some _=>zWj r seen
  | none=>n::zWj r (seen.put n (some (.box [])))
def zCy (ob:Tr Ob):List Nat→Option (List (Nat × Ob))
 | []=>some []
 | n::r=>match ob.get n with
  | some o=>match zCy ob r with
   | some l=>some ((n,o)::l)
   | none=>none
  | none=>none
def qBm:List (Nat × Ob)→List Nat
 | []=>[]
 | (_,o)::r=>o.names++qBm r
def qBn (T:Nat→Option TI) (s:IS):ResultVar→Option V
 | .tmp t=>some (match s.sl.get t with|some v=>v|none => .undef)
 | .cell a t=>match T t,s.sl.get a with
  | some ti,some (.loc n off)=>match s.ob.get n with
   | some (.box cs)=>rdV ti.isAgg ti.size (cs.drop off)
   | _=>none
  | _,_=>none
def qT6 (T:Nat→Option TI) (s:IS):List ResultVar→Option (List V)
 | []=>some []
 | r::rs=>match qBn T s r,qT6 T s rs with
  | some x,some xs=>some (x::xs)
  | _,_=>none
def qT7 (bs:Nat):List Nat→List Nat
 | []=>[]
 | n::r=>bif Nat.blt n bs then qT7 bs r else n::qT7 bs r
def qYq (T:Nat→Option TI) (bs:Nat):List ResultVar→IS→IS
 | [],s=>s
 | r::rs,s=>qYq T bs rs (match qBn T s r with
  | some v=>qPr bs (qT7 bs (qAh v)) s
  | none=>s)
def zZy (T:Nat→Option TI) (bs:Nat) (sub:Tr Ob) (rs:List ResultVar) (s:IS):Option Res:=match qT6 T s rs with
 | some xs=>match zCy s.ob (zWj s.dt .nil) with
  | some ch=>match qYp bs s.nx sub s.ob 1000000 ((qO4 xs).names++qBm ch) .nil [] with
   | some nw=>some ⟨qO4 xs,ch,nw,s.nx⟩
   | none=>none
  | none=>none
 | none=>none
def zX4 (T:Nat→Option TI) (bs:Nat) (sub:Tr Ob) (rs:List ResultVar):AE→IS→Option Res
 | .exit _,_=>none
 | _,s=>zZy T bs sub rs (qYq T bs rs s)
def qGm (bs:Nat):List (Nat × Ob)→List Nat→List Nat
 | [],l=>l
 | (n,_)::r,l=>qGm bs r (zZx bs n l)
def qXo:List (Nat × Ob)→Tr Ob→Tr Ob
 | [],t=>t
 | (n,o)::r,t=>qXo r (t.put n (some o))
def qJa:Nat→List V→Tr V→Tr V
 | _,[],t=>t
 | k,x::xs,t=>qJa (Nat.succ k) xs (t.put k (some x))
abbrev Run:=Nat→Nat→Code→IS→(AE→IS→Option Res)→Option Res
abbrev Call:=Nat→List V→IS→Option (Res × List Nat)
def qDj (ev:qVk) (run:Run) (fn:Func) (c:Code) (args:List V) (nx:Nat) (sub:Tr Ob):Option Res :=
 run fn.ntmps nx c ⟨qJa 0 args .nil,sub,nx,[]⟩ (zX4 ev.T nx sub fn.results.toList)
def qEp (bs:Nat) (s:IS) (dst:Option Nat) (r:Res):IS:=⟨qHq s.sl dst r.x,qXo r.nw (qXo r.ch s.ob),r.nx,qGm bs r.ch s.dt⟩
def qNm:V:=.pv (.tuple [])
def zD2 (nt:Nat):Option Nat→Bool
 | some d=>Nat.blt d nt
 | none=>true
def callR (bs:Nat) (s:IS) (dst:Option Nat):Option (Res × List Nat)→Option (IS × Tc)
 | some (r,ks)=>some (qEp bs s dst r,⟨r.ch.map (·.1)++r.nw.map (·.1),ks⟩)
 | none=>none
def doI (ev:qVk) (call:Call) (bs:Nat) (o:Oper) (s:IS):Option (IS × Tc):=match qZ3 (s.val ev.gl) o.op with
 | some (f,args)=>callR bs s o.dst (call f args s)
 | none=>match opE ev.T s.nx (s.val ev.gl) s.ob.get o.dst o.op with
  | some r=>some (s.app bs o.dst r,⟨match r.wr with|some (n,_)=>[n]|none=>[],rdN (s.val ev.gl) o.op⟩)
  | none=>none
def gvI (all:List Oper) (s:IS) (j:Nat):V:=match all[j]? with
 | some o=>match o.dst with
  | some d=>match s.sl.get d with
   | some v=>v
   | none => .undef
  | none => .undef
 | none => .undef
def qIn (ops:Array Oper) (o1 o2:Oper):Bool :=
 (match o1.dst with|some d=>(o2.looksAt ops).contains d || o2.dst == some d|none=>false) ||
 (match o2.dst with|some d=>(o1.looksAt ops).contains d|none=>false)
def zWk (ops:List Oper):Bool :=
 (List.range ops.length).all fun j=>match ops[j]? with
  | some oj=>(qGa oj).all (fun i=>decide (i<j)) && (List.range j).all fun i=>match ops[i]? with
   | some oi => !qIn ops.toArray oi oj || ((qKz ops []).getD j 0).testBit i
   | none=>false
  | none=>false
def qGn (a b:Tc):Bool:=a.wn.all (fun n => !qCe b.rd n && !qCe b.wn n) && b.wn.all (fun n => !qCe a.rd n)
def qNn:List Tc→Bool
 | []=>true
 | t::r=>match t.wn with
  | []=>qNn r
  | _::_=>false
def qT8 (ops:List Oper) (tr:List Tc):Bool :=
 (List.range ops.length).all fun j=>match tr[j]? with
  | some b=>(List.range j).all fun i=>match tr[i]? with
   | some a=>qGn a b || ((qKz ops []).getD j 0).testBit i
   | none=>false
  | none=>false
def zY2 (bs:Nat) (l:List Nat) (s:IS):IS:=bif Nat.beq s.nx bs then s else qNl bs l s
theorem qIo:∀ {cs:List V} {ps:List PV},unL cs=some ps→cs=pvL ps
 | [],ps,h=>by cases h;rfl
 | c::cs,ps,h=>by
  unfold unL at h
  split at h
  ·rename_i p ps' hp hps
   cases h
   have:=qIo hps
   subst this
   cases c<;>simp only [V.un] at hp<;>cases hp
   rfl
  ·cases h
theorem qPt:∀ {es:List (List V)} {ps:List (List PV)},unE es=some ps→es=pvE ps
 | [],ps,h=>by cases h;rfl
 | e::es,ps,h=>by
  unfold unE at h
  split at h
  ·rename_i p ps' hp hps
   cases h
   have h1:=qPt hps
   have h2:=qIo hp
   subst h1 h2
   rfl
  ·cases h
structure Rel (s:IS) (σ:St):Prop where
 sl:∀ t,qZw σ.slots t=(match s.sl.get t with|some v=>v|none => .undef)
 ob:∀ n,qQc σ.objs n=s.ob.get n
 us:∀ n∈σ.used,n<s.nx
structure Inv (bs:Nat) (sub:Tr Ob) (s:IS):Prop where
 le:bs≤s.nx
 same:∀ n,n<bs→n ∉ s.dt→s.ob.get n=sub.get n
 old:∀ n,n<bs→(s.ob.get n).isSome=true→(sub.get n).isSome=true
 names:∀ n o,sub.get n=some o→n<bs ∧ ∀ k∈o.names,k<bs
 dts:∀ n∈s.dt,n<bs
theorem Rel.val {s:IS} {σ:St} (h:Rel s σ) (gl:Nat→Option (List PV)):σ.val gl=s.val gl:=by
 funext x
 cases x with
 | tmp t=>exact h.sl t
 | const v=>rfl
 | func f=>rfl
 | global g=>rfl
theorem Rel.obf {s:IS} {σ:St} (h:Rel s σ):qQc σ.objs=s.ob.get:=funext h.ob
def Wk (σ σ':St):Prop:=∀ C E a w,Ga C E σ a w→∃ E',Ga C E' σ' a w
theorem Wk.refl (σ:St):Wk σ σ:=fun _ E _ _ h=>⟨E,h⟩
theorem Wk.trans {a b c:St} (h:Wk a b) (h':Wk b c):Wk a c:=fun C E x w hG=>by
 obtain⟨E',h1⟩:=h C E x w hG
 exact h' C E' x w h1
theorem AWP.wk {X:qZ5} {c:Code} {σ σ':St} {Q:AEx→St→Prop} (hw:Wk σ σ') (h:AWP X c σ' Q):AWP X c σ Q:=by
 intro C E a w hC hG
 obtain⟨E',h'⟩:=hw C E a w hG
 exact h C E' a w hC h'
theorem AWP.post {X:qZ5} {c:Code} {σ:St} {Q Q':AEx→St→Prop} (h:AWP X c σ Q) (hq:∀ ae σ',Q ae σ'→(∃ σ'',Wk σ' σ''∧Q' ae σ'') ∧ ∀ p,ae ≠ .panic p):AWP X c σ Q':=by
 intro C E a w hC hG
 refine wp_mono (h C E a w hC hG) ?_
 rintro e a' w' ⟨E',σ',ae,hG',hr,hqq⟩
 obtain⟨⟨σ'',hw,hq'⟩,hp⟩:=hq ae σ' hqq
 obtain⟨E'',hG''⟩:=hw C E' a' w' hG'
 refine⟨E'',σ'',ae,hG'',?_,hq'⟩
 cases ae with
 | panic p=>exact absurd rfl (hp p)
 | _=>exact hr
theorem zWl {n ver:Nat} {ps:List (List PV)} : ∀ {x:V},n ∉ x.names→qFt n ver ps x=x:=by
 intro x h
 cases x<;>simp only [qFt]
 rename_i m v l
 rw [if_neg]
 rintro⟨rfl,_⟩
 exact h (by simp [V.names])
theorem qPu {n ver:Nat} {ps:List (List PV)} : ∀ {cs:List V},n ∉ qQj cs→qCd n ver ps cs=cs
 | [],_=>rfl
 | c::cs,h=>by
  simp only [qQj,List.mem_append,not_or] at h
  simp only [qCd]
  rw [zWl h.1,qPu h.2]
theorem qT9 {n ver:Nat} {ps:List (List PV)} {o:Ob} (h:n ∉ o.names):qJg n ver ps o=o:=by
 cases o with
 | box cs=>simp only [qJg];rw [qPu h]
 | _=>rfl
theorem qEq {bs:Nat} {sub:Tr Ob} {s:IS} (hI:Inv bs sub s) (n:Nat):Inv bs sub (qT5 bs s n):=by
 unfold qT5
 cases e:Nat.blt n bs with
 | true=>exact hI
 | false =>
  simp only [cond_false]
  rw [qJz] at e
  have hn:¬ n<bs:=of_decide_eq_false e
  split
  ·rename_i ver sz ty es ho
   split
   ·rename_i ps hps
    have hget:∀ m,((s.ob.put n none).map (qJg n ver ps)).get m=if m=n then none else (s.ob.get m).map (qJg n ver ps):=by
     intro m
     rw [Tr.get_map,Tr.get_put]
     split<;>rfl
    refine⟨hI.le,?_,?_,hI.names,hI.dts⟩
    ·intro m hm hd
     show ((s.ob.put n none).map (qJg n ver ps)).get m=_
     rw [hget m,if_neg (by omega),hI.same m hm hd]
     cases q:sub.get m with
     | none=>rfl
     | some o =>
      simp only [Option.map_some]
      rw [qT9]
      intro hk
      exact hn ((hI.names m o q).2 n hk)
    ·intro m hm hs
     have hs:(((s.ob.put n none).map (qJg n ver ps)).get m).isSome=true:=hs
     rw [hget m,if_neg (by omega)] at hs
     exact hI.old m hm (by simpa using hs)
   ·exact hI
  ·exact hI
theorem qBo {bs:Nat} {sub:Tr Ob} : ∀ (l:List Nat) {s:IS},Inv bs sub s→Inv bs sub (qPr bs l s)
 | [],_,hI=>hI
 | n::r,_,hI=>qBo r (qEq hI n)
theorem qBp {bs:Nat} {sub:Tr Ob} : ∀ (l:List Nat) {s:IS},Inv bs sub s→Inv bs sub (qNl bs l s)
 | [],_,hI=>hI
 | t::r,s,hI=>by
  unfold qNl
  split
  ·exact qBp r (qBo _ hI)
  ·exact qBp r hI
theorem qVs {T:Nat→Option TI} {bs:Nat} {sub:Tr Ob} : ∀ (l:List ResultVar) {s:IS},Inv bs sub s→Inv bs sub (qYq T bs l s)
 | [],_,hI=>hI
 | t::r,s,hI=>by
  unfold qYq
  split
  ·exact qVs r (qBo _ hI)
  ·exact qVs r hI
theorem qIp {bs:Nat} {s:IS} {σ:St} (hR:Rel s σ) (n:Nat):∃ σ',Wk σ σ'∧Rel (qT5 bs s n) σ':=by
 have hid:∃ σ',Wk σ σ'∧Rel s σ':=⟨σ,Wk.refl σ,hR⟩
 unfold qT5
 cases e:Nat.blt n bs with
 | true=>exact hid
 | false =>
  simp only [cond_false]
  split
  ·rename_i ver sz ty es ho
   split
   ·rename_i ps hps
    have hes:=qPt hps
    subst hes
    have ho':qQc σ.objs n=some (.arr ver sz ty (pvE ps)):=(hR.ob n).trans ho
    refine⟨σ.frz n ver ps,fun C E a w hG=>hG.frz ho',⟨?_,?_,hR.us⟩⟩
    ·intro t
     simp only [St.frz,qEf,hR.sl,Tr.get_map]
     cases s.sl.get t<;>rfl
    ·intro m
     simp only [St.frz,qKf,hR.ob,Tr.get_map,Tr.get_put]
     split<;>rfl
   ·exact hid
  ·exact hid
theorem qEr {bs:Nat} : ∀ (l:List Nat) {s:IS} {σ:St},Rel s σ→∃ σ',Wk σ σ'∧Rel (qPr bs l s) σ'
 | [],s,σ,hR=>⟨σ,Wk.refl σ,hR⟩
 | n::r,s,σ,hR=>by
  obtain⟨σ1,h1,h2⟩:=qIp (bs:=bs) hR n
  obtain⟨σ2,h4,h5⟩:=qEr r h2
  exact⟨σ2,h1.trans h4,h5⟩
theorem qEs {bs:Nat} : ∀ (l:List Nat) {s:IS} {σ:St},Rel s σ→∃ σ',Wk σ σ'∧Rel (qNl bs l s) σ'
 | [],s,σ,hR=>⟨σ,Wk.refl σ,hR⟩
 | t::r,s,σ,hR=>by
  unfold qNl
  split
  ·rename_i v hv
   obtain⟨σ1,h1,h2⟩:=qEr (bs:=bs) (qAh v) hR
   obtain⟨σ2,h4,h5⟩:=qEs r h2
   exact⟨σ2,h1.trans h4,h5⟩
  ·exact qEs r hR
theorem qBq {T:Nat→Option TI} {bs:Nat} : ∀ (l:List ResultVar) {s:IS} {σ:St},Rel s σ→∃ σ',Wk σ σ'∧Rel (qYq T bs l s) σ'
 | [],s,σ,hR=>⟨σ,Wk.refl σ,hR⟩
 | t::r,s,σ,hR=>by
  unfold qYq
  split
  ·rename_i v hv
   obtain⟨σ1,h1,h2⟩:=qEr (bs:=bs) (qT7 bs (qAh v)) hR
   obtain⟨σ2,h4,h5⟩:=qBq r h2
   exact⟨σ2,h1.trans h4,h5⟩
  ·exact qBq r hR
structure qIq (nx:Nat) (ob:Tr Ob) (todo:List Nat) (sub:Tr Ob) (l:List Nat):Prop where
 get:∀ n o,sub.get n=some o→ob.get n=some o∧n<nx∧n∈l ∧ ∀ k∈o.names,k<nx∨k∈todo
 mem:∀ n∈l,(sub.get n).isSome=true
theorem qAi {nx:Nat} {ob:Tr Ob} : ∀ (f:Nat) (todo:List Nat) (sub:Tr Ob) (l:List Nat) {sub':Tr Ob} {l':List Nat},reach nx ob f todo sub l=some (sub',l')→qIq nx ob todo sub l→qIq nx ob [] sub' l' ∧ ∀ k∈todo,k<nx
 | 0,_,_,_,_,_,h,_=>by cases h
 | f+1,[],sub,l,_,_,h,hr=>by cases h;exact⟨hr,by simp⟩
 | f+1,n::r,sub,l,sub',l',h,hr=>by
  unfold reach at h
  obtain⟨h1,h⟩:=qQe h
  have hn:=qJ6 h1
  have hdrop:qIq nx ob r sub l:=⟨fun m o hm=>⟨(hr.get m o hm).1,(hr.get m o hm).2.1,(hr.get m o hm).2.2.1,fun k hk=>by
   rcases (hr.get m o hm).2.2.2 k hk with h2|h2
   ·exact .inl h2
   ·rcases List.mem_cons.1 h2 with rfl|h2
    ·exact .inl hn
    ·exact .inr h2⟩,hr.mem⟩
  split at h
  ·obtain⟨h3,h4⟩:=qAi f r sub l h hdrop
   exact⟨h3,fun k hk=>by rcases List.mem_cons.1 hk with rfl|hk<;>first|exact hn|exact h4 k hk⟩
  ·split at h
   ·obtain⟨h3,h4⟩:=qAi f r sub l h hdrop
    exact⟨h3,fun k hk=>by rcases List.mem_cons.1 hk with rfl|hk<;>first|exact hn|exact h4 k hk⟩
   ·rename_i hs o ho
    obtain⟨h3,h4⟩:=qAi f (o.names++r) (sub.put n (some o)) (n::l) h (by
     refine⟨fun m q hm => ?_,fun m hm => ?_⟩
     ·rw [Tr.get_put] at hm
      split at hm
      ·rename_i e
       cases hm
       subst e
       exact⟨ho,hn,by simp,fun k hk => .inr (by simp [hk])⟩
      ·obtain⟨a,b,c,d⟩:=hdrop.get m q hm
       exact⟨a,b,by simp [c],fun k hk=>by rcases d k hk with h5|h5<;>first|exact .inl h5|exact .inr (by simp [h5])⟩
     ·rw [Tr.get_put]
      split
      ·rfl
      ·rename_i e
       rcases List.mem_cons.1 hm with h5|h5
       ·exact absurd h5 e
       ·exact hr.mem m h5)
    exact⟨h3,fun k hk=>by rcases List.mem_cons.1 hk with rfl|hk<;>first|exact hn|exact h4 k (by simp [hk])⟩
structure qEt (bs nx:Nat) (sub ob:Tr Ob) (todo:List Nat) (seen:Tr Ob) (l:List (Nat × Ob)):Prop where
 ent:∀ n o,(n,o)∈l→bs≤n∧n<nx∧ob.get n=some o ∧ ∀ k∈o.names,(sub.get k).isSome=true∨k∈qQa l∨k∈todo
 seen:∀ n,(seen.get n).isSome=true→n∈qQa l
theorem qBr {bs nx:Nat} {sub ob:Tr Ob} : ∀ (f:Nat) (todo:List Nat) (seen:Tr Ob) (l:List (Nat × Ob)) {l':List (Nat × Ob)},qYp bs nx sub ob f todo seen l=some l'→qEt bs nx sub ob todo seen l →
  (∃ seen',qEt bs nx sub ob [] seen' l')∧(∀ k∈todo,(sub.get k).isSome=true∨k∈qQa l') ∧ ∀ k∈qQa l,k∈qQa l'
 | 0,_,_,_,_,h,_=>by cases h
 | f+1,[],seen,l,_,h,hr=>by cases h;exact⟨⟨seen,hr⟩,by simp,fun k hk=>hk⟩
 | f+1,n::r,seen,l,l',h,hr=>by
  unfold qYp at h
  have hskip:((sub.get n).isSome=true∨n∈qQa l)→qYp bs nx sub ob f r seen l=some l'→(∃ seen',qEt bs nx sub ob [] seen' l')∧(∀ k∈n::r,(sub.get k).isSome=true∨k∈qQa l') ∧ ∀ k∈qQa l,k∈qQa l':=by
   intro hn h
   obtain⟨h1,h2,h3⟩:=qBr f r seen l h ⟨fun m o hm=>⟨(hr.ent m o hm).1,(hr.ent m o hm).2.1,(hr.ent m o hm).2.2.1,fun k hk=>by
    rcases (hr.ent m o hm).2.2.2 k hk with h4|h4|h4
    ·exact .inl h4
    ·exact .inr (.inl h4)
    ·rcases List.mem_cons.1 h4 with rfl|h4
     ·rcases hn with hn|hn
      ·exact .inl hn
      ·exact .inr (.inl hn)
     ·exact .inr (.inr h4)⟩,hr.seen⟩
   refine⟨h1,fun k hk => ?_,h3⟩
   rcases List.mem_cons.1 hk with rfl|hk
   ·rcases hn with hn|hn
    ·exact .inl hn
    ·exact .inr (h3 _ hn)
   ·exact h2 k hk
  cases e:Nat.blt n bs with
  | true =>
   rw [e] at h
   simp only [cond_true] at h
   split at h
   ·rename_i o ho
    exact hskip (.inl (by rw [ho];rfl)) h
   ·cases h
  | false =>
   rw [e] at h
   simp only [cond_false] at h
   rw [qJz] at e
   have hnb:¬ n<bs:=of_decide_eq_false e
   split at h
   ·rename_i o ho
    exact hskip (.inr (hr.seen n (by rw [ho];rfl))) h
   ·split at h
    ·cases h
    ·rename_i hs o ho
     obtain⟨h1,h⟩:=qQe h
     have hn:=qJ6 h1
     obtain⟨h2,h3,h4⟩:=qBr f (o.names++r) (seen.put n (some o)) ((n,o)::l) h (by
      refine⟨fun m q hm => ?_,fun m hm => ?_⟩
      ·rcases List.mem_cons.1 hm with e1|e1
       ·cases e1
        exact⟨by omega,hn,ho,fun k hk => .inr (.inr (by simp [hk]))⟩
       ·obtain⟨a,b,c,d⟩:=hr.ent m q e1
        refine⟨a,b,c,fun k hk => ?_⟩
        rcases d k hk with h5|h5|h5
        ·exact .inl h5
        ·exact .inr (.inl (by simp only [qQa,List.map_cons,List.mem_cons];exact .inr h5))
        ·rcases List.mem_cons.1 h5 with rfl|h5
         ·exact .inr (.inl (by simp [qQa]))
         ·exact .inr (.inr (by simp [h5]))
      ·rw [Tr.get_put] at hm
       simp only [qQa,List.map_cons,List.mem_cons]
       by_cases e1:m=n
       ·exact .inl e1
       ·rw [if_neg e1] at hm
        exact .inr (hr.seen m hm))
     refine⟨h2,fun k hk => ?_,fun k hk=>h4 k (by simp only [qQa,List.map_cons,List.mem_cons];exact .inr hk)⟩
     rcases List.mem_cons.1 hk with rfl|hk
     ·exact .inr (h4 _ (by simp [qQa]))
     ·exact h3 k (by simp [hk])
theorem qBs:∀ {l u:List Nat},(∀ n∈l,n∈u)→zZs l u
 | [],_,_=>trivial
 | n::r,u,h=>⟨h n (by simp),qBs fun m hm=>h m (by simp [hm])⟩
theorem qEu:∀ {l u:List (Nat × Ob)},(∀ p∈l,qQc u p.1=some p.2)→qCo l u
 | [],_,_=>trivial
 | (n,o)::r,u,h=>⟨h (n,o) (by simp),qEu fun m hm=>h m (by simp [hm])⟩
theorem mem_mentO {l:List (Nat × Ob)} {n:Nat} : n∈qJv l ↔ ∃ p∈l,n∈p.2.names:=by
 induction l with
 | nil=>simp [qJv]
 | cons p r ih=>obtain⟨k,o⟩:=p;simp [qJv,ih]
theorem mem_namesOb {l:List (Nat × Ob)} {n:Nat} : n∈qZx l↔n∈qQa l∨n∈qJv l:=by
 induction l with
 | nil=>simp [qZx,qQa,qJv]
 | cons p r ih =>
  obtain⟨k,o⟩:=p
  have hk:qQa ((k,o)::r)=k::qQa r:=rfl
  simp only [qZx,qJv,List.mem_cons,List.mem_append,ih,hk]
  grind
theorem qQ3 (a b:List (Nat × Ob)):qQa (a++b)=qQa a++qQa b:=by simp [qQa]
theorem keysO_mem {l:List (Nat × Ob)} {n:Nat} : n∈qQa l ↔ ∃ o,(n,o)∈l:=by
 simp only [qQa,List.mem_map]
 constructor
 ·rintro⟨⟨k,o⟩,h,rfl⟩;exact⟨o,h⟩
 ·rintro⟨o,h⟩;exact⟨(n,o),h,rfl⟩
theorem qJ7 {l:List (Nat × Ob)} {n:Nat} {o:Ob} (h:qQc l n=some o):(n,o)∈l:=by
 induction l with
 | nil=>cases h
 | cons p r ih =>
  obtain⟨k,x⟩:=p
  simp only [qQc] at h
  split at h
  ·rename_i e;cases h;subst e;simp
  ·exact List.mem_cons_of_mem _ (ih h)
theorem qGo {l:List (Nat × Ob)} {n:Nat} (h:n ∉ qQa l):qQc l n=none:=by
 cases e:qQc l n with
 | none=>rfl
 | some o=>exact absurd (qQh e) h
theorem qLw {l:List (Nat × Ob)} {G:Nat→Option Ob} (h:∀ n o,(n,o)∈l→G n=some o) (n:Nat):(n∈qQa l→qQc l n=G n):=by
 intro hn
 obtain⟨o,ho⟩:=qQ7 hn
 rw [ho,h n o (qJ7 ho)]
def pick (sub:Tr Ob) (l:List Nat):List (Nat × Ob):=l.filterMap fun n=>(sub.get n).map fun o=>(n,o)
theorem mem_pick {sub:Tr Ob} {l:List Nat} {n:Nat} {o:Ob} : (n,o)∈pick sub l↔n∈l∧sub.get n=some o:=by
 simp only [pick,List.mem_filterMap,Option.map_eq_some_iff,Prod.mk.injEq]
 constructor
 ·rintro⟨m,hm,q,hq,rfl,rfl⟩;exact⟨hm,hq⟩
 ·rintro⟨h1,h2⟩;exact⟨n,h1,o,h2,rfl,rfl⟩
theorem qEv:∀ (l:List Nat) (seen:Tr Ob) (n:Nat),n∈l→(seen.get n).isSome=true∨n∈zWj l seen
 | [],_,_,h=>by cases h
 | m::r,seen,n,h=>by
  unfold zWj
  rcases List.mem_cons.1 h with rfl|h
  ·cases e:seen.get n with
   | some o=>exact .inl rfl
   | none=>exact .inr (by simp)
  ·cases e:seen.get m with
   | some o=>exact qEv r seen n h
   | none =>
    simp only
    rcases qEv r (seen.put m (some (.box []))) n h with h1|h1
    ·rw [Tr.get_put] at h1
     by_cases e1:n=m
     ·exact .inr (by simp [e1])
     ·rw [if_neg e1] at h1;exact .inl h1
    ·exact .inr (by simp [h1])
theorem qEw:∀ (l:List Nat) (seen:Tr Ob) (n:Nat),n∈zWj l seen→n∈l
 | [],_,_,h=>by cases h
 | m::r,seen,n,h=>by
  unfold zWj at h
  split at h
  ·exact List.mem_cons_of_mem _ (qEw r seen n h)
  ·rcases List.mem_cons.1 h with rfl|h
   ·simp
   ·exact List.mem_cons_of_mem _ (qEw r _ n h)
theorem qPv {ob:Tr Ob} : ∀ {l:List Nat} {ch:List (Nat × Ob)},zCy ob l=some ch→qQa ch=l ∧ ∀ n o,(n,o)∈ch→ob.get n=some o
 | [],ch,h=>by cases h;exact⟨rfl,by simp⟩
 | m::r,ch,h=>by
  unfold zCy at h
  split at h
  ·rename_i o ho
   split at h
   ·rename_i l hl
    cases h
    obtain⟨h1,h2⟩:=qPv hl
    refine⟨by simp [qQa] at h1 ⊢;exact h1,fun n q hm => ?_⟩
    rcases List.mem_cons.1 hm with e|hm
    ·cases e;exact ho
    ·exact h2 n q hm
   ·cases h
  ·cases h
theorem mem_chNames {l:List (Nat × Ob)} {n:Nat} : n∈qBm l↔n∈qJv l:=by
 induction l with
 | nil=>simp [qBm,qJv]
 | cons p r ih=>obtain⟨k,o⟩:=p;simp [qBm,qJv,ih]
def AE.x:AE→AEx
 | .normal => .normal
 | .exit i => .exit i
 | .ret => .ret
def KQ (k:AE→IS→Option Res) (r:Res) (bs:Nat) (sub:Tr Ob):AEx→St→Prop:=fun ae σ' => ∃ e s',ae=AE.x e∧Rel s' σ'∧Inv bs sub s'∧k e s'=some r
structure Good (ev:qVk) (P:Program) (run:Run):Prop where
 syn:∀ (nt bs:Nat) (c:Code) (s:IS) (k:AE→IS→Option Res) (r:Res),run nt bs c s k=some r→∀ (sub:Tr Ob),Inv bs sub s→∃ e s',Inv bs sub s'∧k e s'=some r
 awp:∀ (nt bs:Nat) (c:Code) (s:IS) (k:AE→IS→Option Res) (r:Res),run nt bs c s k=some r →
  ∀ (X:qZ5),X.P=P→X.T=ev.T→X.gl=ev.gl→X.nt=nt→(∀ n∈X.given,n<bs)→∀ (sub:Tr Ob) (σ:St),Rel s σ→Inv bs sub s→AWP X c σ (KQ k r bs sub)
structure zZz (ev:qVk) (P:Program):Prop where
 T:TOK P ev.T
 F : ∀ f fn, ev.F f = some fn → P.funcs[f]? = some fn ∧ (fn.name == "runtime.NumGoroutine") = false
 intr:∀ f args x,ev.intr f args=some x→AC P ev.gl f args [] (.ret x) []
 mix:P.follows .mixedOrders=true
theorem qNo {X:qZ5} {T:Nat→Option TI} (hT:X.T=T) {s:IS} {σ:St} (hR:Rel s σ) (v:ResultVar):qBn T s v=qYo X σ v:=by
 cases v with
 | tmp t=>simp only [qBn,qYo,hR.sl];all_goals (cases s.sl.get t<;>rfl)
 | cell a t =>
  simp only [qBn,qYo,hR.sl,hT]
  cases s.sl.get a with
  | none=>cases T t<;>rfl
  | some v =>
   cases T t with
   | none=>rfl
   | some ti =>
    cases v<;>try rfl
    simp only [hR.ob]
    rfl
theorem qLx {X:qZ5} {T:Nat→Option TI} (hT:X.T=T) {s:IS} {σ:St} (hR:Rel s σ):∀ (l:List ResultVar),qT6 T s l=qTt X σ l
 | []=>rfl
 | r::rs=>by
  simp only [qT6,qTt]
  rw [qNo hT hR,qLx hT hR rs]
  cases qYo X σ r<;>cases qTt X σ rs<;>rfl
theorem qBt:∀ (xs:List V) (k:Nat) (t:Tr V) (i:Nat),(qJa k xs t).get i=if k≤i∧i<k+xs.length then xs[i-k]? else t.get i
 | [],k,t,i=>by
  have:¬ (k≤i∧i<k+0):=by omega
  simp [qJa];omega
 | x::xs,k,t,i=>by
  simp only [qJa]
  rw [qBt xs (k+1)]
  rw [Tr.get_put]
  simp only [List.length_cons]
  by_cases h:k+1≤i∧i<k+1+xs.length
  ·rw [if_pos h,if_pos (by omega)]
   have:i-k=(i-(k+1))+1:=by omega
   rw [this]
   rfl
  ·rw [if_neg h]
   by_cases e:i=k
   ·subst e
    rw [if_pos rfl,if_pos (by omega)]
    simp
   ·rw [if_neg e,if_neg (by omega)]
structure Called (P:Program) (gl:Nat→Option (List PV)) (s:IS) (f:Nat) (args:List V) (r:Res) (ks:List Nat) (ro o1:List (Nat × Ob)):Prop where
 ac:AC P gl f args (ro++o1) (.ret r.x) (ro++(r.ch++r.nw))
 apart:∀ n∈qQa ro,n ∉ qQa o1∧n ∉ qQa (r.ch++r.nw)
 subs:∀ p∈ro++o1,s.ob.get p.1=some p.2
 kss:∀ n∈qQa ro++qQa o1,n∈ks
 inch:∀ n∈qQa o1,n∈qQa r.ch
 gfn:∃ G:Nat→Option Ob,∀ n o,(n,o)∈r.ch++r.nw→G n=some o
 chs:∀ n∈qQa r.ch,n<s.nx∧(s.ob.get n).isSome=true∧n∈qQa o1
 nws:∀ n∈qQa r.nw,s.nx≤n∧n<r.nx
 le:s.nx≤r.nx
 all:∀ n∈ks,n∈qQa (ro++o1)
theorem qAj {ev:qVk} {P:Program} {run:Run} (hg:Good ev P run) (he:zZz ev P) {f:Nat} {fn:Func} {c:Code} (hf:ev.F f=some fn) (hb:fn.body=some c) {args:List V} (hal:args.length≤fn.ntmps) {s:IS} {sub:Tr Ob} {ks:List Nat}
  (hrc:reach s.nx s.ob 1000000 (qQj args) .nil []=some (sub,ks)) {r:Res} (hr:qDj ev run fn c args s.nx sub=some r):∃ ro o1,Called P ev.gl s f args r ks ro o1:=by
 obtain⟨hrd,hargs⟩:=qAi _ _ _ _ hrc ⟨fun n o h=>(by cases h),(by simp)⟩
 obtain⟨hPf,hname⟩:=he.F f fn hf
 -- the objects that are given
 have hroD:∀ n,n∈qQa (pick sub (ks.filter fun n => !qCe (qQa r.ch) n))↔(sub.get n).isSome=true∧n ∉ qQa r.ch:=by
  intro n
  rw [keysO_mem]
  constructor
  ·rintro⟨o,h⟩
   obtain⟨h1,h2⟩:=mem_pick.1 h
   refine⟨by rw [h2];rfl,fun hc => ?_⟩
   rw [List.mem_filter,(qZt _ _).2 hc] at h1
   simp at h1
  ·rintro⟨h1,h2⟩
   obtain⟨o,ho⟩:=Option.isSome_iff_exists.1 h1
   refine⟨o,mem_pick.2 ⟨List.mem_filter.2 ⟨(hrd.get n o ho).2.2.1,?_⟩,ho⟩⟩
   cases e:qCe (qQa r.ch) n with
   | false=>rfl
   | true=>exact absurd ((qZt _ _).1 e) h2
 have ho1D:∀ n,n∈qQa (pick sub (ks.filter fun n=>qCe (qQa r.ch) n))↔(sub.get n).isSome=true∧n∈qQa r.ch:=by
  intro n
  rw [keysO_mem]
  constructor
  ·rintro⟨o,h⟩
   obtain⟨h1,h2⟩:=mem_pick.1 h
   exact⟨by rw [h2];rfl,(qZt _ _).1 (List.mem_filter.1 h1).2⟩
  ·rintro⟨h1,h2⟩
   obtain⟨o,ho⟩:=Option.isSome_iff_exists.1 h1
   exact⟨o,mem_pick.2 ⟨List.mem_filter.2 ⟨(hrd.get n o ho).2.2.1,(qZt _ _).2 h2⟩,ho⟩⟩
 generalize hro:pick sub (ks.filter fun n => !qCe (qQa r.ch) n)=ro at hroD
 generalize ho1:pick sub (ks.filter fun n=>qCe (qQa r.ch) n)=o1 at ho1D
 have hent:∀ n o,(n,o)∈ro++o1→sub.get n=some o:=by
  intro n o h
  rcases List.mem_append.1 h with h|h
  ·rw [← hro] at h;exact (mem_pick.1 h).2
  ·rw [← ho1] at h;exact (mem_pick.1 h).2
 have hkey:∀ n,n∈qQa (ro++o1)↔(sub.get n).isSome=true:=by
  intro n
  rw [qQ3,List.mem_append,hroD,ho1D]
  by_cases h:n∈qQa r.ch<;>simp [h]
 have hget:∀ n,qQc (ro++o1) n=sub.get n:=by
  intro n
  by_cases h:n∈qQa (ro++o1)
  ·exact qLw hent n h
  ·rw [qGo h]
   rw [hkey] at h
   cases e:sub.get n with
   | none=>rfl
   | some o=>rw [e] at h;exact absurd rfl h
 generalize hms:((qQj args++qJv (ro++o1)).filter fun n => !qCe (qQa (ro++o1)) n)=ms
 have hmsD:∀ n,n∈ms↔(n∈qQj args∨n∈qJv (ro++o1))∧n ∉ qQa (ro++o1):=by
  intro n
  rw [← hms,List.mem_filter,List.mem_append]
  cases e:qCe (qQa (ro++o1)) n with
  | true=>have:=(qZt _ _).1 e;simp [this]
  | false =>
   have:n ∉ qQa (ro++o1):=fun h=>by rw [(qZt _ _).2 h] at e;cases e
   simp [this]
 have hsubN:∀ n o,sub.get n=some o→n<s.nx ∧ ∀ k∈o.names,k<s.nx:=by
  intro n o h
  obtain⟨_,h1,_,h2⟩:=hrd.get n o h
  exact⟨h1,fun k hk=>by rcases h2 k hk with h3|h3<;>first|exact h3|cases h3⟩
 have hmsL:∀ n∈ms,n<s.nx:=by
  intro n hn
  obtain⟨h1,_⟩:=(hmsD n).1 hn
  rcases h1 with h1|h1
  ·exact hargs n h1
  ·obtain⟨p,hp,hn'⟩:=mem_mentO.1 h1
   exact (hsubN p.1 p.2 (hent p.1 p.2 hp)).2 n hn'
 let X:qZ5:=⟨P,ev.T,ev.gl,[],fn.ntmps,qQa (ro++o1)++ms,he.T,he.mix⟩
 have hR0:Rel ⟨qJa 0 args .nil,sub,s.nx,[]⟩ ⟨qJx 0 args,ro++o1,qQa (ro++o1)++ms⟩:=by
  refine⟨fun t => ?_,hget,fun n hn => ?_⟩
  ·simp only
   rw [qK0,qBt]
   simp only [Nat.zero_le,if_true,Nat.sub_zero,true_and,Nat.zero_add,Tr.get_nil]
   by_cases h:t<args.length
   ·rw [if_pos h]
    simp [List.getD,List.getElem?_eq_getElem h]
   ·rw [if_neg h]
    simp [List.getD,List.getElem?_eq_none (by omega:args.length≤t)]
  ·rcases List.mem_append.1 hn with hn|hn
   ·obtain⟨o,ho⟩:=Option.isSome_iff_exists.1 ((hkey n).1 hn)
    exact (hsubN n o ho).1
   ·exact hmsL n hn
 have hI0:Inv s.nx sub ⟨qJa 0 args .nil,sub,s.nx,[]⟩:=⟨Nat.le_refl _,fun _ _ _=>rfl,fun _ _ h=>h,hsubN,by simp⟩
 have hA:=hg.awp fn.ntmps s.nx c _ _ r hr X rfl rfl rfl rfl hR0.us sub _ hR0 hI0
 -- the end
 have hend:∀ ae σ',KQ (zX4 ev.T s.nx sub fn.results.toList) r s.nx sub ae σ'→(∃ σ'',Wk σ' σ''∧((ae = .normal∨ae = .ret)∧qNd X σ'' fn.results.toList (.ret r.x)∧(∃ s'',Rel s'' σ''∧Inv s.nx sub s''∧zZy ev.T s.nx sub fn.results.toList s''=some r))) ∧ ∀ p,ae ≠ .panic p:=by
  rintro ae σ' ⟨e,s',rfl,hR',hI',hk⟩
  have hfin:zZy ev.T s.nx sub fn.results.toList (qYq ev.T s.nx fn.results.toList s')=some r→∃ σ'',Wk σ' σ''∧(qNd X σ'' fn.results.toList (.ret r.x)∧(∃ s'',Rel s'' σ''∧Inv s.nx sub s''∧zZy ev.T s.nx sub fn.results.toList s''=some r)):=by
   intro hk
   obtain⟨σ'',h1,h2⟩:=qBq (T:=ev.T) (bs:=s.nx) fn.results.toList hR'
   have h3:=qVs (T:=ev.T) fn.results.toList hI'
   refine⟨σ'',h1,?_,_,h2,h3,hk⟩
   unfold zZy at hk
   split at hk
   ·rename_i xs hxs
    rw [qLx (X:=X) rfl h2] at hxs
    split at hk
    ·split at hk
     ·cases hk
      simp only [qNd,zCu,hxs,Option.map_some]
     ·cases hk
    ·cases hk
   ·cases hk
  cases e with
  | exit i=>cases hk
  | normal =>
   obtain⟨σ'',h1,h2⟩:=hfin hk
   exact⟨⟨σ'',h1,.inl rfl,h2⟩,by simp [AE.x]⟩
  | ret =>
   obtain⟨σ'',h1,h2⟩:=hfin hk
   exact⟨⟨σ'',h1,.inr rfl,h2⟩,by simp [AE.x]⟩
 -- what the last state says of the result; it does not depend on the world
 have hlast:∀ s'',Inv s.nx sub s''→zZy ev.T s.nx sub fn.results.toList s''=some r →
   (∀ n∈qQa r.ch,n∈s''.dt)∧(∀ n∈s''.dt,n∈qQa r.ch)∧(∀ n o,(n,o)∈r.ch++r.nw→s''.ob.get n=some o)∧(∀ n∈qQa r.nw,s.nx≤n∧n<r.nx)∧s.nx≤r.nx ∧
   ∀ k,k∈r.x.names∨k∈qJv (r.ch++r.nw)→(sub.get k).isSome=true∨k∈qQa r.nw:=by
  intro s'' hI'' hk
  unfold zZy at hk
  split at hk
  ·rename_i xs hxs
   split at hk
   ·rename_i ch hch
    split at hk
    ·rename_i nw hnw
     cases hk
     obtain⟨hck,hce⟩:=qPv hch
     obtain⟨⟨seen',hN⟩,hT1,_⟩:=qBr _ _ _ _ hnw ⟨(by simp),(by intro n h;cases h)⟩
     refine⟨fun n hn => ?_,fun n hn => ?_,fun n o hm => ?_,fun n hn => ?_,hI''.le,fun k hk => ?_⟩
     ·rw [hck] at hn;exact qEw _ _ n hn
     ·rw [hck]
      rcases qEv s''.dt .nil n hn with h|h
      ·cases h
      ·exact h
     ·rcases List.mem_append.1 hm with hm|hm
      ·exact hce n o hm
      ·exact (hN.ent n o hm).2.2.1
     ·obtain⟨o,ho⟩:=keysO_mem.1 hn
      exact⟨(hN.ent n o ho).1,(hN.ent n o ho).2.1⟩
     ·rcases hk with hk|hk
      ·exact hT1 k (by simp [hk])
      ·obtain⟨p,hp,hkp⟩:=mem_mentO.1 hk
       rcases List.mem_append.1 hp with hp|hp
       ·exact hT1 k (by rw [List.mem_append];exact .inr (mem_chNames.2 (mem_mentO.2 ⟨p,hp,hkp⟩)))
       ·rcases (hN.ent p.1 p.2 hp).2.2.2 k hkp with h|h|h
        ·exact .inl h
        ·exact .inr h
        ·cases h
    ·cases hk
   ·cases hk
  ·cases hk
 obtain⟨e0,s0,hI1,hk1⟩:=hg.syn fn.ntmps s.nx c _ _ r hr sub hI0
 have hk2:zZy ev.T s.nx sub fn.results.toList (qYq ev.T s.nx fn.results.toList s0)=some r:=by
  cases e0 with
  | exit i=>cases hk1
  | normal=>exact hk1
  | ret=>exact hk1
 obtain⟨l1,l2,l3,l4,l5,l6⟩:=hlast _ (qVs (T:=ev.T) fn.results.toList hI1) hk2
 have hI2:=qVs (T:=ev.T) (bs:=s.nx) fn.results.toList hI1
 have hchsub:∀ n∈qQa r.ch,(sub.get n).isSome=true:=by
  intro n hn
  obtain⟨o,ho⟩:=keysO_mem.1 hn
  have h1:=l3 n o (by simp [ho])
  refine hI2.old n ?_ (by rw [h1];rfl)
  exact hI2.dts n (l1 n hn)
 have hro':∀ n∈qQa ro,n ∉ qQa o1∧n ∉ qQa (r.ch++r.nw):=by
  intro n hn
  obtain⟨h1,h2⟩:=(hroD n).1 hn
  refine⟨fun h=>h2 ((ho1D n).1 h).2,fun h => ?_⟩
  rw [qQ3,List.mem_append] at h
  rcases h with h|h
  ·exact h2 h
  ·obtain⟨o,ho⟩:=Option.isSome_iff_exists.1 h1
   have:=(hsubN n o ho).1
   have:=(l4 n h).1
   omega
 refine⟨ro,o1,⟨?_,hro',?_,?_,fun n hn=>((ho1D n).1 hn).2,⟨_,l3⟩,?_,l4,l5,fun n hn=>(hkey n).2 (hrd.mem n hn)⟩⟩
 ·refine AC.of_body (X:=X) he.T hPf hb hname rfl (ms:=ms) rfl hal (qBs fun n hn => ?_) (fun n hn=>((hmsD n).1 hn).2) (fun n hn h => ?_) (qBs fun n hn => ?_) (qBs fun n hn => ?_) ?_
  ·rw [qKy,List.mem_append];exact ((hmsD n).1 hn).1
  ·rw [qQ3,List.mem_append,qQ3,List.mem_append] at h
   have h0:=((hmsD n).1 hn).2
   rw [qQ3,List.mem_append] at h0
   rcases h with h|h|h
   ·exact h0 (.inl h)
   ·exact h0 (.inr ((ho1D n).2 ⟨hchsub n h,h⟩))
   ·have:=(l4 n h).1
    have:=hmsL n hn
    omega
  ·rw [List.mem_append] at hn ⊢
   by_cases hk:n∈qQa (ro++o1)
   ·exact .inl hk
   ·refine .inr ((hmsD n).2 ⟨?_,hk⟩)
    rcases hn with hn|hn
    ·exact .inl hn
    ·rcases mem_namesOb.1 hn with h|h
     ·exact absurd h hk
     ·exact .inr h
  ·rw [List.mem_append] at hn
   simp only [List.mem_append]
   have hme:n∈r.x.names∨n∈qJv (r.ch++r.nw)→(n∈qQa (ro++o1)∨n∈ms)∨n∈qQa (ro++(r.ch++r.nw)):=by
    intro h
    rcases l6 n h with h|h
    ·exact .inl (.inl ((hkey n).2 h))
    ·refine .inr ?_
     rw [qQ3,qQ3,List.mem_append,List.mem_append]
     exact .inr (.inr h)
   rcases hn with hn|hn
   ·exact hme (.inl hn)
   ·rcases mem_namesOb.1 hn with h|h
    ·exact .inr h
    ·obtain⟨p,hp,hkp⟩:=mem_mentO.1 h
     rcases List.mem_append.1 hp with hp|hp
     ·by_cases hk:n∈qQa (ro++o1)
      ·exact .inl (.inl hk)
      ·exact .inl (.inr ((hmsD n).2 ⟨.inr (mem_mentO.2 ⟨p,by simp [hp],hkp⟩),hk⟩))
     ·exact hme (.inr (mem_mentO.2 ⟨p,hp,hkp⟩))
  ·refine AWP.post hA fun ae σ' hq => ?_
   obtain⟨⟨σ'',h1,h2,h3,s'',h4,h5,h6⟩,h7⟩:=hend ae σ' hq
   refine⟨⟨σ'',h1,?_⟩,h7⟩
   obtain⟨m1,m2,m3,_⟩:=hlast s'' h5 h6
   have hsub:qCo (ro++(r.ch++r.nw)) σ''.objs:=by
    refine qEu fun p hp => ?_
    rw [h4.ob]
    rcases List.mem_append.1 hp with hp|hp
    ·have h8:=(hroD p.1).1 (keysO_mem.2 ⟨p.2,hp⟩)
     have h9:=hent p.1 p.2 (by simp [hp])
     rw [h5.same p.1 (hsubN p.1 p.2 h9).1 (fun hd=>h8.2 (m2 p.1 hd))]
     exact h9
    ·exact m3 p.1 p.2 hp
   rcases h2 with rfl|rfl
   ·exact⟨h3,hsub⟩
   ·exact⟨h3,hsub⟩
 ·intro p hp
  exact (hrd.get p.1 p.2 (hent p.1 p.2 hp)).1
 ·intro n hn
  rw [← qQ3] at hn
  obtain⟨o,ho⟩:=Option.isSome_iff_exists.1 ((hkey n).1 hn)
  exact (hrd.get n o ho).2.2.1
 ·intro n hn
  have h1:=hchsub n hn
  obtain⟨o,ho⟩:=Option.isSome_iff_exists.1 h1
  refine⟨(hsubN n o ho).1,?_,(ho1D n).2 ⟨h1,hn⟩⟩
  rw [(hrd.get n o ho).1]
  rfl
theorem zD3 {o:Option V} {r:RB} (h:ro o=some r):r.wr=none:=by
 obtain⟨v,_,rfl⟩:=qWt h;rfl
theorem zD4 {x:V} {r:RB} (h:rb x=some r):r.wr=none:=by cases h;rfl
theorem qPw {ti:TI} {ob:Nat→Option Ob} {x y:V} {r:RB} (h:qBk ti ob x y=some r) {n:Nat} {o:Ob} (hw:r.wr=some (n,o)):(ob n).isSome=true:=by
 unfold qBk at h
 split at h
 ·cases h
 ·replace h:=(qQe h).2
  replace h:=(qQe h).2
  split at h
  ·split at h
   ·rename_i eo
    split at h
    ·cases h
     cases hw
     rw [eo];rfl
    ·cases h
   ·cases h
  ·split at h
   ·rename_i eo
    replace h:=(qQe h).2
    replace h:=(qQe h).2
    split at h
    ·cases h
     cases hw
     rw [eo];rfl
    ·cases h
   ·cases h
  ·obtain⟨_,_,_,_,_,_,rfl⟩:=qLo h
   cases hw
  ·cases h
theorem qNp {e:Nat} {te:TI} {ob:Nat→Option Ob} {nx:Nat} {x y:V} {r:RB} (h:qK1 e te ob nx x y=some r) {n:Nat} {o:Ob} (hw:r.wr=some (n,o)) (hn:r.new=false):(ob n).isSome=true:=by
 unfold qK1 at h
 split at h
 ·split at h
  ·rename_i eo ey
   replace h:=(qQe h).2
   cases h
   cases hw
   rw [eo];rfl
  ·cases h
 ·split at h
  ·replace h:=(qQe h).2
   cases h
   cases hw
  ·cases h
 ·split at h
  ·replace h:=(qQe h).2
   cases h
   cases hn
  ·cases h
 ·cases h
theorem zWm {e:Nat} {te:TI} {nx len:Nat} {es:List (List V)} {r:RB} (h:zYz e te nx len es=some r) {n:Nat} {o:Ob} (hw:r.wr=some (n,o)) (hn:r.new=false):False:=by
 unfold zYz at h
 replace h:=(qQe h).2
 split at h
 ·cases h;cases hw
 ·cases h;cases hn
theorem zY3 {T:Nat→Option TI} {nx:Nat} {val:Operand→V} {ob:Nat→Option Ob} {dst:Option Nat} {op:Op} {r:RB} (h:opE T nx val ob dst op=some r) {n:Nat} {o:Ob} (hw:r.wr=some (n,o)) (hn:r.new=false):(ob n).isSome=true:=by
 have h1:∀ {x:V},rb x=some r→(ob n).isSome=true:=fun h=>by rw [zD4 h] at hw;cases hw
 have h2:∀ {x:Option V},ro x=some r→(ob n).isSome=true:=fun h=>by rw [zD3 h] at hw;cases hw
 unfold opE at h
 split at h
 ·exact h1 h
 ·exact h1 h
 ·split at h
  ·exact h1 h
  ·exact h1 h
  ·cases h
 ·unfold qPh at h
  split at h
  ·cases h;cases hn
  ·cases h
 ·unfold zD1 at h
  split at h
  ·replace h:=(qQe h).2
   cases h;cases hn
  ·cases h
 ·exact h2 h
 ·split at h
  ·exact h1 h
  ·split at h
   ·exact h1 h
   ·cases h
 ·split at h
  ·split at h
   ·split at h
    ·exact (zWm h hw hn).elim
    ·cases h
   ·cases h
  ·cases h
 ·split at h
  ·exact h2 h
  ·cases h
 ·split at h
  ·split at h
   ·exact qPw h hw
   ·cases h
  ·cases h
 ·exact h2 h
 ·split at h
  ·exact h2 h
  ·cases h
 ·split at h
  ·exact h1 h
  ·cases h
 ·split at h
  ·split at h
   ·rename_i ti et _ p ep
    cases e:ti.k.isIface with
    | true=>rw [e] at h;cases h
    | false=>rw [e] at h;exact h1 h
   ·cases h
  ·cases h
 ·exact h2 h
 ·exact h2 h
 ·exact h2 h
 ·exact h2 h
 ·split at h
  ·unfold qLu at h
   split at h
   ·cases h;cases hn
   ·cases h
  ·cases h
 ·exact (qLv h).2.2 n o hw
 ·split at h
  ·exact h2 h
  ·cases h
 ·exact h2 h
 ·split at h
  ·rename_i ti et
   cases e:ti.k.isIface with
   | true=>rw [e] at h;cases h
   | false=>rw [e] at h;exact h2 h
  ·cases h
 ·split at h
  ·cases h;cases hn
  ·cases h
 ·split at h
  ·split at h
   ·obtain⟨_,_,n',⟨o',ho'⟩,hs⟩:=qAg h
    rw [ho'] at hw;cases hw;exact hs
   ·cases h
  ·cases h
 ·split at h
  ·split at h
   ·obtain⟨_,_,n',⟨o',ho'⟩,hs⟩:=qAg h
    rw [ho'] at hw;cases hw;exact hs
   ·cases h
  ·cases h
 ·split at h
  ·split at h
   ·split at h
    ·exact h2 h
    ·cases h
   ·cases h
  ·cases h
 ·split at h
  ·split at h
   ·exact h2 h
   ·cases h
  ·exact h2 h
  ·cases h
 ·split at h
  ·split at h
   ·exact h2 h
   ·exact h2 h
   ·cases h
  ·cases h
 ·split at h
  ·replace h:=(qQe h).2
   split at h
   ·split at h
    ·exact qNp h hw hn
    ·cases h
   ·cases h
  ·cases h
 ·split at h
  ·split at h
   ·exact h1 h
   ·cases h
  ·cases h
 ·cases h
theorem qLy {bs n m:Nat} {l:List Nat} (h:m∈zZx bs n l):(m=n∧n<bs)∨m∈l:=by
 unfold zZx at h
 cases e:Nat.blt n bs with
 | true=>rw [e] at h;rcases List.mem_cons.1 h with h|h<;>first|exact .inl ⟨h,qJ6 e⟩|exact .inr h
 | false=>rw [e] at h;exact .inr h
theorem qGp {bs n m:Nat} {l:List Nat} (h:m∈l):m∈zZx bs n l:=by
 unfold zZx
 cases Nat.blt n bs
 ·exact h
 ·exact List.mem_cons_of_mem _ h
theorem qGq {bs n:Nat} {l:List Nat} (h:n<bs):n∈zZx bs n l:=by
 unfold zZx
 rw [qJz,decide_eq_true h]
 simp
theorem Inv.slot {bs:Nat} {sub:Tr Ob} {s:IS} (h:Inv bs sub s) (t:Tr V):Inv bs sub ⟨t,s.ob,s.nx,s.dt⟩:=⟨h.le,h.same,h.old,h.names,h.dts⟩
theorem zWn {bs:Nat} {sub:Tr Ob} {s:IS} (h:Inv bs sub s) {T:Nat→Option TI} {val:Operand→V} {dst:Option Nat} {op:Op} {r:RB} (hr:opE T s.nx val s.ob.get dst op=some r) (d:Option Nat):Inv bs sub (s.app bs d r):=by
 unfold IS.app
 cases hw:r.wr with
 | none=>exact h.slot _
 | some p =>
  obtain⟨n,o⟩:=p
  cases hn:r.new with
  | true =>
   obtain⟨note,_,hnx⟩:=zZw hr
   obtain⟨o',ho'⟩:=hnx hn
   rw [hw] at ho'
   cases ho'
   have:=h.le
   refine⟨Nat.le_succ_of_le h.le,fun m hm hd => ?_,fun m hm hs => ?_,h.names,h.dts⟩
   ·show (s.ob.put s.nx (some o)).get m=_
    rw [Tr.get_put,if_neg (by omega)]
    exact h.same m hm hd
   ·have hs:((s.ob.put s.nx (some o)).get m).isSome=true:=hs
    rw [Tr.get_put,if_neg (by omega)] at hs
    exact h.old m hm hs
  | false =>
   have hsome:=zY3 hr hw hn
   refine⟨h.le,fun m hm hd => ?_,fun m hm hs => ?_,h.names,fun m hm => ?_⟩
   ·show (s.ob.put n (some o)).get m=_
    have hne:m≠n:=by rintro rfl;exact hd (qGq hm)
    rw [Tr.get_put,if_neg hne]
    exact h.same m hm (fun hm'=>hd (qGp hm'))
   ·have hs:((s.ob.put n (some o)).get m).isSome=true:=hs
    rw [Tr.get_put] at hs
    by_cases e:m=n
    ·subst e;exact h.old m hm hsome
    ·rw [if_neg e] at hs;exact h.old m hm hs
   ·rcases qLy hm with ⟨rfl,h1⟩|h1
    ·exact h1
    ·exact h.dts m h1
theorem qGr (l:List (Nat × Ob)) (n m:Nat) (o:Ob):qQc (qWf l [(n,some o)]) m=if m=n then some o else qQc l m:=by
 simp only [qWf,zDy]
 exact qQo l n m o
theorem qEx {s:IS} {σ:St} (h:Rel s σ) (d:Option Nat) (x:V) (t:Nat):qZw (qAt d x σ.slots) t=(match (qHq s.sl d x).get t with|some v=>v|none => .undef):=by
 rw [qJw]
 cases d with
 | none=>simp only [qHq];exact h.sl t
 | some d =>
  simp only [qHq,Tr.get_put]
  by_cases e:d=t
  ·subst e;simp
  ·have e':¬ t=d:=fun h=>e h.symm
   rw [if_neg (by simpa using e),if_neg e']
   exact h.sl t
theorem qBu:∀ (l:List (Nat × Ob)) (t:Tr Ob) (G:Nat→Option Ob),(∀ n o,(n,o)∈l→G n=some o)→∀ n,(qXo l t).get n=if n∈qQa l then G n else t.get n
 | [],t,G,_,n=>by simp [qXo,qQa]
 | (k,o)::r,t,G,h,n=>by
  simp only [qXo]
  rw [qBu r _ G (fun n q hq=>h n q (by simp [hq])),Tr.get_put]
  have hk:qQa ((k,o)::r)=k::qQa r:=rfl
  rw [hk]
  by_cases h1:n∈qQa r
  ·rw [if_pos h1,if_pos (by simp [h1])]
  ·rw [if_neg h1]
   by_cases e:n=k
   ·subst e
    rw [if_pos rfl,if_pos (by simp),h n o (by simp)]
   ·rw [if_neg e,if_neg (by simp [e,h1])]
theorem qGs {bs m:Nat} : ∀ {l:List (Nat × Ob)} {d:List Nat},m∈qGm bs l d→(m∈qQa l∧m<bs)∨m∈d
 | [],d,h => .inr h
 | (n,o)::r,d,h=>by
  simp only [qGm] at h
  have hk:qQa ((n,o)::r)=n::qQa r:=rfl
  rcases qGs h with h|h
  ·exact .inl ⟨by rw [hk];simp [h.1],h.2⟩
  ·rcases qLy h with ⟨rfl,h⟩|h
   ·exact .inl ⟨by rw [hk];simp,h⟩
   ·exact .inr h
theorem qX5 {bs m:Nat} : ∀ {l:List (Nat × Ob)} {d:List Nat},m∈d→m∈qGm bs l d
 | [],d,h=>h
 | (n,o)::r,d,h=>by simp only [qGm];exact qX5 (qGp h)
theorem qDk {bs m:Nat} (hm:m<bs):∀ {l:List (Nat × Ob)} {d:List Nat},m∈qQa l→m∈qGm bs l d
 | [],d,h=>by simp [qQa] at h
 | (n,o)::r,d,h=>by
  simp only [qGm]
  have hk:qQa ((n,o)::r)=n::qQa r:=rfl
  rw [hk] at h
  rcases List.mem_cons.1 h with rfl|h
  ·exact qX5 (qGq hm)
  ·exact qDk hm h
section
variable {P:Program} {gl:Nat→Option (List PV)} {s:IS} {f:Nat} {args:List V} {r:Res} {ks:List Nat} {o1 ro:List (Nat × Ob)}
theorem Called.get (h:Called P gl s f args r ks ro o1) (t:Tr Ob):∃ G:Nat→Option Ob,(∀ n,(qXo r.nw (qXo r.ch t)).get n=if n∈qQa (r.ch++r.nw) then G n else t.get n) ∧ ∀ n,qQc (r.ch++r.nw) n=if n∈qQa (r.ch++r.nw) then G n else none:=by
 obtain⟨G,hG⟩:=h.gfn
 refine⟨G,fun n => ?_,fun n => ?_⟩
 ·have hk:n∈qQa (r.ch++r.nw)↔n∈qQa r.ch∨n∈qQa r.nw:=by rw [qQ3,List.mem_append]
  rw [qBu r.nw _ G (fun n o ho=>hG n o (by simp [ho])),qBu r.ch _ G (fun n o ho=>hG n o (by simp [ho]))]
  by_cases h1:n∈qQa r.nw
  ·rw [if_pos h1,if_pos (hk.2 (.inr h1))]
  ·rw [if_neg h1]
   by_cases h2:n∈qQa r.ch
   ·rw [if_pos h2,if_pos (hk.2 (.inl h2))]
   ·rw [if_neg h2,if_neg (fun h=>by rcases hk.1 h with h|h<;>contradiction)]
 ·by_cases h1:n∈qQa (r.ch++r.nw)
  ·rw [if_pos h1];exact qLw hG n h1
  ·rw [if_neg h1];exact qGo h1
theorem Called.inv (h:Called P gl s f args r ks ro o1) {bs:Nat} {sub:Tr Ob} (hI:Inv bs sub s) (d:Option Nat):Inv bs sub (qEp bs s d r):=by
 obtain⟨G,hG,_⟩:=h.get s.ob
 have:=hI.le
 have:=h.le
 refine⟨by show bs≤r.nx;omega,fun m hm hd => ?_,fun m hm hs => ?_,hI.names,fun m hm => ?_⟩
 ·show (qXo r.nw (qXo r.ch s.ob)).get m=_
  rw [hG,if_neg]
  ·exact hI.same m hm (fun hm'=>hd (qX5 hm'))
  ·rw [qQ3,List.mem_append]
   rintro (h1|h1)
   ·exact hd (qDk hm h1)
   ·have:=(h.nws m h1).1;omega
 ·have hs:((qXo r.nw (qXo r.ch s.ob)).get m).isSome=true:=hs
  rw [hG] at hs
  split at hs
  ·rename_i h1
   rw [qQ3,List.mem_append] at h1
   rcases h1 with h1|h1
   ·exact hI.old m hm (h.chs m h1).2.1
   ·have:=(h.nws m h1).1;omega
  ·exact hI.old m hm hs
 ·rcases qGs hm with h1|h1
  ·exact h1.2
  ·exact hI.dts m h1
theorem Called.rel (h:Called P gl s f args r ks ro o1) {σ:St} (hR:Rel s σ) (bs:Nat) (d:Option Nat):Rel (qEp bs s d r) (σ.eff d (qV4 r.x ro o1 (r.ch++r.nw))):=by
 obtain⟨G,hG,hG'⟩:=h.get s.ob
 refine⟨fun t=>qEx hR d r.x t,fun n => ?_,fun n hn => ?_⟩
 ·show qQc (qWf σ.objs (qKn o1 (r.ch++r.nw))) n=(qXo r.nw (qXo r.ch s.ob)).get n
  rw [qZi,hG,hG']
  by_cases h1:n∈qQa (r.ch++r.nw)
  ·rw [if_pos h1,if_pos h1]
   have h2:=qQ7 h1
   obtain⟨o,ho⟩:=h2
   rw [hG',if_pos h1] at ho
   rw [ho]
  ·rw [if_neg h1,if_neg h1]
   simp only
   rw [if_neg]
   ·exact hR.ob n
   ·intro h2
    exact h1 (by rw [qQ3];simp [h.inch n h2])
 ·have hn:n∈(qQa (r.ch++r.nw)).filter (fun n=>(qQc o1 n).isNone)++σ.used:=hn
  show n<r.nx
  have hle:=h.le
  rcases List.mem_append.1 hn with hn|hn
  ·obtain⟨h1,h2⟩:=List.mem_filter.1 hn
   rw [qQ3,List.mem_append] at h1
   rcases h1 with h1|h1
   ·have:=(h.chs n h1).1;omega
   ·exact (h.nws n h1).2
  ·have:=hR.us n hn;omega
theorem Called.op (h:Called P gl s f args r ks ro o1) {X:qZ5} (hP:X.P=P) (hgl:X.gl=gl) {σ:St} (hR:Rel s σ) {o:Oper} (hf:qZ3 (σ.val X.gl) o.op=some (f,args)):OpW X o σ (qV4 r.x ro o1 (r.ch++r.nw)):=by
 subst hP hgl
 refine OpW.callR f args ro o1 r.x (r.ch++r.nw) hf h.ac h.apart (qEu fun p hp => ?_) (fun n hn hu => ?_)
 ·rw [hR.ob];exact h.subs p hp
 ·have hn:n∈(qQa (r.ch++r.nw)).filter (fun n=>(qQc o1 n).isNone):=hn
  obtain⟨h1,h2⟩:=List.mem_filter.1 hn
  rw [qQ3,List.mem_append] at h1
  have:=hR.us n hu
  rcases h1 with h1|h1
  ·obtain⟨q,hq⟩:=qQ7 (h.chs n h1).2.2
   rw [hq] at h2
   cases h2
  ·have:=(h.nws n h1).1;omega
end
def qGt (ev:qVk) (P:Program) (call:Call):Prop:=∀ (f:Nat) (args:List V) (s:IS) (r:Res) (ks:List Nat),call f args s=some (r,ks)→∃ ro o1,Called P ev.gl s f args r ks ro o1
def zZ0 (e:Eff) (tc:Tc):Prop:=(∀ n∈e.wn,n∈tc.wn) ∧ ∀ n∈e.rd,n∈tc.rd
section
variable {ev:qVk} {P:Program} {call:Call}
theorem zWo (hg:qGt ev P call) {bs:Nat} {o:Oper} {s s1:IS} {tc:Tc} (h:doI ev call bs o s=some (s1,tc)) {sub:Tr Ob} (hI:Inv bs sub s):Inv bs sub s1:=by
 unfold doI at h
 split at h
 ·unfold callR at h
  split at h
  ·rename_i r ks hc
   cases h
   obtain⟨ro,o1,hC⟩:=hg _ _ _ _ _ hc
   exact hC.inv hI _
  ·cases h
 ·split at h
  ·rename_i r hr
   cases h
   exact zWn hI hr _
  ·cases h
theorem zY4 (hg:qGt ev P call) {bs:Nat} {o:Oper} {s s1:IS} {tc:Tc} (h:doI ev call bs o s=some (s1,tc)) {X:qZ5} (hP:X.P=P) (hXT:X.T=ev.T) (hgl:X.gl=ev.gl) {σ:St} (hR:Rel s σ) :
  ∃ e,OpW X o σ e∧Rel s1 (σ.eff o.dst e)∧zZ0 e tc:=by
 unfold doI at h
 split at h
 ·rename_i f args hf
  unfold callR at h
  split at h
  ·rename_i r ks hc
   cases h
   obtain⟨ro,o1,hC⟩:=hg _ _ _ _ _ hc
   refine⟨_,hC.op hP hgl hR (by rw [hR.val,hgl];exact hf),hC.rel hR bs _,fun n hn => ?_,fun n hn => ?_⟩
   ·have hn:n∈(qKn o1 (r.ch++r.nw)).map (·.1):=hn
    simp only [qKn,List.map_append,List.map_map,List.mem_append] at hn ⊢
    rcases hn with hn|hn
    ·obtain⟨m,hm,rfl⟩:=List.mem_map.1 hn
     have:=hC.inch m (List.mem_filter.1 hm).1
     exact .inl this
    ·obtain⟨p,hp,rfl⟩:=List.mem_map.1 hn
     rw [List.mem_reverse,List.mem_append] at hp
     rcases hp with hp|hp
     ·exact .inl (List.mem_map.2 ⟨p,hp,rfl⟩)
     ·exact .inr (List.mem_map.2 ⟨p,hp,rfl⟩)
   ·exact hC.kss n hn
  ·cases h
 ·rename_i hf
  split at h
  ·rename_i r hr
   cases h
   obtain⟨note,⟨q,hq,hc,hx,hw,hn⟩,hnx⟩:=zZw hr
   have hval:=hR.val ev.gl
   have hOW:OpW X o σ (q.eff (rdN (σ.val X.gl) o.op)):=by
    refine .step note q ?_ hc fun n hnn => ?_
    ·rw [hgl,hXT,hval,hR.obf];exact hq
    ·simp only [R.eff,hw,hn] at hnn
     cases hwr:r.wr with
     | none=>rw [hwr] at hnn;simp at hnn
     | some p =>
      obtain⟨m,ob⟩:=p
      rw [hwr] at hnn
      cases hnw:r.new with
      | false=>rw [hnw] at hnn;simp at hnn
      | true =>
       rw [hnw] at hnn
       obtain⟨o',ho'⟩:=hnx hnw
       rw [hwr] at ho'
       cases ho'
       simp at hnn
       subst hnn
       intro hu
       exact absurd (hR.us _ hu) (Nat.lt_irrefl _)
   refine⟨_,hOW,?_,?_,?_⟩
   ·-- the state
    refine⟨fun t => ?_,fun n => ?_,fun n hnn => ?_⟩
    ·have:qZw (qAt o.dst q.out σ.slots) t=_:=qEx hR o.dst q.out t
     rw [hx] at this
     show qZw (qAt o.dst q.out σ.slots) t=_
     rw [hx,this]
     unfold IS.app
     cases r.wr with
     | none=>rfl
     | some p=>cases r.new<;>rfl
    ·show qQc (qWf σ.objs (match q.wr with|some (n,o)=>[(n,some o)]|none=>[])) n=_
     rw [hw]
     unfold IS.app
     cases hwr:r.wr with
     | none=>exact hR.ob n
     | some p =>
      obtain⟨m,ob⟩:=p
      simp only
      rw [qGr,hR.ob]
      cases r.new<;>exact (Tr.get_put _ _ _ _).symm
    ·have hnn:n∈(match q.wr,q.new with|some (n,_),true=>[n]|_,_=>[])++σ.used:=hnn
     rw [hw,hn] at hnn
     unfold IS.app
     cases hwr:r.wr with
     | none=>rw [hwr] at hnn;simp at hnn;exact hR.us n hnn
     | some p =>
      obtain⟨m,ob⟩:=p
      rw [hwr] at hnn
      cases hnw:r.new with
      | false=>rw [hnw] at hnn;simp at hnn;exact hR.us n hnn
      | true =>
       rw [hnw] at hnn
       obtain⟨o',ho'⟩:=hnx hnw
       rw [hwr] at ho'
       cases ho'
       simp at hnn
       show n<Nat.succ s.nx
       rcases hnn with h1|h1
       ·subst h1;exact Nat.lt_succ_self _
       ·exact Nat.lt_succ_of_lt (hR.us n h1)
   ·intro n hnn
    simp only [Eff.wn,R.eff,hw] at hnn
    cases hwr:r.wr with
    | none=>rw [hwr] at hnn;simp at hnn
    | some p =>
     obtain⟨m,ob⟩:=p
     rw [hwr] at hnn
     simpa using hnn
   ·intro n hnn
    have hnn:n∈rdN (σ.val X.gl) o.op:=hnn
    rw [hgl,hval] at hnn
    exact hnn
  ·cases h
end
end Go.Lg
