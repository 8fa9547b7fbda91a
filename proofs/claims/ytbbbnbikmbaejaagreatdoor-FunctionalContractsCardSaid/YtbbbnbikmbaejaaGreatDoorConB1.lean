/- The engine that computes runs; no conditions. -/
import Derived.Test.YtbbbnbikmbaejaaGreatDoorConA4
set_option linter.all false
namespace Go.Lg
inductive Tr (α:Type) where
 | nil
 | node (l:Tr α) (v:Option α) (r:Tr α)
theorem qPi {a b:Nat} (h:a=b):Nat.beq a b=true:=by subst h;exact Nat.beq_refl a
theorem zQu {a b:Nat} (h:a≠b):Nat.beq a b=false:=by
 cases e:Nat.beq a b with
 | false=>rfl
 | true=>simp_all
def Tr.get {α:Type} : Tr α→Nat→Option α
 | .nil,_=>none
 | .node l v r,i=>bif Nat.beq i 0 then v else bif Nat.beq (Nat.mod i 2) 1 then l.get (Nat.div i 2) else r.get (Nat.pred (Nat.div i 2))
def Tr.putF {α:Type} : Nat→Tr α→Nat→Option α→Tr α
 | 0,t,_,_=>t
 | f+1,.nil,i,x=>bif Nat.beq i 0 then .node .nil x .nil else bif Nat.beq (Nat.mod i 2) 1 then .node (Tr.putF f .nil (Nat.div i 2) x) none .nil else .node .nil none (Tr.putF f .nil (Nat.pred (Nat.div i 2)) x)
 | f+1,.node l v r,i,x=>bif Nat.beq i 0 then .node l x r else bif Nat.beq (Nat.mod i 2) 1 then .node (Tr.putF f l (Nat.div i 2) x) v r else .node l v (Tr.putF f r (Nat.pred (Nat.div i 2)) x)
def Tr.put {α:Type} (t:Tr α) (i:Nat) (x:Option α):Tr α:=Tr.putF (Nat.succ i) t i x
def Tr.map {α β:Type} (f:α→β):Tr α→Tr β
 | .nil => .nil
 | .node l v r => .node (l.map f) (v.map f) (r.map f)
theorem Tr.get_nil {α:Type} (i:Nat):(Tr.nil:Tr α).get i=none:=rfl
theorem Tr.get_node {α:Type} (l:Tr α) (v:Option α) (r:Tr α) (i:Nat):(Tr.node l v r).get i=if i=0 then v else if i % 2=1 then l.get (i / 2) else r.get (i / 2-1):=by
 show (bif Nat.beq i 0 then v else bif Nat.beq (Nat.mod i 2) 1 then l.get (Nat.div i 2) else r.get (Nat.pred (Nat.div i 2)))=_
 by_cases h:i=0
 ·simp_all
 ·rw [if_neg h,zQu h]
  by_cases h1:i % 2=1
  ·rw [if_pos h1,show Nat.beq (Nat.mod i 2) 1=true from qPi h1];rfl
  ·rw [if_neg h1,show Nat.beq (Nat.mod i 2) 1=false from zQu h1];rfl
theorem Tr.get_putF {α:Type} : ∀ (f:Nat) (t:Tr α) (i:Nat) (x:Option α) (j:Nat),i<f→(Tr.putF f t i x).get j=if j=i then x else t.get j
 | 0,_,_,_,_,h=>absurd h (Nat.not_lt_zero _)
 | f+1,t,i,x,j,h=>by
  have key:∀ (l:Tr α) (v:Option α) (r:Tr α),
    (bif Nat.beq i 0 then Tr.node l x r else bif Nat.beq (Nat.mod i 2) 1 then .node (Tr.putF f l (Nat.div i 2) x) v r else .node l v (Tr.putF f r (Nat.pred (Nat.div i 2)) x)).get j=if j=i then x else (Tr.node l v r).get j:=by
   intro l v r
   by_cases h0:i=0
   ·subst h0
    show (Tr.node l x r).get j=_
    rw [Tr.get_node,Tr.get_node]
    simp_all
   ·rw [show Nat.beq i 0=false from zQu h0]
    simp only [cond_false]
    by_cases h1:i % 2=1
    ·rw [show Nat.beq (Nat.mod i 2) 1=true from qPi h1]
     simp only [cond_true]
     rw [Tr.get_node,Tr.get_node]
     have ih:=Tr.get_putF f l (i / 2) x (j / 2) (by omega)
     by_cases hj:j=0
     ·grind
     ·rw [if_neg hj,if_neg hj]
      by_cases h2:j % 2=1
      ·rw [if_pos h2,if_pos h2]
       refine ih.trans ?_
       grind
      grind
    ·rw [show Nat.beq (Nat.mod i 2) 1=false from zQu h1]
     simp only [cond_false]
     rw [Tr.get_node,Tr.get_node]
     have ih:=Tr.get_putF f r (i / 2-1) x (j / 2-1) (by omega)
     by_cases hj:j=0
     ·grind
     ·rw [if_neg hj,if_neg hj]
      by_cases h2:j % 2=1
      ·rw [if_pos h2,if_pos h2,if_neg (by omega)]
      ·rw [if_neg h2,if_neg h2]
       refine ih.trans ?_
       grind
  cases t with
  | nil =>
   have:=key .nil none .nil
   simp only [Tr.get_node,Tr.get_nil,ite_self] at this ⊢
   exact this
  | node l v r=>exact key l v r
theorem Tr.get_put {α:Type} (t:Tr α) (i:Nat) (x:Option α) (j:Nat):(t.put i x).get j=if j=i then x else t.get j:=Tr.get_putF _ t i x j (Nat.lt_succ_self i)
theorem Tr.get_map {α β:Type} (f:α→β):∀ (t:Tr α) (i:Nat),(t.map f).get i=(t.get i).map f
 | .nil,_=>rfl
 | .node l v r,i=>by
  show (Tr.node (l.map f) (v.map f) (r.map f)).get i=_
  rw [Tr.get_node,Tr.get_node]
  split
  ·rfl
  ·split
   ·exact Tr.get_map f l _
   ·exact Tr.get_map f r _
def qF7 {α:Type} : List α→Nat→List α
 | [],_=>[]
 | a::l,n=>match n with
  | 0=>a::l
  | m+1=>qF7 l m
theorem qX0 {α:Type} : ∀ (l:List α) (n:Nat),qF7 l n=l.drop n
 | [],n=>by simp [qF7]
 | a::l,0=>rfl
 | a::l,n+1=>by simp [qF7,List.drop_succ_cons,qX0]
def qI1 {α:Type} : List α→Nat→Option (List α)
 | [],n=>match n with
  | 0=>some []
  | _+1=>none
 | a::l,n=>match n with
  | 0=>some []
  | m+1=>match qI1 l m with
   | some r=>some (a::r)
   | none=>none
theorem qX1 {α:Type} : ∀ (l:List α) (n:Nat),qI1 l n=if n≤l.length then some (l.take n) else none
 | [],0=>rfl
 | [],n+1=>rfl
 | a::l,0=>rfl
 | a::l,n+1=>by
  simp only [qI1,qX1 l n,List.length_cons,Nat.add_le_add_iff_right]
  grind
def qXs {α:Type} : List α→Nat→Option α
 | [],_=>none
 | a::l,n=>match n with
  | 0=>some a
  | m+1=>qXs l m
theorem qJh {α:Type} : ∀ (l:List α) (n:Nat),qXs l n=l[n]?
 | [],n=>by simp [qXs]
 | a::l,0=>rfl
 | a::l,n+1=>by simp [qXs,qJh]
def qPj {α:Type} : List α→Nat→List α→Option (List α)
 | cs,0,[]=>some cs
 | [],0,_::_=>none
 | _::cs,0,y::ys=>match qPj cs 0 ys with
  | some r=>some (y::r)
  | none=>none
 | [],_+1,_=>none
 | c::cs,n+1,ys=>match qPj cs n ys with
  | some r=>some (c::r)
  | none=>none
theorem qB9 {α:Type} : ∀ (cs:List α) (n:Nat) (ys r:List α),qPj cs n ys=some r→n+ys.length≤cs.length∧r=cs.take n++ys++cs.drop (n+ys.length)
 | cs,0,[],r,h=>by grind [qPj,Option.some.injEq]
 | [],0,_::_,r,h=>by grind [qPj]
 | c::cs,0,y::ys,r,h=>by
  simp only [qPj] at h
  split at h
  ·rename_i r' hr
   obtain⟨h1,h2⟩:=qB9 cs 0 ys r' hr
   simp_all
  ·cases h
 | [],n+1,ys,r,h=>by grind [qPj]
 | c::cs,n+1,ys,r,h=>by
  simp only [qPj] at h
  split at h
  ·rename_i r' hr
   obtain⟨h1,h2⟩:=qB9 cs n ys r' hr
   grind
  ·cases h
structure RB where
 x:V
 wr:Option (Nat × Ob)
 new:Bool
def rb (x:V):Option RB:=some ⟨x,none,false⟩
def qAn:List Nat→Nat→Bool
 | [],_=>false
 | k::r,n=>bif Nat.beq k n then true else qAn r n
theorem qZo:∀ (l:List Nat) (n:Nat),qAn l n=true↔n∈l
 := by intro x;induction x<;>simp_all [qAn,qPi,zQu,cond_false,List.mem_cons,absurd]<;>grind
def inB:Int→Bool
 | .ofNat n=>Nat.ble n 9223372036854775807
 | .negSucc n=>Nat.ble n 9223372036854775807
theorem zWf {x:Int} (h:inB x=true):inI x:=by
 cases x with
 | ofNat n=>have:=Nat.le_of_ble_eq_true h;constructor<;>simp only [Int.ofNat_eq_natCast]<;>omega
 | negSucc n=>have:=Nat.le_of_ble_eq_true h;constructor<;>omega
def ltI:Int→Int→Bool
 | .ofNat m,.ofNat n=>Nat.blt m n
 | .negSucc m,.negSucc n=>Nat.blt n m
 | .negSucc _,.ofNat _=>true
 | .ofNat _,.negSucc _=>false
theorem qVd (m n:Nat):Nat.blt m n=decide (m<n):=by
 grind [Nat.blt,Nat.le_of_ble_eq_true,decide_eq_true,decide_eq_false,Nat.ble,Nat.ble_eq_true_of_le]
theorem qQn (a b:Int):ltI a b=decide (a<b):=by
 cases a<;>cases b<;>simp only [ltI]
 ·rw [qVd];simp
 ·rfl
 ·grind
 grind [qVd]
def eqI:Int→Int→Bool
 | .ofNat m,.ofNat n=>Nat.beq m n
 | .negSucc m,.negSucc n=>Nat.beq m n
 | _,_=>false
theorem qMr (m n:Nat):Nat.beq m n=decide (m=n):=by
 grind [qPi,zQu]
theorem qJv (a b:Int):eqI a b=decide (a=b):=by
 cases a<;>cases b<;>simp only [eqI]
 ·rw [qMr];grind
 ·rfl
 ·rfl
 simp [qMr]
def Got (o:Option R) (x:V):Prop:=∃ q,o=some q∧q.cond∧q.out=x∧q.wr=none∧q.new=false
def bv (b:Bool):V:=.pv (.bool b)
def qHi (x:Int):Option V:=bif inB x then some (.pv (.int x)) else none
def qTn (op:BinOp) (a b:Int):Option V:=match op with
 | .add=>qHi (a+b)
 | .sub=>qHi (a-b)
 | .mul=>qHi (a * b)
 | .rem=>bif eqI b 0 then none else some (.pv (.int (a.tmod b)))
 | .lss=>some (bv (ltI a b))
 | .leq=>some (bv (!ltI b a))
 | .gtr=>some (bv (ltI b a))
 | .geq=>some (bv (!ltI a b))
 | .eql=>some (bv (eqI a b))
 | .neq=>some (bv (!eqI a b))
 | _=>none
theorem zQv {op:BinOp} {a b:Int} {x:V} (h:qTn op a b=some x):Got (qBk op a b) x:=by
 have hv:∀ c:Int,qHi c=some x→Got (some (R.ofIf (inI c) (.pv (.int c)))) x:=by
  intro c hc
  unfold qHi at hc
  cases e:inB c with
  | true=>rw [e] at hc;cases hc;exact⟨_,rfl,zWf e,rfl,rfl,rfl⟩
  | false=>rw [e] at hc;cases hc
 have hb:∀ c d:Bool,c=d→some (bv c)=some x→Got (qZr d) x:=by
  intro c d e hc
  subst e
  cases hc
  exact⟨_,rfl,trivial,rfl,rfl,rfl⟩
 cases op<;>simp only [qTn] at h<;>try cases h<;>done
 case add=>exact hv _ h
 case sub=>exact hv _ h
 case mul=>exact hv _ h
 case rem =>
  cases e:eqI b 0 with
  | true=>rw [e] at h;cases h
  | false =>
   rw [e] at h
   cases h
   rw [qJv] at e
   exact⟨_,rfl,(show b≠0 by simp_all),rfl,rfl,rfl⟩
 case lss=>exact hb _ _ (qQn a b) h
 case leq=>exact hb _ _ (by rw [qQn];by_cases hh:b<a<;>simp [hh]<;>omega) h
 case gtr=>exact hb _ _ (qQn b a) h
 case geq=>exact hb _ _ (by rw [qQn];by_cases hh:a<b<;>simp [hh]<;>omega) h
 case eql=>exact hb _ _ (qJv a b) h
 case neq=>exact hb _ _ (by rw [qJv]) h
def qWd (n:Nat):List (List PV)→Bool
 | []=>true
 | y::r=>bif Nat.beq y.length n then qWd n r else false
theorem qVv {n:Nat} : ∀ {l:List (List PV)},qWd n l=true→∀ y∈l,y.length=n
 | [],_,_,h=>by cases h
 | y::r,h,z,hz=>by
  unfold qWd at h
  cases e:Nat.beq y.length n with
  | false=>rw [e] at h;cases h
  | true =>
   rw [e] at h
   rcases List.mem_cons.1 hz with rfl|hz
   ·simp_all
   ·exact qVv h z hz
def qD8 (n:Nat):List (List V)→Bool
 | []=>true
 | y::r=>bif Nat.beq y.length n then qD8 n r else false
theorem qYu {n:Nat} : ∀ {l:List (List V)},qD8 n l=true→∀ y∈l,y.length=n
 | [],_,_,h=>by cases h
 | y::r,h,z,hz=>by
  unfold qD8 at h
  cases e:Nat.beq y.length n with
  | false=>rw [e] at h;cases h
  | true =>
   rw [e] at h
   rcases List.mem_cons.1 hz with rfl|hz
   ·simp_all
   ·exact qYu h z hz
def zQw:List V→Bool
 | []=>true
 | y::r=>bif y.one then zQw r else false
theorem qYv:∀ {l:List V},zQw l=true→l.all V.one=true
 | [],_=>rfl
 | y::r,h=>by
  unfold zQw at h
  cases e:y.one with
  | false=>rw [e] at h;cases h
  | true=>rw [e] at h;simp only [List.all_cons,e,Bool.true_and];exact qYv h
def qVe:List (List V)→Bool
 | []=>true
 | y::r=>bif zQw y then qVe r else false
theorem qKg:∀ {l:List (List V)},qVe l=true→∀ y∈l,y.all V.one=true
 | [],_,_,h=>by cases h
 | y::r,h,z,hz=>by
  unfold qVe at h
  cases e:zQw y with
  | false=>rw [e] at h;cases h
  | true =>
   rw [e] at h
   rcases List.mem_cons.1 hz with rfl|hz
   ·exact qYv e
   ·exact qKg h z hz
def zX4 (agg:Bool) (n:Nat) (cs:List PV):Option V:=match agg with
 | true=>match qI1 cs n with
  | some l=>some (.pv (.agg l))
  | none=>none
 | false=>match cs with
  | c::_=>some (.pv c)
  | []=>none
theorem qMs {agg:Bool} {n:Nat} {cs:List PV} {x:V} (h:zX4 agg n cs=some x):Got (rdP agg n cs) x:=by
 unfold zX4 at h
 cases agg with
 | true =>
  simp only [qX1] at h
  by_cases e:n≤cs.length
  ·rw [if_pos e] at h;cases h;exact⟨_,rfl,e,rfl,rfl,rfl⟩
  simp_all
 | false =>
  cases cs with
  | nil=>cases h
  | cons c cs=>cases h;exact⟨_,rfl,trivial,rfl,rfl,rfl⟩
def unR:List V→Option (List PV)
 | []=>some []
 | c::cs=>match c with
  | .pv p=>match unR cs with
   | some r=>some (p::r)
   | none=>none
  | _=>none
theorem qMt:∀ (l:List V),unR l=unL l
 | []=>rfl
 | c::cs=>by
  cases c<;>simp only [unR,unL,V.un,qMt cs]
  grind
def zWg (cs:List V):V:=match unR cs with
 | some ps => .pv (.agg ps)
 | none => .agg cs
theorem qF8 (cs:List V):zWg cs=qXm cs:=by unfold zWg qXm;rw [qMt];cases unL cs<;>rfl
def zX5 (agg:Bool) (n:Nat) (cs:List V):Option V:=match agg with
 | true=>match qI1 cs n with
  | some l=>some (zWg l)
  | none=>none
 | false=>match cs with
  | c::_=>some c
  | []=>none
theorem qMu (agg:Bool) (n:Nat) (cs:List V):zX5 agg n cs=rdV agg n cs:=by
 unfold zX5 rdV
 cases agg with
 | true =>
  simp only [if_true,qX1,qF8]
  grind
 | false=>rfl
def zQx (ti:TI) (ob:Nat→Option Ob) (x:V):Option V:=match x with
 | .pv (.ptr cs)=>zX4 ti.isAgg ti.size cs
 | .pv (.nptr cs)=>zX4 ti.isAgg ti.size cs
 | .loc n off=>match ob n with
  | some (.box cs)=>zX5 ti.isAgg ti.size (qF7 cs off)
  | _=>none
 | .eloc n ver i off=>match ob n with
  | some (.arr ver' _ _ es)=>match qXs es i with
   | some e=>bif Nat.beq ver ver' then zX5 ti.isAgg ti.size (qF7 e off) else none
   | none=>none
  | _=>none
 | _=>none
theorem qRd {ti:TI} {ob:Nat→Option Ob} {x y:V} (h:zQx ti ob x=some y):Got (qJ7 ti ob x) y:=by
 unfold zQx at h
 unfold qJ7
 split at h
 ·exact qMs h
 ·exact qMs h
 ·split at h
  ·rename_i cs e
   rw [qMu,qX0] at h
   simp only [e,h]
   exact⟨_,rfl,trivial,rfl,rfl,rfl⟩
  ·cases h
 ·rename_i n ver i off
  split at h
  ·rename_i ver' sz ty es e
   rw [qJh] at h
   split at h
   ·rename_i el he
    cases ev:Nat.beq ver ver' with
    | false=>rw [ev] at h;cases h
    | true =>
     rw [ev] at h
     simp only [cond_true] at h
     rw [qMu,qX0] at h
     simp only [e,he,h]
     exact⟨_,rfl,Nat.eq_of_beq_eq_true ev,rfl,rfl,rfl⟩
   ·cases h
  ·cases h
 ·cases h
def qHj (o:Option R) (r:RB):Prop:=∃ q,o=some q∧q.cond∧q.out=r.x∧q.wr=r.wr∧q.new=r.new
theorem Got.r {o:Option R} {x:V} (h:Got o x):qHj o ⟨x,none,false⟩:=h
theorem qQf {α:Type} {c:Bool} {a:Option α} {x:α} (h:(bif c then a else none)=some x):c=true∧a=some x:=by
 grind
theorem qJi {m n:Nat} (h:Nat.blt m n=true):m<n:=by rw [qVd] at h;exact of_decide_eq_true h
def qMv (q:PV) (y:V):Option RB:=match q with
 | .nptr cs=>match cs with
  | c::_=>match c with
   | .flg p=>match y with
    | .pv z=>match z with
     | .bool b=>bif (bif b then p else true) then some ⟨.undef,none,false⟩ else none
     | _=>none
    | _=>none
   | _=>none
  | []=>none
 | _=>none
theorem qHk {q:PV} {y:V} {r:RB} (h:qMv q y=some r):∃ p l b,q = .nptr (.flg p::l)∧y = .pv (.bool b)∧(b=true→p=true)∧r=⟨.undef,none,false⟩:=by
 unfold qMv at h
 split at h
 ·grind
 ·cases h
def qYw (ti:TI) (ob:Nat→Option Ob) (x y:V):Option RB:=match qJz y with
 | none=>none
 | some ys=>bif Nat.beq ys.length ti.size then (bif zQw ys then (match x with
  | .loc n off=>match ob n with
   | some (.box cs)=>match qPj cs off ys with
    | some r=>some ⟨.undef,some (n,.box r),false⟩
    | none=>none
   | _=>none
  | .eloc n ver i off=>match ob n with
   | some (.arr ver' sz ty es)=>bif Nat.beq ver ver' then (bif Nat.ble (off+ys.length) sz then (match qXs es i with
    | some e=>some ⟨.undef,some (n,.arr ver' sz ty (es.set i (qDn e off ys))),false⟩
    | none=>none) else none) else none
   | _=>none
  | .pv q=>qMv q y
  | _=>none) else none) else none
theorem qD9 {ti:TI} {ob:Nat→Option Ob} {x y:V} {r:RB} (h:qYw ti ob x y=some r):qHj (qZ9 ti ob x y) r:=by
 unfold qYw at h
 unfold qZ9
 split at h
 ·cases h
 ·rename_i ys ey
  have h1:=(qQf h).1
  replace h:=(qQf h).2
  have h3:=(qQf h).1
  replace h:=(qQf h).2
  have h1:=Nat.eq_of_beq_eq_true h1
  simp only [ey]
  split at h
  ·rename_i n off
   split at h
   ·rename_i cs eo
    split at h
    ·rename_i q hq
     cases h
     obtain⟨h2,h4⟩:=qB9 cs off ys q hq
     simp only [eo]
     exact⟨_,rfl,⟨h1,h2,qYv h3⟩,rfl,by rw [h4];rfl,rfl⟩
    ·cases h
   ·cases h
  ·rename_i n ver i off
   split at h
   ·rename_i ver' sz ty es eo
    have h2:=(qQf h).1
    replace h:=(qQf h).2
    have h4:=(qQf h).1
    replace h:=(qQf h).2
    split at h
    ·rename_i e he
     cases h
     rw [qJh] at he
     have hlt:i<es.length:=(List.getElem?_eq_some_iff.1 he).1
     have hg:es.getD i []=e:=by rw [List.getD_eq_getElem?_getD,he];rfl
     simp only [eo]
     exact⟨_,rfl,⟨Nat.eq_of_beq_eq_true h2,hlt,h1,Nat.le_of_ble_eq_true h4,qYv h3⟩,rfl,by rw [hg],rfl⟩
    ·cases h
   ·cases h
  ·obtain⟨p,l,b,rfl,rfl,hb,rfl⟩:=qHk h
   refine⟨_,rfl,⟨?_,hb⟩,rfl,rfl,rfl⟩
   cases ey
   exact h1.symm
  ·cases h
def qEa:Int→Option Nat
 | .ofNat n=>some n
 | .negSucc _=>none
theorem qVf {i:Int} {n:Nat} (h:qEa i=some n):i=n:=by
 cases i with
 | ofNat k=>grind [qEa,Option.some.injEq]
 | negSucc k=>cases h
def qHl (T:Nat→Option TI) (ob:Nat→Option Ob) (t:Nat) (x i:V):Option V:=match i with
 | .pv (.int z)=>match qEa z with
  | some k=>match T t with
   | some ⟨.slice e,_,_,_,_⟩=>match T e with
    | some te=>match x with
     | .pv (.slice es)=>match qXs es k with
      | some e=>bif qWd te.size es then some (.pv (.ptr e)) else none
      | none=>none
     | .arr n ver len=>match ob n with
      | some (.arr ver' sz _ es)=>bif Nat.beq ver ver' then (bif Nat.blt k len then (bif Nat.beq sz te.size then (bif Nat.ble len es.length then some (.eloc n ver k 0) else none) else none) else none) else none
      | _=>none
     | _=>none
    | none=>none
   | some ⟨.array m e,_,_,_,_⟩=>match T e with
    | some te=>bif Nat.blt k m then qVs x (k * te.size) else none
    | none=>none
   | _=>none
  | none=>none
 | _=>none
theorem qMw {T:Nat→Option TI} {ob:Nat→Option Ob} {t:Nat} {x i y:V} (h:qHl T ob t x i=some y):Got (qJa T ob t x i) y:=by
 unfold qHl at h
 unfold qJa
 split at h
 ·rename_i z
  split at h
  ·rename_i k ek
   have hz:=qVf ek
   subst hz
   simp only [Int.toNat_natCast]
   split at h
   ·rename_i e a b c d et
    simp only [et]
    split at h
    ·rename_i te ete
     simp only [ete]
     split at h
     ·rename_i es
      split at h
      ·rename_i e' he
       obtain⟨h2,h⟩:=qQf h
       cases h
       rw [qJh] at he
       have hlt:k<es.length:=(List.getElem?_eq_some_iff.1 he).1
       have hg:es.getD k []=e':=by rw [List.getD_eq_getElem?_getD,he];rfl
       refine⟨_,rfl,?_,by rw [hg];rfl,rfl,rfl⟩
       exact⟨by omega,by omega,qVv h2⟩
      ·cases h
     ·split at h
      ·rename_i ver' sz ty es eo
       obtain⟨h1,h⟩:=qQf h
       obtain⟨h2,h⟩:=qQf h
       obtain⟨h3,h⟩:=qQf h
       obtain⟨h4,h⟩:=qQf h
       cases h
       simp only [eo]
       refine⟨_,rfl,?_,rfl,rfl,rfl⟩
       exact⟨Nat.eq_of_beq_eq_true h1,by omega,by have:=qJi h2;omega,Nat.eq_of_beq_eq_true h3,Nat.le_of_ble_eq_true h4⟩
      ·cases h
     ·cases h
    ·cases h
   ·rename_i m e a b c d et
    simp only [et]
    split at h
    ·rename_i te ete
     obtain⟨h1,h⟩:=qQf h
     simp only [ete,h]
     refine⟨_,rfl,?_,rfl,rfl,rfl⟩
     exact⟨by omega,by have:=qJi h1;omega⟩
    ·cases h
   ·cases h
  ·cases h
 ·cases h
def zY2 (ob:Nat→Option Ob) (x:V):Option V:=match x with
 | .pv (.slice es)=>some (.pv (.int (.ofNat es.length)))
 | .pv .nils=>some (.pv (.int 0))
 | .gsl _ _ es=>some (.pv (.int (.ofNat es.length)))
 | .arr n ver len=>match ob n with
  | some (.arr ver' _ _ _)=>bif Nat.beq ver ver' then some (.pv (.int (.ofNat len))) else none
  | _=>none
 | _=>none
theorem zQy {ob:Nat→Option Ob} {x y:V} (h:zY2 ob x=some y):Got (qWt ob x) y:=by
 unfold zY2 at h
 unfold qWt
 split at h
 ·cases h;exact⟨_,rfl,trivial,rfl,rfl,rfl⟩
 ·cases h;exact⟨_,rfl,trivial,rfl,rfl,rfl⟩
 ·cases h;exact⟨_,rfl,trivial,rfl,rfl,rfl⟩
 ·split at h
  ·rename_i ver' sz ty es eo
   obtain⟨h1,h⟩:=qQf h
   cases h
   simp only [eo]
   exact⟨_,rfl,Nat.eq_of_beq_eq_true h1,rfl,rfl,rfl⟩
  ·cases h
 ·cases h
def qWx (e:Nat) (te:TI) (ob:Nat→Option Ob) (nx:Nat) (x y:V):Option RB:=match x with
 | .arr n ver len=>match ob n,qYd y with
  | some (.arr ver' sz ty es),some ys=>bif Nat.beq ver ver' && Nat.ble len es.length && Nat.beq ty e && Nat.beq sz te.size && Nat.blt 0 sz && qD8 sz ys && qVe ys && Nat.ble (len+ys.length) maxLen && Nat.ble ((len+ys.length) * te.bytes) 140737488355328 then
    some ⟨.arr n (ver+1) (len+ys.length),some (n,.arr (ver+1) sz ty (es.take len++ys)),false⟩ else none
  | _,_=>none
 | .gsl n ver _=>match ob n with
  | some (.grow ver' sz ty es)=>match y with
   | .pv (.slice ys)=>bif Nat.beq ver ver' && Nat.beq ty e && Nat.beq sz te.size && Nat.blt 0 sz && qWd sz ys && qVe (pvE ys) && Nat.ble (es.length+ys.length) maxLen && Nat.ble ((es.length+ys.length) * te.bytes) 140737488355328 then
    some ⟨.gsl n (ver+1) (es++ys),some (n,.grow (ver+1) sz ty (es++ys)),false⟩ else none
   | _=>none
  | _=>none
 | .fsl es=>match y with
  | .pv (.slice (y::ys))=>bif qWd te.size es && qWd te.size (y::ys) && Nat.blt 0 te.size && Nat.ble (es.length+(y::ys).length) maxLen && Nat.ble ((es.length+(y::ys).length) * te.bytes) 140737488355328 then
    some ⟨.pv (.slice (es++y::ys)),none,false⟩ else none
  | _=>none
 | .pv .nils=>match qYd y with
  | some ys=>bif Nat.blt 0 te.size && qD8 te.size ys && qVe ys && Nat.ble ys.length maxLen && Nat.ble (ys.length * te.bytes) 140737488355328 then
    some ⟨.arr nx 1 ys.length,some (nx,.arr 1 te.size e ys),true⟩ else none
  | none=>none
 | _=>none
theorem qI2 {e:Nat} {te:TI} {ob:Nat→Option Ob} {nx:Nat} {xo:Operand} {x y:V} {r:RB} (h:qWx e te ob nx x y=some r) :
  ∃ note,qHj (qQ4 e te ob note xo x y) r∧(r.new=true→∃ o,r.wr=some (nx,o)):=by
 unfold qWx at h
 split at h
 ·rename_i n ver len
  split at h
  ·rename_i ver' sz ty es ys eo ey
   obtain⟨h1,h⟩:=qQf h
   cases h
   simp only [Bool.and_eq_true] at h1
   obtain⟨⟨⟨⟨⟨⟨⟨⟨a1,a2⟩,a3⟩,a4⟩,a5⟩,a6⟩,a7⟩,a8⟩,a9⟩:=h1
   refine⟨.none,?_,by simp⟩
   simp only [qQ4,eo,ey]
   exact⟨_,rfl,⟨Nat.eq_of_beq_eq_true a1,Nat.le_of_ble_eq_true a2,Nat.eq_of_beq_eq_true a3,Nat.eq_of_beq_eq_true a4,qJi a5,qYu a6,qKg a7,Nat.le_of_ble_eq_true a8,Nat.le_of_ble_eq_true a9⟩,rfl,rfl,rfl⟩
  ·cases h
 ·rename_i n ver es0
  split at h
  ·rename_i ver' sz ty es eo
   split at h
   ·obtain⟨h1,h⟩:=qQf h
    cases h
    simp only [Bool.and_eq_true] at h1
    obtain⟨⟨⟨⟨⟨⟨⟨a1,a2⟩,a3⟩,a4⟩,a5⟩,a6⟩,a7⟩,a8⟩:=h1
    refine⟨.none,?_,by simp⟩
    simp only [qQ4,eo]
    exact⟨_,rfl,⟨⟨Nat.eq_of_beq_eq_true a1,Nat.eq_of_beq_eq_true a2,Nat.eq_of_beq_eq_true a3,qJi a4⟩,qVv a5,qKg a6,Nat.le_of_ble_eq_true a7,Nat.le_of_ble_eq_true a8⟩,rfl,rfl,rfl⟩
   ·cases h
  ·cases h
 ·split at h
  ·obtain⟨h1,h⟩:=qQf h
   cases h
   simp only [Bool.and_eq_true] at h1
   obtain⟨⟨⟨⟨a1,a2⟩,a3⟩,a4⟩,a5⟩:=h1
   refine⟨.none,?_,by simp⟩
   exact⟨_,rfl,⟨qVv a1,qVv a2,qJi a3,by simp,Nat.le_of_ble_eq_true a4,Nat.le_of_ble_eq_true a5⟩,rfl,rfl,rfl⟩
  ·cases h
 ·split at h
  ·rename_i ys ey
   obtain⟨h1,h⟩:=qQf h
   cases h
   simp only [Bool.and_eq_true] at h1
   obtain⟨⟨⟨⟨a1,a2⟩,a3⟩,a4⟩,a5⟩:=h1
   refine⟨.arr nx te.size e,?_,fun _=>⟨_,rfl⟩⟩
   simp only [qQ4,ey]
   exact⟨_,rfl,⟨by first|rfl|trivial,by first|rfl|trivial,qJi a1,qYu a2,qKg a3,Nat.le_of_ble_eq_true a4,Nat.le_of_ble_eq_true a5⟩,rfl,rfl,rfl⟩
  ·cases h
 ·cases h
def qEb (te:TI) (ob:Nat→Option Ob) (x:V) (lo hi mx:Option V):Option V:=match x,lo,hi,mx with
 | .pv (.slice es),some (.pv (.int l)),none,none=>match qEa l with
  | some k=>bif Nat.ble k es.length && qWd te.size es then some (.pv (.slice (es.drop k))) else none
  | none=>none
 | .pv (.slice es),none,some (.pv (.int h)),none=>match qEa h with
  | some k=>bif Nat.ble k es.length then some (.pv (.slice (es.take k))) else none
  | none=>none
 | .arr n ver len,none,some (.pv (.int h)),none=>match qEa h,ob n with
  | some k,some (.arr ver' _ _ _)=>bif Nat.beq ver ver' && Nat.ble k len then some (.arr n ver k) else none
  | _,_=>none
 | .pv (.slice es),none,some (.pv (.int h)),some (.pv (.int m))=>match qEa h,qEa m with
  | some k,some l=>bif Nat.beq k es.length && Nat.beq l es.length then some (.fsl es) else none
  | _,_=>none
 | .pv .nils,lo,hi,mx=>bif qBm lo && qBm hi && qBm mx && (!mx.isSome || hi.isSome) then some (.pv .nils) else none
 | _,_,_,_=>none
theorem qMx {te:TI} {ob:Nat→Option Ob} {x y:V} {lo hi mx:Option V} (h:qEb te ob x lo hi mx=some y):Got (qJb te ob x lo hi mx) y:=by
 unfold qEb at h
 unfold qJb
 split at h
 ·split at h
  ·rename_i k ek
   have hz:=qVf ek
   subst hz
   obtain⟨h1,h⟩:=qQf h
   cases h
   simp only [Bool.and_eq_true] at h1
   have h2:=Nat.le_of_ble_eq_true h1.1
   refine⟨_,rfl,?_,by rfl,rfl,rfl⟩
   exact⟨by omega,by omega,qVv h1.2⟩
  ·cases h
 ·split at h
  ·rename_i k ek
   have hz:=qVf ek
   subst hz
   obtain⟨h1,h⟩:=qQf h
   cases h
   have h2:=Nat.le_of_ble_eq_true h1
   refine⟨_,rfl,?_,by rfl,rfl,rfl⟩
   exact⟨by omega,by omega⟩
  ·cases h
 ·split at h
  ·rename_i k ver' sz ty es ek eo
   have hz:=qVf ek
   subst hz
   obtain⟨h1,h⟩:=qQf h
   cases h
   simp only [Bool.and_eq_true] at h1
   have h2:=Nat.le_of_ble_eq_true h1.2
   simp only [eo]
   refine⟨_,rfl,?_,by rfl,rfl,rfl⟩
   exact⟨Nat.eq_of_beq_eq_true h1.1,by omega,by omega⟩
  ·cases h
 ·split at h
  ·rename_i k l ek el
   have hz:=qVf ek
   have hz':=qVf el
   obtain⟨h1,h⟩:=qQf h
   cases h
   simp only [Bool.and_eq_true] at h1
   have h2:=Nat.eq_of_beq_eq_true h1.1
   have h3:=Nat.eq_of_beq_eq_true h1.2
   refine⟨_,rfl,?_,rfl,rfl,rfl⟩
   exact⟨by omega,by omega⟩
  ·cases h
 ·obtain⟨h1,h⟩:=qQf h
  cases h
  simp only [h1,cond_true]
  exact⟨_,rfl,trivial,rfl,rfl,rfl⟩
 ·cases h
def qMy (fs:List (Nat × Nat)) (cells:List V):List (Nat × V)→Option (List V)
 | []=>some cells
 | (i,x)::rest=>match qXs fs i with
  | some (off,size)=>match qJz x with
   | some ys=>bif Nat.beq ys.length size then (match qPj cells off ys with
    | some r=>qMy fs r rest
    | none=>none) else none
   | none=>none
  | none=>none
theorem qCa {fs:List (Nat × Nat)} : ∀ {l:List (Nat × V)} {cells cs:List V},qMy fs cells l=some cs→qXn fs cells l=some cs
 | [],_,_,h=>h
 | (i,x)::rest,cells,cs,h=>by
  unfold qMy at h
  unfold qXn
  rw [qJh] at h
  split at h
  ·rename_i off size ei
   split at h
   ·rename_i ys ex
    obtain⟨h1,h⟩:=qQf h
    have h1:=Nat.eq_of_beq_eq_true h1
    split at h
    ·rename_i r hr
     obtain⟨h2,h3⟩:=qB9 cells off ys r hr
     simp only [ei,ex]
     rw [if_pos ⟨h1,by omega⟩]
     have:qDn cells off ys=r:=by rw [h3];rfl
     rw [this]
     exact qCa h
    ·cases h
   ·cases h
  ·cases h
def qHm:Nat→List (Nat × V)→Option (List (List V))
 | _,[]=>some []
 | k,(i,x)::rest=>bif Nat.beq i k then (match qJz x with
   | some cs=>match qHm (Nat.succ k) rest with
    | some es=>some (cs::es)
    | none=>none
   | none=>none) else none
theorem qYx:∀ {l:List (Nat × V)} {k:Nat} {es:List (List V)},qHm k l=some es→qZu k l=some es
 | [],_,_,h=>h
 | (i,x)::rest,k,es,h=>by
  unfold qZu
  obtain⟨h1,h⟩:=qQf h
  rw [if_pos (Nat.eq_of_beq_eq_true h1)]
  split at h
  ·rename_i cs ec
   split at h
   ·rename_i es' ee
    cases h
    simp only [ec,qYx ee]
   ·cases h
  ·cases h
def zX6 (e:Nat) (te:TI) (nx len:Nat) (es:List (List V)):Option RB :=
 bif Nat.beq es.length len && Nat.ble len 16777216 && Nat.ble (len * te.size) 16777216 && qD8 te.size es then (match unE es with
  | some ps=>some ⟨.pv (.slice ps),none,false⟩
  | none=>some ⟨.arr nx 0 len,some (nx,.arr 0 te.size e es),true⟩) else none
theorem zQz {e:Nat} {te:TI} {nx len:Nat} {es:List (List V)} {r:RB} (h:zX6 e te nx len es=some r):∃ note,qHj (qFj e te note len es) r∧(r.new=true→∃ o,r.wr=some (nx,o)):=by
 obtain⟨h1,h⟩:=qQf h
 simp only [Bool.and_eq_true] at h1
 obtain⟨⟨⟨a1,a2⟩,a3⟩,a4⟩:=h1
 have hc:=And.intro (Nat.eq_of_beq_eq_true a1) (And.intro (Nat.le_of_ble_eq_true a2) (And.intro (Nat.le_of_ble_eq_true a3) (qYu a4)))
 split at h
 ·rename_i ps ep
  cases h
  refine⟨.none,⟨_,rfl,hc,?_,rfl,rfl⟩,by simp⟩
  simp [R.ofIf,qKr,ep]
 ·cases h
  exact⟨.arr nx te.size e,⟨_,rfl,⟨hc,rfl,rfl⟩,rfl,rfl,rfl⟩,fun _=>⟨_,rfl⟩⟩
def qMz (T:Nat→Option TI) (nx t:Nat):Option RB:=match T t with
 | some ti=>some ⟨.loc nx 0,some (nx,.box (pvL ti.zc)),true⟩
 | none=>none
def zY3 (nx:Nat) (x:V):Option RB:=match qJz x with
 | some cs=>bif zQw cs then some ⟨.loc nx 0,some (nx,.box cs),true⟩ else none
 | none=>none
def qM0 (T:Nat→Option TI) (t:Nat) (ps:List (Nat × V)):Option V:=match T t with
 | some ⟨.struct fs _,_,_,_,zc⟩=>match qMy fs (pvL zc) ps with
  | some cs=>some (zWg cs)
  | none=>none
 | some ⟨.array m e,_,_,_,zc⟩=>match T e with
  | some te=>match qMy (qVr te.size m 0) (pvL zc) ps with
   | some cs=>some (zWg cs)
   | none=>none
  | none=>none
 | _=>none
def qHn (x:V) (i:Nat):Option V:=match x with
 | .pv (.tuple cs)=>match qXs cs i with
  | some c=>some (.pv c)
  | none=>none
 | .tuple cs=>qXs cs i
 | _=>none
def qXt:IntKind→IntKind→Bool
 | .u8,.u8=>true
 | .u32,.u32=>true
 | .i32,.i32=>true
 | _,_=>false
theorem qRe {a b:IntKind} (h:qXt a b=true):a=b:=by cases a<;>cases b<;>first|rfl|cases h
def qM1 (x:Int):Option Int:=bif inB x then some x else none
def qFd (k:IntKind) (x:Int):Option V:=match qM1 x with
 | some y=>some (.pv (.num k y))
 | none=>none
theorem qCb {k:IntKind} {x:Int} {v:V} (h:qFd k x=some v):v = .pv (.num k x):=by
 grind [qFd,qM1]
def zQ0 (op:BinOp) (k:IntKind) (a b:Int):Option V:=match op with
 | .add=>qFd k (k.wrap (a+b))
 | .sub=>qFd k (k.wrap (a-b))
 | .and=>qFd k (qQj .and k a b)
 | .or=>qFd k (qQj .or k a b)
 | .andNot=>qFd k (qQj .andNot k a b)
 | .lss=>some (bv (ltI a b))
 | .leq=>some (bv (!ltI b a))
 | .gtr=>some (bv (ltI b a))
 | .geq=>some (bv (!ltI a b))
 | .eql=>some (bv (eqI a b))
 | .neq=>some (bv (!eqI a b))
 | _=>none
theorem zQ1 {op:BinOp} {k:IntKind} {a b:Int} {x:V} (h:zQ0 op k a b=some x):Got (qBl op k a b) x:=by
 have hb:∀ c d:Bool,c=d→some (bv c)=some x→Got (qZr d) x:=by
  intro c d e hc
  subst e
  cases hc
  exact⟨_,rfl,trivial,rfl,rfl,rfl⟩
 have hv:∀ c:Int,qFd k c=some x→Got (some (R.of (.pv (.num k c)))) x:=by
  intro c hc
  rw [qCb hc]
  exact⟨_,rfl,trivial,rfl,rfl,rfl⟩
 cases op<;>simp only [zQ0] at h<;>try cases h<;>done
 case add=>exact hv _ h
 case sub=>exact hv _ h
 case and=>exact hv _ h
 case or=>exact hv _ h
 case andNot=>exact hv _ h
 case lss=>exact hb _ _ (qQn a b) h
 case leq=>exact hb _ _ (by rw [qQn];by_cases hh:b<a<;>simp [hh]<;>omega) h
 case gtr=>exact hb _ _ (qQn b a) h
 case geq=>exact hb _ _ (by rw [qQn];by_cases hh:a<b<;>simp [hh]<;>omega) h
 case eql=>exact hb _ _ (qJv a b) h
 case neq=>exact hb _ _ (by rw [qJv]) h
def qBa (op:BinOp) (k:IntKind) (a n:Int):Option V:=match op with
 | .shl=>bif ltI n 0 then none else qFd k (k.wrap (a * 2 ^ (min n.toNat k.bits)))
 | .shr=>bif ltI n 0 then none else qFd k (a.fdiv (2 ^ (min n.toNat k.bits)))
 | _=>none
theorem qM2 {op:BinOp} {k:IntKind} {a n:Int} {x:V} (h:qBa op k a n=some x):Got (qW3 op k a n) x:=by
 have hv:∀ c:Int,(bif ltI n 0 then none else qFd k c)=some x→Got (some (R.ofIf (0≤n) (.pv (.num k c)))) x:=by
  intro c hc
  cases e:ltI n 0 with
  | true=>rw [e] at hc;cases hc
  | false =>
   rw [e] at hc
   rw [qCb hc]
   rw [qQn] at e
   exact⟨_,rfl,(show 0≤n by simp_all),rfl,rfl,rfl⟩
 cases op<;>simp only [qBa] at h<;>try cases h<;>done
 case shl=>exact hv _ h
 case shr=>exact hv _ h
def zQ2 (k:TK) (op:BinOp) (x y:V) (yo:Operand):Option V:=match x,y with
 | .pv (.int a),.pv (.int b)=>qTn op a b
 | .pv (.num j a),.pv (.num j' b)=>bif qXt j j' then zQ0 op j a b else none
 | .pv (.num j a),.pv (.int n)=>qBa op j a n
 | .pv (.str a),.pv (.str b)=>match op with
  | .eql=>some (bv (eqL a b))
  | .neq=>some (bv (!eqL a b))
  | _=>none
 | x,y=>match op with
  | .eql=>match qAt k x y yo with
   | some b=>some (bv b)
   | none=>none
  | .neq=>match qAt k x y yo with
   | some b=>some (bv (!b))
   | none=>none
  | _=>none
theorem zQ3 {k:TK} {op:BinOp} {x y z:V} {yo:Operand} (h:zQ2 k op x y yo=some z):Got (qKs k op x y yo) z:=by
 have hb:∀ c:Bool,some (bv c)=some z→Got (qZr c) z:=by
  intro c hc
  cases hc
  exact⟨_,rfl,trivial,rfl,rfl,rfl⟩
 unfold zQ2 at h
 split at h
 ·exact zQv h
 ·have h1:=qRe (qQf h).1
  replace h:=(qQf h).2
  subst h1
  simp only [qKs,if_true]
  exact zQ1 h
 ·exact qM2 h
 ·split at h
  ·exact hb _ h
  ·exact hb _ h
  ·cases h
 ·have key:∀ b,qAt k x y yo=some b→((op = .eql∧z=bv b)∨(op = .neq∧z=bv (!b)))→Got (qKs k op x y yo) z:=by
   unfold qKs
   grind
  grind
def qEc:Bool→Bool→Bool
 | true,b=>b
 | false,true=>false
 | false,false=>true
theorem qKh {a b:Bool} (h:qEc a b=true):a=b:=by cases a<;>cases b<;>first|rfl|cases h
def qRf (s:Bool) (ob:Nat→Option Ob) (m k v:V):Option RB:=match m with
 | .map n=>match zVo k with
  | some a=>match ob n with
   | some (.smap s' es)=>bif qEc s' s && qEc a.kind s then some ⟨.undef,some (n,.smap s' (qFk es a v)),false⟩ else none
   | _=>none
  | none=>none
 | _=>none
theorem qX2 {s:Bool} {ob:Nat→Option Ob} {m k v:V} {r:RB} (h:qRf s ob m k v=some r):qHj (qQ0 s ob m k v) r∧r.new=false ∧ ∃ n,(∃ o,r.wr=some (n,o))∧(ob n).isSome=true:=by
 unfold qRf at h
 split at h
 ·rename_i n
  split at h
  ·rename_i a ea
   split at h
   ·rename_i s' es eo
    have h1:=(qQf h).1
    cases (qQf h).2
    simp only [Bool.and_eq_true] at h1
    refine⟨?_,rfl,n,⟨_,rfl⟩,by rw [eo];rfl⟩
    simp only [qQ0,ea,eo]
    exact⟨_,rfl,⟨qKh h1.1,qKh h1.2⟩,rfl,rfl,rfl⟩
   ·cases h
  ·cases h
 ·cases h
def qM3 (s ok:Bool) (z:PV) (ob:Nat→Option Ob) (m k:V):Option V:=match m with
 | .map n=>match zVo k with
  | some a=>match ob n with
   | some (.smap s' es)=>bif qEc s' s && qEc a.kind s then (match qG7 es a,ok with
    | some x,true=>some (.tuple [x,.pv (.bool true)])
    | none,true=>some (.pv (.tuple [z,.bool false]))
    | some x,false=>some x
    | none,false=>some (.pv z)) else none
   | _=>none
  | none=>none
 | _=>none
theorem qM4 {s ok:Bool} {z:PV} {ob:Nat→Option Ob} {m k x:V} (h:qM3 s ok z ob m k=some x):Got (qZy s ok z ob m k) x:=by
 unfold qM3 at h
 split at h
 ·split at h
  ·rename_i a ea
   split at h
   ·rename_i s' es eo
    have h1:=(qQf h).1
    replace h:=(qQf h).2
    simp only [Bool.and_eq_true] at h1
    simp only [qZy,ea,eo]
    refine⟨_,rfl,⟨qKh h1.1,qKh h1.2⟩,?_,rfl,rfl⟩
    cases hg:qG7 es a<;>cases ok<;>rw [hg] at h<;>cases h<;>rfl
   ·cases h
  ·cases h
 ·cases h
def zQ4:V→Option V
 | .pv (.str l)=>some (.pv (.int (.ofNat l.length)))
 | _=>none
theorem qRg {x y:V} (h:zQ4 x=some y):Got (qBo x) y:=by
 unfold zQ4 at h
 split at h
 ·cases h;exact⟨_,rfl,trivial,rfl,rfl,rfl⟩
 ·cases h
def qF9 (n:Nat) (te:TI) (x i:V):Option V:=match x with
 | .pv (.agg cs)=>match i with
  | .pv (.int z)=>match qEa z with
   | some k=>bif te.isAgg && Nat.blt k n && Nat.ble (k * te.size+te.size) cs.length then some (.pv (.agg ((cs.drop (k * te.size)).take te.size))) else none
   | none=>none
  | _=>none
 | _=>none
theorem qI3 {n:Nat} {te:TI} {x i y:V} (h:qF9 n te x i=some y):Got (qV5 n te x i) y:=by
 unfold qF9 at h
 split at h
 ·rename_i cs
  split at h
  ·split at h
   ·rename_i k ek
    have hz:=qVf ek
    subst hz
    obtain⟨hb,h⟩:=qQf h
    simp only [Bool.and_eq_true] at hb
    cases h
    have h1:=qJi hb.1.2
    have h2:=Nat.le_of_ble_eq_true hb.2
    refine⟨_,by simp only [qV5,hb.1.1,if_true];rfl,?_,rfl,rfl,rfl⟩
    exact⟨Int.natCast_nonneg _,by exact_mod_cast h1,h2⟩
   ·cases h
  ·cases h
 ·cases h
def qGa (x i:V):Option V:=match x with
 | .pv (.str l)=>match i with
  | .pv (.int z)=>match qEa z with
   | some k=>match qXs l k with
    | some b=>some (.pv (.num .u8 (.ofNat b)))
    | none=>none
   | none=>none
  | _=>none
 | _=>none
theorem qI4 {x i y:V} (h:qGa x i=some y):Got (qKt x i) y:=by
 unfold qGa at h
 split at h
 ·rename_i l
  split at h
  ·split at h
   ·rename_i k ek
    have hz:=qVf ek
    subst hz
    split at h
    ·rename_i b hb
     cases h
     rw [qJh] at hb
     have hlt:k<l.length:=(List.getElem?_eq_some_iff.1 hb).1
     have hg:l.getD k 0=b:=by rw [List.getD_eq_getElem?_getD,hb];rfl
     refine⟨_,rfl,⟨by omega,by omega⟩,?_,rfl,rfl⟩
     simp only [R.ofIf,Int.toNat_natCast,hg]
     rfl
    ·cases h
   ·cases h
  ·cases h
 ·cases h
def qHo (d:Nat):Option V→Option Nat
 | none=>some d
 | some (.pv (.int k))=>qEa k
 | _=>none
theorem qEd {d n:Nat} {x:Option V} (h:qHo d x=some n):qW5 (d:Int) x=some (n:Int):=by
 unfold qHo at h
 grind [qW5,qVf]
def qGb (x:V) (lo hi mx:Option V):Option V:=match x with
 | .pv (.str l)=>match mx with
  | none=>match qHo 0 lo,qHo l.length hi with
   | some a,some b=>bif Nat.ble a b && Nat.ble b l.length then (match qI1 (qF7 l a) (b-a) with
    | some r=>some (.pv (.str r))
    | none=>none) else none
   | _,_=>none
  | some _=>none
 | _=>none
theorem qI5 {x y:V} {lo hi mx:Option V} (h:qGb x lo hi mx=some y):Got (qV6 x lo hi mx) y:=by
 unfold qGb at h
 split at h
 ·split at h
  ·split at h
   ·rename_i a b ea eb
    have h1:=(qQf h).1
    replace h:=(qQf h).2
    simp only [Bool.and_eq_true] at h1
    have h2:=Nat.le_of_ble_eq_true h1.1
    have h3:=Nat.le_of_ble_eq_true h1.2
    split at h
    ·rename_i r hr
     cases h
     rw [qX1,qX0] at hr
     split at hr
     ·cases hr
      have ea':=qEd ea
      have eb':=qEd eb
      have ea'':qW5 0 lo=some (a:Int):=ea'
      simp only [qV6,ea'',eb']
      refine⟨_,rfl,⟨by omega,by omega,by omega⟩,?_,rfl,rfl⟩
      simp [R.ofIf]
     ·cases hr
    ·cases h
   ·cases h
  ·cases h
 ·cases h
def qHp (nx:Nat):V→Option RB
 | .pv (.str l)=>some ⟨.loc nx 0,some (nx,.siter l 0),true⟩
 | _=>none
def zQ5 (ob:Nat→Option Ob):V→Option RB
 | .loc n 0=>match ob n with
  | some (.siter l p)=>match qXs l p with
   | some b=>bif Nat.blt b 128 then some ⟨.pv (.tuple [.bool true,.int (.ofNat p),.num .i32 (.ofNat b)]),some (n,.siter l (p+1)),false⟩ else none
   | none=>some ⟨.pv (.tuple [.bool false]),none,false⟩
  | _=>none
 | _=>none
theorem qHq {ob:Nat→Option Ob} {x:V} {r:RB} (h:zQ5 ob x=some r):qHj (qV4 ob x) r∧r.new=false ∧ ∀ n o,r.wr=some (n,o)→(ob n).isSome=true:=by
 unfold zQ5 at h
 split at h
 ·split at h
  ·rename_i l p eo
   rw [qJh] at h
   split at h
   ·rename_i b hb
    have h1:=qJi (qQf h).1
    cases (qQf h).2
    refine⟨?_,rfl,fun n' o e=>by simp_all⟩
    simp only [qV4,eo,hb]
    exact⟨_,rfl,h1,rfl,rfl,rfl⟩
   ·rename_i hb
    cases h
    refine⟨?_,rfl,fun n' o e=>by cases e⟩
    simp only [qV4,eo,hb]
    exact⟨_,rfl,trivial,rfl,rfl,rfl⟩
  ·cases h
 ·cases h
def zQ6 (T:Nat→Option TI) (s t:Nat) (x:V):Option V:=match T s with
 | some _=>match T t with
  | some ⟨.num k,_,_,_,_⟩=>match x with
   | .pv (.num _ n)=>qFd k (k.wrap n)
   | .pv (.int n)=>qFd k (k.wrap n)
   | _=>none
  | some ⟨.int,_,_,_,_⟩=>match x with
   | .pv (.num _ n)=>qHi (IntKind.i64.wrap n)
   | .pv (.int n)=>qHi (IntKind.i64.wrap n)
   | _=>none
  | _=>none
 | none=>none
def qM5 (T:Nat→Option TI) (s t:Nat) (x:V):Option V:=match T s with
 | some ⟨.slice e,_,_,_,_⟩=>match T t with
  | some ⟨.str,_,_,_,_⟩=>match x with
   | .pv (.slice es)=>match T e with
    | some ⟨.num .u8,_,_,_,_⟩=>match qBn es with
     | some (b::l)=>some (.pv (.str (b::l)))
     | _=>none
    | _=>none
   | _=>none
  | _=>none
 | _=>none
theorem qM6 {x:Int} {v:V} (h:qHi x=some v):v = .pv (.int x):=by
 grind [qHi]
theorem qRh {T:Nat→Option TI} {s t:Nat} {x y:V} : zQ6 T s t x=some y→Got (match T s,T t,x with
  | some _,some ⟨.num k,_,_,_,_⟩,.pv (.num _ n)=>some (R.of (.pv (.num k (k.wrap n))))
  | some _,some ⟨.num k,_,_,_,_⟩,.pv (.int n)=>some (R.of (.pv (.num k (k.wrap n))))
  | some _,some ⟨.int,_,_,_,_⟩,.pv (.num _ n)=>some (R.of (.pv (.int (IntKind.i64.wrap n))))
  | some _,some ⟨.int,_,_,_,_⟩,.pv (.int n)=>some (R.of (.pv (.int (IntKind.i64.wrap n))))
  | some ⟨.slice e,_,_,_,_⟩,some ⟨.str,_,_,_,_⟩,.pv (.slice es)=>match T e,qBn es with
   | some ⟨.num .u8,_,_,_,_⟩,some (b::l)=>some (R.of (.pv (.str (b::l))))
   | _,_=>none
  | _,_,_=>none) y:=by
 intro h
 unfold zQ6 at h
 split at h
 ·rename_i si es
  split at h
  ·rename_i k a b c d et
   split at h
   ·simp only [es,et];rw [qCb h];exact⟨_,rfl,trivial,rfl,rfl,rfl⟩
   ·simp only [es,et];rw [qCb h];exact⟨_,rfl,trivial,rfl,rfl,rfl⟩
   ·cases h
  ·rename_i a b c d et
   split at h
   ·simp only [es,et];rw [qM6 h];exact⟨_,rfl,trivial,rfl,rfl,rfl⟩
   ·simp only [es,et];rw [qM6 h];exact⟨_,rfl,trivial,rfl,rfl,rfl⟩
   ·cases h
  ·cases h
 ·cases h
theorem qM7 {T:Nat→Option TI} {s t:Nat} {x y:V} : qM5 T s t x=some y→Got (match T s,T t,x with
  | some _,some ⟨.num k,_,_,_,_⟩,.pv (.num _ n)=>some (R.of (.pv (.num k (k.wrap n))))
  | some _,some ⟨.num k,_,_,_,_⟩,.pv (.int n)=>some (R.of (.pv (.num k (k.wrap n))))
  | some _,some ⟨.int,_,_,_,_⟩,.pv (.num _ n)=>some (R.of (.pv (.int (IntKind.i64.wrap n))))
  | some _,some ⟨.int,_,_,_,_⟩,.pv (.int n)=>some (R.of (.pv (.int (IntKind.i64.wrap n))))
  | some ⟨.slice e,_,_,_,_⟩,some ⟨.str,_,_,_,_⟩,.pv (.slice es)=>match T e,qBn es with
   | some ⟨.num .u8,_,_,_,_⟩,some (b::l)=>some (R.of (.pv (.str (b::l))))
   | _,_=>none
  | _,_,_=>none) y:=by
 intro h
 unfold qM5 at h
 split at h
 ·rename_i es
  split at h
  ·rename_i et
   split at h
   ·split at h
    ·rename_i ee
     split at h
     ·rename_i el
      cases h
      simp only [es,et,ee,el]
      exact⟨_,rfl,trivial,rfl,rfl,rfl⟩
     ·cases h
    ·cases h
   ·cases h
  ·cases h
 ·cases h
def qGc (ti:TI) (t:Nat) (ok:Bool) (x:V):Option V:=match x with
 | .pv (.iface t' p)=>bif Nat.beq t' t then (match ok with
   | true=>some (.pv (.tuple [p,.bool true]))
   | false=>some (.pv p))
  else (match ok with
   | true=>match qVm ti with
    | some z=>some (.pv (.tuple [z,.bool false]))
    | none=>none
   | false=>none)
 | .pv .nilif=>match ok with
   | true=>match qVm ti with
    | some z=>some (.pv (.tuple [z,.bool false]))
    | none=>none
   | false=>none
 | _=>none
theorem qI6 {ti:TI} {t:Nat} {ok:Bool} {x y:V} (h:qGc ti t ok x=some y):Got (qV3 ti t ok x) y:=by
 unfold qGc at h
 unfold qV3
 split at h
 ·rename_i t' p
  simp only
  cases e:Nat.beq t' t with
  | true =>
   rw [e] at h
   rw [if_pos (Nat.eq_of_beq_eq_true e)]
   cases ok<;>cases h<;>exact⟨_,rfl,trivial,rfl,rfl,rfl⟩
  | false =>
   rw [e] at h
   have hne:¬ t'=t:=fun e'=>by rw [qPi e'] at e;cases e
   rw [if_neg hne]
   cases ok with
   | false=>cases h
   | true =>
    simp only at h
    split at h
    ·rename_i z ez
     cases h
     simp only [ez]
     exact⟨_,rfl,trivial,rfl,rfl,rfl⟩
    ·cases h
 ·cases ok with
  | false=>cases h
  | true =>
   simp only at h
   split at h
   ·rename_i z ez
    cases h
    simp only [ez]
    exact⟨_,rfl,trivial,rfl,rfl,rfl⟩
   ·cases h
 ·cases h
def zCl (x:V):Option V:=match x with
 | .pv (.ptr cs)=>some (.pv (.ptr cs))
 | .pv (.nptr cs)=>some (.pv (.nptr cs))
 | .loc n off=>some (.loc n off)
 | .eloc n v i o=>some (.eloc n v i o)
 | _=>none
def qTo (T:Nat→Option TI) (t f:Nat) (x:V):Option V:=match T t with
 | some ⟨.struct fs _,_,_,_,_⟩=>match fs[f]? with
  | some (off,size)=>bif Nat.beq size 0 then none else qVs x off
  | none=>none
 | _=>none
def qM8 (T:Nat→Option TI) (t f:Nat) (x:V):Option V:=match T t with
 | some ⟨.struct fs pl,_,_,_,_⟩=>bif Nat.blt f 1000 && pl.elem f then (match fs[f]? with
  | some (off,_)=>(match x with
   | .pv (.agg cs)=>(match cs[off]? with|some c=>some (.pv c)|none=>none)
   | .agg cs=>cs[off]?
   | _=>none)
  | none=>none) else bif pl.elem (f+1000) then (match fs[f]? with
  | some (off,size)=>(match x with
   | .pv (.agg cs)=>bif Nat.ble (off+size) cs.length then some (.pv (.agg ((cs.drop off).take size))) else none
   | _=>none)
  | none=>none) else none
 | _=>none
def ro (x:Option V):Option RB:=match x with
 | some v=>some ⟨v,none,false⟩
 | none=>none
def opE (T:Nat→Option TI) (nx:Nat) (val:Operand→V) (ob:Nat→Option Ob) (dst:Option Nat) (op:Op):Option RB:=match op with
 | .move x=>rb (val x)
 | .assign x=>rb (val x)
 | .pick c a b=>match val c with
  | .pv (.bool true)=>rb (val a)
  | .pv (.bool false)=>rb (val b)
  | _=>none
 | .alloc t=>qMz T nx t
 | .box _ x=>zY3 nx (val x)
 | .build t parts=>ro (qM0 T t (parts.toList.map fun p=>(p.1,val p.2)))
 | .makeFunc (.func f) first caps=>match first.toList with
  | []=>rb (.fn f (caps.toList.map val))
  | a::l=>match caps.toList with
   | []=>rb (.bfn f ((a::l).map val))
   | _::_=>none
 | .buildSlice t len parts=>match T t with
  | some ⟨.slice e,_,_,_,_⟩=>match T e with
   | some te=>match qHm 0 (parts.toList.map fun p=>(p.1,val p.2)) with
    | some es=>zX6 e te nx len es
    | none=>none
   | none=>none
  | _=>none
 | .load t x=>match T t with
  | some ti=>ro (zQx ti ob (val x))
  | none=>none
 | .store t x y=>match dst with
  | none=>match T t with
   | some ti=>qYw ti ob (val x) (val y)
   | none=>none
  | some _=>none
 | .nilCheck x=>ro (zCl (val x))
 | .binOp b t x y _=>match T t with
  | some ti=>ro (zQ2 ti.k b (val x) (val y) y)
  | none=>none
 | .unOp .not _ x=>match val x with
  | .pv (.bool b)=>rb (bv (!b))
  | _=>none
 | .makeInterface t x=>match T t with
  | some ti=>match val x with
   | .pv p=>bif ti.k.isIface then none else rb (.pv (.iface t p))
   | _=>none
  | none=>none
 | .fieldAddr t x f=>ro (qTo T t f (val x))
 | .field t x f=>ro (qM8 T t f (val x))
 | .indexAddr t x i=>ro (qHl T ob t (val x) (val i))
 | .extract x i=>ro (qHn (val x) i)
 | .range t x=>match T t with
  | some ⟨.str,_,_,_,_⟩=>qHp nx (val x)
  | _=>none
 | .next x true=>zQ5 ob (val x)
 | .index t x i=>match T t with
  | some ⟨.str,_,_,_,_⟩=>ro (qGa (val x) (val i))
  | some ⟨.array n e,_,_,_,_⟩=>match T e with
   | some te=>ro (qF9 n te (val x) (val i))
   | none=>none
  | _=>none
 | .convert s t x=>ro (match zQ6 T s t (val x) with
  | some y=>some y
  | none=>qM5 T s t (val x))
 | .typeAssert x _ t ok=>match T t with
  | some ti=>bif ti.k.isIface then none else ro (qGc ti t ok (val x))
  | none=>none
 | .makeMap t none=>match T t with
  | some ⟨.smap _ _ s,_,_,_,_⟩=>some ⟨.map nx,some (nx,.smap s []),true⟩
  | some ⟨.map _ _,_,_,_,_⟩=>some ⟨.map nx,some (nx,.cache (fun _=>False) fun p=>p),true⟩
  | _=>none
 | .mapUpdate t m k v=>match dst with
  | none=>match T t with
   | some ⟨.smap _ _ s,_,_,_,_⟩=>qRf s ob (val m) (val k) (val v)
   | _=>none
  | some _=>none
 | .insert t m k v=>match dst with
  | none=>match T t with
   | some ⟨.smap _ _ s,_,_,_,_⟩=>qRf s ob (val m) (val k) (val v)
   | _=>none
  | some _=>none
 | .lookup t m k ok=>match T t with
  | some ⟨.smap _ vt s,_,_,_,_⟩=>match T vt with
   | some tv=>match qVm tv with
    | some z=>ro (qM3 s ok z ob (val m) (val k))
    | none=>none
   | none=>none
  | _=>none
 | .slice t x lo hi mx=>match T t with
  | some ⟨.slice e,_,_,_,_⟩=>match T e with
   | some te=>ro (qEb te ob (val x) (lo.map val) (hi.map val) (mx.map val))
   | none=>none
  | some ⟨.str,_,_,_,_⟩=>ro (qGb (val x) (lo.map val) (hi.map val) (mx.map val))
  | _=>none
 | .call { callee:=.builtin .len,args,argTypes } => match argTypes.toList,args.toList with
  | [t],[x]=>match T t with
   | some ⟨.slice _,_,_,_,_⟩=>ro (zY2 ob (val x))
   | some ⟨.str,_,_,_,_⟩=>ro (zQ4 (val x))
   | _=>none
  | _,_=>none
 | .call { callee:=.builtin .append,args,argTypes } => match argTypes.toList,args.toList with
  | [t,t'],[x,y]=>bif Nat.beq t t' then (match T t with
    | some ⟨.slice e,_,_,_,_⟩=>match T e with
     | some te=>qWx e te ob nx (val x) (val y)
     | none=>none
    | _=>none) else none
  | _,_=>none
 | .call { callee:=.builtin .max,args,argTypes:=_ } => match args.toList with
  | [x,y]=>match val x,val y with
   | .pv (.int a),.pv (.int b)=>rb (.pv (.int (bif ltI a b then b else a)))
   | _,_=>none
  | _=>none
 | .call { callee:=.builtin .min,args,argTypes:=_ } => match args.toList with
  | [x,y]=>match val x,val y with
   | .pv (.int a),.pv (.int b)=>rb (.pv (.int (bif ltI b a then b else a)))
   | _,_=>none
  | _=>none
 | _=>none
theorem qXu {x:V} {r:RB} (h:rb x=some r) {f:Prop} : qHj (some ⟨True,f,x,none,false⟩) r:=by
 cases h
 exact⟨_,rfl,trivial,rfl,rfl,rfl⟩
theorem qVo {o:Option V} {r:RB} (h:ro o=some r):∃ v,o=some v∧r=⟨v,none,false⟩:=by
 unfold ro at h
 grind
theorem qWn {x:V} {r:RB} (h:rb x=some r) {nx:Nat} : r.new=true→∃ q,r.wr=some (nx,q):=by
 cases h
 simp
theorem qM9 {T:Nat→Option TI} {t:Nat} {ps:List (Nat × V)} {x:V} (h:qM0 T t ps=some x) :
  Got (match T t with
  | some ⟨.struct fs _,_,_,_,zc⟩=>(qXn fs (pvL zc) ps).map (fun cs=>R.of (qXm cs))
  | some ⟨.array m e,_,_,_,zc⟩=>match T e with
   | some te=>(qXn (qVr te.size m 0) (pvL zc) ps).map (fun cs=>R.of (qXm cs))
   | none=>none
  | _=>none) x:=by
 unfold qM0 at h
 split at h
 ·rename_i fs pl a b c zc et
  try simp only [et]
  split at h
  ·rename_i cs ec
   cases h
   rw [qCa ec,qF8]
   exact⟨_,rfl,trivial,rfl,rfl,rfl⟩
  ·cases h
 ·rename_i m e a b c zc et
  try simp only [et]
  split at h
  ·rename_i te ee
   try simp only [ee]
   split at h
   ·rename_i cs ec
    cases h
    rw [qCa ec,qF8]
    exact⟨_,rfl,trivial,rfl,rfl,rfl⟩
   ·cases h
  ·cases h
 ·cases h
theorem qTp {T:Nat→Option TI} {nx:Nat} {val:Operand→V} {ob:Nat→Option Ob} {dst:Option Nat} {op:Op} {r:RB} (h:opE T nx val ob dst op=some r) :
  ∃ note,qHj (qQb T note val ob dst op) r∧(r.new=true→∃ o,r.wr=some (nx,o)):=by
 unfold opE at h
 split at h
 ·refine⟨.none,?_,qWn h⟩
  simp only [qQb,qJn]
  exact qXu h
 ·refine⟨.none,?_,qWn h⟩
  simp only [qQb,qJn]
  exact qXu h
 ·rename_i c a b
  have key:∀ (bb:Bool),val c = .pv (.bool bb)→rb (bif bb then val a else val b)=some r→qHj (qQb T .none val ob dst (.pick c a b)) r:=by
   intro bb hc hr
   simp only [qQb,hc]
   cases bb<;>simp only [cond_true,cond_false] at hr
   ·split
    ·rename_i e1 e2 e3;rw [e3] at hr;cases e1;exact qXu hr
    ·simp_all
    ·exact qXu hr
    simp_all
   ·split
    ·rename_i e1 e2 e3;rw [e2] at hr;cases e1;exact qXu hr
    ·exact qXu hr
    ·simp_all
    simp_all
  split at h
  ·rename_i hc;exact⟨.none,key true hc h,qWn h⟩
  ·rename_i hc;exact⟨.none,key false hc h,qWn h⟩
  ·cases h
 ·rename_i t
  unfold qMz at h
  split at h
  ·rename_i ti et
   cases h
   refine⟨.box nx,?_,fun _=>⟨_,rfl⟩⟩
   simp only [qQb,et]
   exact⟨_,rfl,trivial,rfl,rfl,rfl⟩
  ·cases h
 ·rename_i t x
  unfold zY3 at h
  split at h
  ·rename_i cs ec
   obtain⟨h1,h⟩:=qQf h
   cases h
   refine⟨.box nx,?_,fun _=>⟨_,rfl⟩⟩
   simp only [qQb,ec]
   rw [if_pos (qYv h1)]
   exact⟨_,rfl,trivial,rfl,rfl,rfl⟩
  ·cases h
 ·rename_i t parts
  obtain⟨v,hv,rfl⟩:=qVo h
  refine⟨.none,?_,by simp⟩
  simp only [qQb]
  exact (qM9 hv).r
 ·rename_i f first caps
  split at h
  ·rename_i e
   refine⟨.none,?_,qWn h⟩
   have e0:first.size=0:=by rw [← Array.length_toList,e];rfl
   simp only [qQb,e0,if_true]
   exact qXu h
  ·rename_i a l e
   split at h
   ·rename_i e'
    refine⟨.none,?_,qWn h⟩
    have e0:¬ first.size=0:=by rw [← Array.length_toList,e];simp
    have e1:caps.size=0:=by rw [← Array.length_toList,e'];rfl
    simp only [qQb,e0,e1,if_true,if_false,e]
    exact qXu h
   ·cases h
 ·rename_i t len parts
  split at h
  ·rename_i e a b c d et
   split at h
   ·rename_i te ee
    split at h
    ·rename_i es ep
     obtain⟨note,hr,hn⟩:=zQz h
     refine⟨note,?_,hn⟩
     simp only [qQb,et,ee,qYx ep]
     exact hr
    ·cases h
   ·cases h
  ·cases h
 ·rename_i t x
  split at h
  ·rename_i ti et
   obtain⟨v,hv,rfl⟩:=qVo h
   refine⟨.none,?_,by simp⟩
   simp only [qQb,et]
   exact (qRd hv).r
  ·cases h
 ·rename_i t x y
  split at h
  ·split at h
   ·rename_i ti et
    refine⟨.none,?_,?_⟩
    ·simp only [qQb,et]
     exact qD9 h
    ·obtain⟨q,_,_,_,_,_⟩:=qD9 h
     unfold qYw at h
     intro hn
     exfalso
     revert hn h
     simp only [qMv]
     repeat' (first|split|(intro h;cases h)|simp only [cond] )
     all_goals (intro h;first|(cases h;done)|(cases h;simp))
   ·cases h
  ·cases h
 ·obtain⟨v,hv,rfl⟩:=qVo h
  refine⟨.none,?_,by simp⟩
  unfold zCl at hv
  simp only [qQb]
  split at hv<;>rename_i ev<;>cases hv<;>rw [ev]<;>exact⟨_,rfl,trivial,rfl,rfl,rfl⟩
 ·split at h
  ·rename_i ti et
   obtain⟨v,hv,rfl⟩:=qVo h
   refine⟨.none,?_,by simp⟩
   simp only [qQb,et]
   exact (zQ3 hv).r
  ·cases h
 ·split at h
  ·rename_i b eb
   refine⟨.none,?_,qWn h⟩
   simp only [qQb,eb,qZr]
   exact qXu h
  ·cases h
 ·split at h
  ·rename_i ti et
   split at h
   ·rename_i p ep
    cases e:ti.k.isIface with
    | true=>rw [e] at h;cases h
    | false =>
     rw [e] at h
     refine⟨.none,?_,qWn h⟩
     simp only [qQb,et,ep,e]
     exact qXu h
   ·cases h
  ·cases h
 ·obtain⟨v,hv,rfl⟩:=qVo h
  refine⟨.none,?_,by simp⟩
  unfold qTo at hv
  simp only [qQb]
  split at hv
  ·rename_i fs pl a b c d et
   split at hv
   ·rename_i off size ef
    cases e:Nat.beq size 0 with
    | true=>rw [e] at hv;cases hv
    | false =>
     rw [e] at hv
     simp only [cond_false] at hv
     have hs:¬ size=0:=fun e'=>by rw [qPi e'] at e;cases e
     simp only [et,ef,hs,if_false,hv]
     exact⟨_,rfl,trivial,rfl,rfl,rfl⟩
   ·cases hv
  ·cases hv
 ·obtain⟨v,hv,rfl⟩:=qVo h
  refine⟨.none,?_,by simp⟩
  unfold qM8 at hv
  simp only [qQb]
  split at hv
  ·rename_i fs pl a b c d et
   cases e:(Nat.blt _ 1000 && pl.elem _) with
   | false =>
    rw [e] at hv
    simp only [cond_false] at hv
    obtain⟨e2,hv⟩:=qQf hv
    split at hv
    ·rename_i off size ef
     simp only [et,ef,e,e2,cond_true,cond_false]
     split at hv
     ·rename_i cs ex
      obtain⟨e3,hv⟩:=qQf hv
      cases hv
      simp only [ex]
      exact⟨_,rfl,Nat.le_of_ble_eq_true e3,rfl,rfl,rfl⟩
     ·cases hv
    ·cases hv
   | true =>
    rw [e] at hv
    simp only [cond_true] at hv
    split at hv
    ·rename_i off size ef
     simp only [et,ef,e,cond_true]
     split at hv
     ·split at hv
      ·rename_i ex _ c ec
       cases hv
       simp only [ex,ec,Option.map_some]
       exact⟨_,rfl,trivial,rfl,rfl,rfl⟩
      ·cases hv
     ·rename_i cs ex
      simp only [ex,hv,Option.map_some]
      exact⟨_,rfl,trivial,rfl,rfl,rfl⟩
     ·cases hv
    ·cases hv
  ·cases hv
 ·obtain⟨v,hv,rfl⟩:=qVo h
  refine⟨.none,?_,by simp⟩
  simp only [qQb]
  exact (qMw hv).r
 ·obtain⟨v,hv,rfl⟩:=qVo h
  refine⟨.none,?_,by simp⟩
  unfold qHn at hv
  simp only [qQb]
  simp only [qJh] at hv
  split at hv
  ·rename_i cs ev
   split at hv
   ·rename_i c ec
    cases hv
    simp only [ev,ec]
    exact⟨_,rfl,trivial,rfl,rfl,rfl⟩
   ·cases hv
  ·rename_i cs ev
   simp only [ev,hv]
   exact⟨_,rfl,trivial,rfl,rfl,rfl⟩
  ·cases hv
 ·rename_i t x
  split at h
  ·rename_i a b c d et
   refine⟨.siter nx,?_,?_⟩
   ·simp only [qQb,et]
    unfold qHp at h
    split at h
    ·rename_i l el
     cases h
     simp only [qYe,el]
     exact⟨_,rfl,trivial,rfl,rfl,rfl⟩
    ·cases h
   ·intro _
    unfold qHp at h
    split at h
    ·cases h;exact⟨_,rfl⟩
    ·cases h
  ·cases h
 ·obtain⟨h1,h2,_⟩:=qHq h
  refine⟨.none,?_,by rw [h2];simp⟩
  simp only [qQb]
  exact h1
 ·split at h
  ·rename_i a b c d et
   obtain⟨v,hv,rfl⟩:=qVo h
   refine⟨.none,?_,by simp⟩
   simp only [qQb,et]
   exact (qI4 hv).r
  ·split at h
   ·rename_i te ee
    obtain⟨v,hv,rfl⟩:=qVo h
    refine⟨.none,?_,by simp⟩
    simp only [qQb, *]
    exact (qI3 hv).r
   ·cases h
  ·cases h
 ·obtain⟨v,hv,rfl⟩:=qVo h
  refine⟨.none,?_,by simp⟩
  simp only [qQb]
  split at hv
  ·rename_i hv'
   cases hv
   exact (qRh hv').r
  ·exact (qM7 hv).r
 ·split at h
  ·rename_i ti et
   cases e:ti.k.isIface with
   | true=>rw [e] at h;cases h
   | false =>
    rw [e] at h
    obtain⟨v,hv,rfl⟩:=qVo h
    refine⟨.none,?_,by simp⟩
    simp only [qQb,et,e]
    exact (qI6 hv).r
  ·cases h
 ·split at h
  ·rename_i kt vt sk a b c d et
   cases h
   refine⟨.smap nx sk,?_,fun _=>⟨_,rfl⟩⟩
   simp only [qQb]
   exact⟨_,rfl,trivial,rfl,rfl,rfl⟩
  ·cases h
   refine⟨.cache nx (fun _=>False) fun p=>p,?_,fun _=>⟨_,rfl⟩⟩
   simp only [qQb]
   exact⟨_,rfl,fun _ _ _ _ hd=>hd.elim,rfl,rfl,rfl⟩
  ·cases h
 ·split at h
  ·split at h
   ·rename_i kt vt sk a b c d et
    obtain⟨h1,h2,_⟩:=qX2 h
    refine⟨.none,?_,by rw [h2];simp⟩
    simp only [qQb,et]
    exact h1
   ·cases h
  ·cases h
 ·split at h
  ·split at h
   ·rename_i kt vt sk a b c d et
    obtain⟨h1,h2,_⟩:=qX2 h
    refine⟨.none,?_,by rw [h2];simp⟩
    simp only [qQb,et]
    exact h1
   ·cases h
  ·cases h
 ·split at h
  ·rename_i kt vt sk a b c d et
   split at h
   ·rename_i tv ev
    split at h
    ·rename_i z ez
     obtain⟨v,hv,rfl⟩:=qVo h
     refine⟨.none,?_,by simp⟩
     simp only [qQb,et,ev,ez]
     exact (qM4 hv).r
    ·cases h
   ·cases h
  ·cases h
 ·split at h
  ·rename_i e a b c d et
   split at h
   ·rename_i te ee
    obtain⟨v,hv,rfl⟩:=qVo h
    refine⟨.none,?_,by simp⟩
    simp only [qQb,et,ee]
    exact (qMx hv).r
   ·cases h
  ·rename_i a b c d et
   obtain⟨v,hv,rfl⟩:=qVo h
   refine⟨.none,?_,by simp⟩
   simp only [qQb,et]
   exact (qI5 hv).r
  ·cases h
 ·split at h
  ·rename_i t x et ex
   split at h
   ·rename_i e a b c d ett
    obtain⟨v,hv,rfl⟩:=qVo h
    refine⟨.none,?_,by simp⟩
    simp only [qQb,et,ex,ett]
    exact (zQy hv).r
   ·rename_i a b c d ett
    obtain⟨v,hv,rfl⟩:=qVo h
    refine⟨.none,?_,by simp⟩
    simp only [qQb,et,ex,ett]
    exact (qRg hv).r
   ·cases h
  ·cases h
 ·split at h
  ·rename_i t t' x y et ex
   have h1:=(qQf h).1
   replace h:=(qQf h).2
   have ht:=Nat.eq_of_beq_eq_true h1
   subst ht
   split at h
   ·rename_i e a b c d ett
    split at h
    ·rename_i te ee
     obtain⟨note,hr,hn⟩:=qI2 (xo:=x) h
     refine⟨note,?_,hn⟩
     simp only [qQb,et,ex,ett,ee,if_true]
     exact hr
    ·cases h
   ·cases h
  ·cases h
 ·split at h
  ·rename_i x y ex
   split at h
   ·rename_i a b ea eb
    refine⟨.none,?_,qWn h⟩
    simp only [qQb,ex,ea,eb]
    have:(if b > a then b else a)=bif ltI a b then b else a:=by
     rw [qQn]
     by_cases hh:a<b
     ·rw [if_pos (show b > a from hh),decide_eq_true hh];rfl
     ·rw [if_neg (show ¬ b > a from hh),decide_eq_false hh];rfl
    rw [this]
    exact qXu h
   ·cases h
  ·cases h
 ·split at h
  ·rename_i x y ex
   split at h
   ·rename_i a b ea eb
    refine⟨.none,?_,qWn h⟩
    simp only [qQb,ex,ea,eb]
    have:(if b<a then b else a)=bif ltI b a then b else a:=by
     rw [qQn]
     by_cases hh:b<a
     ·rw [if_pos (show b<a from hh),decide_eq_true hh];rfl
     ·rw [if_neg (show ¬ b<a from hh),decide_eq_false hh];rfl
    rw [this]
    exact qXu h
   ·cases h
  ·cases h
 ·cases h
structure IS where
 sl:Tr V
 ob:Tr Ob
 nx:Nat
 dt:List Nat
inductive AE where
 | normal
 | exit (i:Nat)
 | ret
structure Res where
 x:V
 ch:List (Nat × Ob)
 nw:List (Nat × Ob)
 nx:Nat
structure Tc where
 wn:List Nat
 rd:List Nat
structure qZx where
 T:Nat→Option TI
 gl:Nat→Option (List PV)
 F:Nat→Option Func
 intr:Nat→List V→Option V
def IS.val (gl:Nat→Option (List PV)) (s:IS):Operand→V
 | .tmp t=>match s.sl.get t with
  | some v=>v
  | none => .undef
 | .const v=>cst v
 | .func f => .fn f []
 | .global g=>match gl g with
  | some cs => .pv (.ptr cs)
  | none => .undef
def qYy (t:Tr V) (dst:Option Nat) (x:V):Tr V:=match dst with
 | none=>t
 | some d=>t.put d (some x)
def qRi (bs n:Nat) (l:List Nat):List Nat:=bif Nat.blt n bs then n::l else l
def IS.app (bs:Nat) (s:IS) (dst:Option Nat) (r:RB):IS:=match r.wr with
 | none=>⟨qYy s.sl dst r.x,s.ob,s.nx,s.dt⟩
 | some (n,o)=>bif r.new then ⟨qYy s.sl dst r.x,s.ob.put n (some o),Nat.succ s.nx,s.dt⟩ else ⟨qYy s.sl dst r.x,s.ob.put n (some o),s.nx,qRi bs n s.dt⟩
def zWh:V→List Nat
 | .arr n _ _=>[n]
 | _=>[]
def qX3:V→List Nat
 | .arr n _ _=>[n]
 | .agg cs=>cs.flatMap zWh
 | _=>[]
def qRj (bs:Nat) (s:IS) (n:Nat):IS:=bif Nat.blt n bs then s else (match s.ob.get n with
 | some (.arr ver _ _ es)=>match unE es with
  | some ps=>⟨s.sl.map (qD4 n ver ps),(s.ob.put n none).map (qKd n ver ps),s.nx,s.dt⟩
  | none=>s
 | _=>s)
def qI7 (bs:Nat):List Nat→IS→IS
 | [],s=>s
 | n::r,s=>qI7 bs r (qRj bs s n)
def qI8 (bs:Nat):List Nat→IS→IS
 | [],s=>s
 | t::r,s=>qI8 bs r (match s.sl.get t with
  | some v=>qI7 bs (qX3 v) s
  | none=>s)
def qBb:List Operand→List Nat
 | []=>[]
 | .tmp t::r=>t::qBb r
 | _::r=>qBb r
def zWi:Op→List Nat
 | .call { callee:=.value _,args,.. } => qBb args.toList
 | .call { callee:=.builtin .append,args,.. } => qBb (args.toList.drop 1)
 | .buildSlice _ _ ps=>qBb (ps.toList.map (·.2))
 | .makeInterface _ x=>qBb [x]
 | _=>[]
def qXv:List Oper→List Nat
 | []=>[]
 | o::r=>zWi o.op++qXv r
def reach (nx:Nat) (ob:Tr Ob):Nat→List Nat→Tr Ob→List Nat→Option (Tr Ob × List Nat)
 | 0,_,_,_=>none
 | _+1,[],sub,l=>some (sub,l)
 | f+1,n::r,sub,l=>bif Nat.blt n nx then (match sub.get n with
  | some _=>reach nx ob f r sub l
  | none=>match ob.get n with
   | none=>reach nx ob f r sub l
   | some o=>reach nx ob f (o.names++r) (sub.put n (some o)) (n::l)) else none
def qYz (bs nx:Nat) (sub ob:Tr Ob):Nat→List Nat→Tr Ob→List (Nat × Ob)→Option (List (Nat × Ob))
 | 0,_,_,_=>none
 | _+1,[],_,l=>some l
 | f+1,n::r,seen,l=>bif Nat.blt n bs then (match sub.get n with
   | some _=>qYz bs nx sub ob f r seen l
   | none=>none) else match seen.get n with
  | some _=>qYz bs nx sub ob f r seen l
  | none=>match ob.get n with
   | none=>none
   | some o=>bif Nat.blt n nx then qYz bs nx sub ob f (o.names++r) (seen.put n (some o)) ((n,o)::l) else none
def zQ7:List Nat→Tr Ob→List Nat
 | [],_=>[]
 | n::r,seen=>match seen.get n with
  | some _=>zQ7 r seen
  | none=>n::zQ7 r (seen.put n (some (.box [])))
def zX7 (ob:Tr Ob):List Nat→Option (List (Nat × Ob))
 | []=>some []
 | n::r=>match ob.get n with
  | some o=>match zX7 ob r with
   | some l=>some ((n,o)::l)
   | none=>none
  | none=>none
def qCc:List (Nat × Ob)→List Nat
 | []=>[]
 | (_,o)::r=>o.names++qCc r
def qY0 (T:Nat→Option TI) (s:IS):ResultVar→Option V
 | .tmp t=>some (match s.sl.get t with|some v=>v|none => .undef)
 | .cell a t=>match T t,s.sl.get a with
  | some ti,some (.loc n off)=>match s.ob.get n with
   | some (.box cs)=>rdV ti.isAgg ti.size (cs.drop off)
   | _=>none
  | _,_=>none
def qNa (T:Nat→Option TI) (s:IS):List ResultVar→Option (List V)
 | []=>some []
 | r::rs=>match qY0 T s r,qNa T s rs with
  | some x,some xs=>some (x::xs)
  | _,_=>none
def qRk (bs:Nat):List Nat→List Nat
 | []=>[]
 | n::r=>bif Nat.blt n bs then qRk bs r else n::qRk bs r
def qXg (T:Nat→Option TI) (bs:Nat):List ResultVar→IS→IS
 | [],s=>s
 | r::rs,s=>qXg T bs rs (match qY0 T s r with
  | some v=>qI7 bs (qRk bs (qX3 v)) s
  | none=>s)
def qTq (T:Nat→Option TI) (bs:Nat) (sub:Tr Ob) (rs:List ResultVar) (s:IS):Option Res:=match qNa T s rs with
 | some xs=>match zX7 s.ob (zQ7 s.dt .nil) with
  | some ch=>match qYz bs s.nx sub s.ob 1000000 ((qIw xs).names++qCc ch) .nil [] with
   | some nw=>some ⟨qIw xs,ch,nw,s.nx⟩
   | none=>none
  | none=>none
 | none=>none
def zQ8 (T:Nat→Option TI) (bs:Nat) (sub:Tr Ob) (rs:List ResultVar):AE→IS→Option Res
 | .exit _,_=>none
 | _,s=>qTq T bs sub rs (qXg T bs rs s)
def qEe (bs:Nat):List (Nat × Ob)→List Nat→List Nat
 | [],l=>l
 | (n,_)::r,l=>qEe bs r (qRi bs n l)
def qKz:List (Nat × Ob)→Tr Ob→Tr Ob
 | [],t=>t
 | (n,o)::r,t=>qKz r (t.put n (some o))
def qZh:Nat→List V→Tr V→Tr V
 | _,[],t=>t
 | k,x::xs,t=>qZh (Nat.succ k) xs (t.put k (some x))
abbrev Run:=Nat→Nat→Code→IS→(AE→IS→Option Res)→Option Res
abbrev Call:=Nat→List V→IS→Option (Res × List Nat)
def qBc (ev:qZx) (run:Run) (fn:Func) (c:Code) (args:List V) (nx:Nat) (sub:Tr Ob):Option Res :=
 run fn.ntmps nx c ⟨qZh 0 args .nil,sub,nx,[]⟩ (zQ8 ev.T nx sub fn.results.toList)
def qCd (bs:Nat) (s:IS) (dst:Option Nat) (r:Res):IS:=⟨qYy s.sl dst r.x,qKz r.nw (qKz r.ch s.ob),r.nx,qEe bs r.ch s.dt⟩
def qI9:V:=.pv (.tuple [])
def zY4 (nt:Nat):Option Nat→Bool
 | some d=>Nat.blt d nt
 | none=>true
def callR (bs:Nat) (s:IS) (dst:Option Nat):Option (Res × List Nat)→Option (IS × Tc)
 | some (r,ks)=>some (qCd bs s dst r,⟨r.ch.map (·.1)++r.nw.map (·.1),ks⟩)
 | none=>none
def doI (ev:qZx) (call:Call) (bs:Nat) (o:Oper) (s:IS):Option (IS × Tc):=match qQ1 (s.val ev.gl) o.op with
 | some (f,args)=>callR bs s o.dst (call f args s)
 | none=>match opE ev.T s.nx (s.val ev.gl) s.ob.get o.dst o.op with
  | some r=>some (s.app bs o.dst r,⟨match r.wr with|some (n,_)=>[n]|none=>[],rdN (s.val ev.gl) o.op⟩)
  | none=>none
def gvI (all:List Oper) (s:IS) (j:Nat):V:=match all[j]? with
 | some o=>match o.dst with
  | some d=>match s.sl.get d with
   | some v=>v
   | none => .undef
  | none => .undef
 | none => .undef
def qGd (ops:Array Oper) (o1 o2:Oper):Bool :=
 (match o1.dst with|some d=>(o2.looksAt ops).contains d || o2.dst == some d|none=>false) ||
 (match o2.dst with|some d=>(o1.looksAt ops).contains d|none=>false)
def qRl (ops:List Oper):Bool :=
 (List.range ops.length).all fun j=>match ops[j]? with
  | some oj=>(qB2 oj).all (fun i=>decide (i<j)) && (List.range j).all fun i=>match ops[i]? with
   | some oi => !qGd ops.toArray oi oj || ((qWj ops []).getD j 0).testBit i
   | none=>false
  | none=>false
def qEf (a b:Tc):Bool:=a.wn.all (fun n => !qAn b.rd n && !qAn b.wn n) && b.wn.all (fun n => !qAn a.rd n)
def qEg:List Tc→Bool
 | []=>true
 | t::r=>match t.wn with
  | []=>qEg r
  | _::_=>false
def qLa (ops:List Oper) (tr:List Tc):Bool :=
 (List.range ops.length).all fun j=>match tr[j]? with
  | some b=>(List.range j).all fun i=>match tr[i]? with
   | some a=>qEf a b || ((qWj ops []).getD j 0).testBit i
   | none=>false
  | none=>false
def zQ9 (bs:Nat) (l:List Nat) (s:IS):IS:=bif Nat.beq s.nx bs then s else qI8 bs l s
theorem qGe:∀ {cs:List V} {ps:List PV},unL cs=some ps→cs=pvL ps
 | [],ps,h=>by cases h;rfl
 | c::cs,ps,h=>by
  unfold unL at h
  split at h
  ·rename_i p ps' hp hps
   cases h
   have:=qGe hps
   subst this
   cases c<;>simp only [V.un] at hp<;>cases hp
   rfl
  ·cases h
theorem qNb:∀ {es:List (List V)} {ps:List (List PV)},unE es=some ps→es=pvE ps
 | [],ps,h=>by cases h;rfl
 | e::es,ps,h=>by
  unfold unE at h
  split at h
  ·rename_i p ps' hp hps
   cases h
   have h1:=qNb hps
   have h2:=qGe hp
   subst h1 h2
   rfl
  ·cases h
structure Rel (s:IS) (σ:St):Prop where
 sl:∀ t,qZi σ.slots t=(match s.sl.get t with|some v=>v|none => .undef)
 ob:∀ n,qQc σ.objs n=s.ob.get n
 us:∀ n∈σ.used,n<s.nx
structure Inv (bs:Nat) (sub:Tr Ob) (s:IS):Prop where
 le:bs≤s.nx
 same:∀ n,n<bs→n ∉ s.dt→s.ob.get n=sub.get n
 old:∀ n,n<bs→(s.ob.get n).isSome=true→(sub.get n).isSome=true
 names:∀ n o,sub.get n=some o→n<bs ∧ ∀ k∈o.names,k<bs
 dts:∀ n∈s.dt,n<bs
theorem Rel.val {s:IS} {σ:St} (h:Rel s σ) (gl:Nat→Option (List PV)):σ.val gl=s.val gl:=by
 funext x
 cases x with
 | tmp t=>exact h.sl t
 | const v=>rfl
 | func f=>rfl
 | global g=>rfl
theorem Rel.obf {s:IS} {σ:St} (h:Rel s σ):qQc σ.objs=s.ob.get:=funext h.ob
def Wk (σ σ':St):Prop:=∀ C E a w,Ga C E σ a w→∃ E',Ga C E' σ' a w
theorem Wk.refl (σ:St):Wk σ σ:=fun _ E _ _ h=>⟨E,h⟩
theorem Wk.trans {a b c:St} (h:Wk a b) (h':Wk b c):Wk a c:=fun C E x w hG=>by
 obtain⟨E',h1⟩:=h C E x w hG
 exact h' C E' x w h1
theorem AWP.wk {X:Env1} {c:Code} {σ σ':St} {Q:AEx→St→Prop} (hw:Wk σ σ') (h:AWP X c σ' Q):AWP X c σ Q:=by
 intro C E a w hC hG
 obtain⟨E',h'⟩:=hw C E a w hG
 exact h C E' a w hC h'
theorem AWP.post {X:Env1} {c:Code} {σ:St} {Q Q':AEx→St→Prop} (h:AWP X c σ Q) (hq:∀ ae σ',Q ae σ'→(∃ σ'',Wk σ' σ''∧Q' ae σ'') ∧ ∀ p,ae ≠ .panic p):AWP X c σ Q':=by
 intro C E a w hC hG
 refine wp_mono (h C E a w hC hG) ?_
 rintro e a' w' ⟨E',σ',ae,hG',hr,hqq⟩
 obtain⟨⟨σ'',hw,hq'⟩,hp⟩:=hq ae σ' hqq
 obtain⟨E'',hG''⟩:=hw C E' a' w' hG'
 refine⟨E'',σ'',ae,hG'',?_,hq'⟩
 cases ae with
 | panic p=>simp_all
 | _=>exact hr
theorem zZa {n ver:Nat} {ps:List (List PV)} : ∀ {x:V},n ∉ x.names→qLq n ver ps x=x:=by
 intro x h
 cases x<;>simp only [qLq]
 grind [V.names]
theorem qNc {n ver:Nat} {ps:List (List PV)} : ∀ {cs:List V},n ∉ qQg cs→qLr n ver ps cs=cs
 | [],_=>rfl
 | c::cs,h=>by
  simp only [qQg,List.mem_append,not_or] at h
  simp only [qLr]
  rw [zZa h.1,qNc h.2]
theorem qRm {n ver:Nat} {ps:List (List PV)} {o:Ob} (h:n ∉ o.names):qKd n ver ps o=o:=by
 cases o with
 | box cs=>simp only [qKd];rw [qNc h]
 | _=>rfl
theorem qCe {bs:Nat} {sub:Tr Ob} {s:IS} (hI:Inv bs sub s) (n:Nat):Inv bs sub (qRj bs s n):=by
 unfold qRj
 cases e:Nat.blt n bs with
 | true=>exact hI
 | false =>
  simp only [cond_false]
  rw [qVd] at e
  have hn:¬ n<bs:=of_decide_eq_false e
  split
  ·rename_i ver sz ty es ho
   split
   ·rename_i ps hps
    have hget:∀ m,((s.ob.put n none).map (qKd n ver ps)).get m=if m=n then none else (s.ob.get m).map (qKd n ver ps):=by
     intro m
     rw [Tr.get_map,Tr.get_put]
     split<;>rfl
    refine⟨hI.le,?_,?_,hI.names,hI.dts⟩
    ·intro m hm hd
     rw [hget m,if_neg (by omega),hI.same m hm hd]
     cases q:sub.get m with
     | none=>rfl
     | some o =>
      simp only [Option.map_some]
      rw [qRm]
      intro hk
      exact hn ((hI.names m o q).2 n hk)
    ·intro m hm hs
     rw [hget m,if_neg (by omega)] at hs
     exact hI.old m hm (by simp_all)
   ·exact hI
  ·exact hI
theorem qEh {bs:Nat} {sub:Tr Ob} : ∀ (l:List Nat) {s:IS},Inv bs sub s→Inv bs sub (qI7 bs l s)
 := by intro x;induction x<;>grind [qCe,qI7]
theorem qNd {bs:Nat} {sub:Tr Ob} : ∀ (l:List Nat) {s:IS},Inv bs sub s→Inv bs sub (qI8 bs l s)
 := by intro x;induction x<;>grind [qI8,qEh]
theorem qK0 {T:Nat→Option TI} {bs:Nat} {sub:Tr Ob} : ∀ (l:List ResultVar) {s:IS},Inv bs sub s→Inv bs sub (qXg T bs l s)
 := by intro x;induction x<;>grind [qXg,qEh]
theorem qGf {bs:Nat} {s:IS} {σ:St} (hR:Rel s σ) (n:Nat):∃ σ',Wk σ σ'∧Rel (qRj bs s n) σ':=by
 have hid:∃ σ',Wk σ σ'∧Rel s σ':=⟨σ,Wk.refl σ,hR⟩
 unfold qRj
 cases e:Nat.blt n bs with
 | true=>exact hid
 | false =>
  simp only [cond_false]
  split
  ·rename_i ver sz ty es ho
   split
   ·rename_i ps hps
    have hes:=qNb hps
    subst hes
    have ho':qQc σ.objs n=some (.arr ver sz ty (pvE ps)):=(hR.ob n).trans ho
    refine⟨σ.frz n ver ps,fun C E a w hG=>hG.frz ho',⟨?_,?_,hR.us⟩⟩
    ·intro t
     simp only [St.frz,qB4,hR.sl,Tr.get_map]
     cases s.sl.get t<;>rfl
    ·intro m
     simp only [St.frz,qWb,hR.ob,Tr.get_map,Tr.get_put]
     split<;>rfl
   omega
  omega
theorem qCf {bs:Nat} : ∀ (l:List Nat) {s:IS} {σ:St},Rel s σ→∃ σ',Wk σ σ'∧Rel (qI7 bs l s) σ'
 | [],s,σ,hR=>⟨σ,Wk.refl σ,hR⟩
 | n::r,s,σ,hR=>by
  obtain⟨σ1,h1,h2⟩:=qGf (bs:=bs) hR n
  obtain⟨σ2,h4,h5⟩:=qCf r h2
  exact⟨σ2,h1.trans h4,h5⟩
theorem qCg {bs:Nat} : ∀ (l:List Nat) {s:IS} {σ:St},Rel s σ→∃ σ',Wk σ σ'∧Rel (qI8 bs l s) σ'
 | [],s,σ,hR=>⟨σ,Wk.refl σ,hR⟩
 | t::r,s,σ,hR=>by
  unfold qI8
  split
  ·rename_i v hv
   obtain⟨σ1,h1,h2⟩:=qCf (bs:=bs) (qX3 v) hR
   obtain⟨σ2,h4,h5⟩:=qCg r h2
   exact⟨σ2,h1.trans h4,h5⟩
  ·exact qCg r hR
theorem qY1 {T:Nat→Option TI} {bs:Nat} : ∀ (l:List ResultVar) {s:IS} {σ:St},Rel s σ→∃ σ',Wk σ σ'∧Rel (qXg T bs l s) σ'
 | [],s,σ,hR=>⟨σ,Wk.refl σ,hR⟩
 | t::r,s,σ,hR=>by
  unfold qXg
  split
  ·rename_i v hv
   obtain⟨σ1,h1,h2⟩:=qCf (bs:=bs) (qRk bs (qX3 v)) hR
   obtain⟨σ2,h4,h5⟩:=qY1 r h2
   exact⟨σ2,h1.trans h4,h5⟩
  ·exact qY1 r hR
structure qGg (nx:Nat) (ob:Tr Ob) (todo:List Nat) (sub:Tr Ob) (l:List Nat):Prop where
 get:∀ n o,sub.get n=some o→ob.get n=some o∧n<nx∧n∈l ∧ ∀ k∈o.names,k<nx∨k∈todo
 mem:∀ n∈l,(sub.get n).isSome=true
theorem qX4 {nx:Nat} {ob:Tr Ob} : ∀ (f:Nat) (todo:List Nat) (sub:Tr Ob) (l:List Nat) {sub':Tr Ob} {l':List Nat},reach nx ob f todo sub l=some (sub',l')→qGg nx ob todo sub l→qGg nx ob [] sub' l' ∧ ∀ k∈todo,k<nx
 | 0,_,_,_,_,_,h,_=>by cases h
 | f+1,[],sub,l,_,_,h,hr=>by cases h;simp_all
 | f+1,n::r,sub,l,sub',l',h,hr=>by
  obtain⟨h1,h⟩:=qQf h
  have hn:=qJi h1
  have hdrop:qGg nx ob r sub l:=⟨fun m o hm=>⟨(hr.get m o hm).1,(hr.get m o hm).2.1,(hr.get m o hm).2.2.1,fun k hk=>by
   rcases (hr.get m o hm).2.2.2 k hk with h2|h2
   ·omega
   grind⟩,hr.mem⟩
  split at h
  ·obtain⟨h3,h4⟩:=qX4 f r sub l h hdrop
   simp_all
  ·split at h
   ·obtain⟨h3,h4⟩:=qX4 f r sub l h hdrop
    simp_all
   ·rename_i hs o ho
    obtain⟨h3,h4⟩:=qX4 f (o.names++r) (sub.put n (some o)) (n::l) h (by
     refine⟨fun m q hm => ?_,fun m hm => ?_⟩
     ·rw [Tr.get_put] at hm
      split at hm
      ·simp_all
      ·obtain⟨a,b,c,d⟩:=hdrop.get m q hm
       grind
     ·rw [Tr.get_put]
      split
      ·rfl
      ·rcases List.mem_cons.1 hm with h5|h5
       ·omega
       ·exact hr.mem m h5)
    simp_all
structure qCh (bs nx:Nat) (sub ob:Tr Ob) (todo:List Nat) (seen:Tr Ob) (l:List (Nat × Ob)):Prop where
 ent:∀ n o,(n,o)∈l→bs≤n∧n<nx∧ob.get n=some o ∧ ∀ k∈o.names,(sub.get k).isSome=true∨k∈qQa l∨k∈todo
 seen:∀ n,(seen.get n).isSome=true→n∈qQa l
theorem qY2 {bs nx:Nat} {sub ob:Tr Ob} : ∀ (f:Nat) (todo:List Nat) (seen:Tr Ob) (l:List (Nat × Ob)) {l':List (Nat × Ob)},qYz bs nx sub ob f todo seen l=some l'→qCh bs nx sub ob todo seen l →
  (∃ seen',qCh bs nx sub ob [] seen' l')∧(∀ k∈todo,(sub.get k).isSome=true∨k∈qQa l') ∧ ∀ k∈qQa l,k∈qQa l'
 | 0,_,_,_,_,h,_=>by cases h
 | f+1,[],seen,l,_,h,hr=>by cases h;exact⟨⟨seen,hr⟩,by simp,fun k hk=>hk⟩
 | f+1,n::r,seen,l,l',h,hr=>by
  unfold qYz at h
  have hskip:((sub.get n).isSome=true∨n∈qQa l)→qYz bs nx sub ob f r seen l=some l'→(∃ seen',qCh bs nx sub ob [] seen' l')∧(∀ k∈n::r,(sub.get k).isSome=true∨k∈qQa l') ∧ ∀ k∈qQa l,k∈qQa l':=by
   intro hn h
   obtain⟨h1,h2,h3⟩:=qY2 f r seen l h ⟨fun m o hm=>⟨(hr.ent m o hm).1,(hr.ent m o hm).2.1,(hr.ent m o hm).2.2.1,fun k hk=>by
    rcases (hr.ent m o hm).2.2.2 k hk with h4|h4|h4
    ·exact .inl h4
    ·exact .inr (.inl h4)
    ·rcases List.mem_cons.1 h4 with rfl|h4
     ·rcases hn with hn|hn
      ·exact .inl hn
      ·exact .inr (.inl hn)
     ·exact .inr (.inr h4)⟩,hr.seen⟩
   refine⟨h1,fun k hk => ?_,h3⟩
   rcases List.mem_cons.1 hk with rfl|hk
   ·rcases hn with hn|hn
    ·exact .inl hn
    ·exact .inr (h3 _ hn)
   ·exact h2 k hk
  cases e:Nat.blt n bs with
  | true =>
   rw [e] at h
   simp only [cond_true] at h
   split at h
   ·rename_i o ho
    exact hskip (.inl (by rw [ho];rfl)) h
   ·cases h
  | false =>
   rw [e] at h
   simp only [cond_false] at h
   rw [qVd] at e
   have hnb:¬ n<bs:=of_decide_eq_false e
   split at h
   ·rename_i o ho
    exact hskip (.inr (hr.seen n (by rw [ho];rfl))) h
   ·split at h
    ·cases h
    ·rename_i hs o ho
     obtain⟨h1,h⟩:=qQf h
     have hn:=qJi h1
     obtain⟨h2,h3,h4⟩:=qY2 f (o.names++r) (seen.put n (some o)) ((n,o)::l) h (by
      refine⟨fun m q hm => ?_,fun m hm => ?_⟩
      ·rcases List.mem_cons.1 hm with e1|e1
       ·cases e1
        exact⟨by omega,hn,ho,fun k hk => .inr (.inr (by simp [hk]))⟩
       ·obtain⟨a,b,c,d⟩:=hr.ent m q e1
        refine⟨a,b,c,fun k hk => ?_⟩
        rcases d k hk with h5|h5|h5
        ·exact .inl h5
        ·exact .inr (.inl (by simp only [qQa,List.map_cons,List.mem_cons];exact .inr h5))
        ·rcases List.mem_cons.1 h5 with rfl|h5
         ·exact .inr (.inl (by simp [qQa]))
         ·exact .inr (.inr (by simp [h5]))
      ·rw [Tr.get_put] at hm
       simp only [qQa,List.map_cons,List.mem_cons]
       by_cases e1:m=n
       ·exact .inl e1
       ·rw [if_neg e1] at hm
        exact .inr (hr.seen m hm))
     refine⟨h2,fun k hk => ?_,fun k hk=>h4 k (by simp only [qQa,List.map_cons,List.mem_cons];exact .inr hk)⟩
     rcases List.mem_cons.1 hk with rfl|hk
     ·exact .inr (h4 _ (by simp [qQa]))
     ·exact h3 k (by simp [hk])
theorem qCi:∀ {l u:List Nat},(∀ n∈l,n∈u)→qPg l u
 := by intro x;induction x<;>simp_all [trivial,qPg]
theorem qGh:∀ {l u:List (Nat × Ob)},(∀ p∈l,qQc u p.1=some p.2)→qWu l u
 := by intro x;induction x<;>simp_all [trivial,qQc,qWu]<;>grind
theorem mem_mentO {l:List (Nat × Ob)} {n:Nat} : n∈qJl l ↔ ∃ p∈l,n∈p.2.names:=by
 induction l with
 | nil=>simp [qJl]
 | cons p r ih=>grind [qJl]
theorem mem_namesOb {l:List (Nat × Ob)} {n:Nat} : n∈qZg l↔n∈qQa l∨n∈qJl l:=by
 induction l with
 | nil=>simp [qZg,qQa,qJl]
 | cons p r ih =>
  obtain⟨k,o⟩:=p
  have hk:qQa ((k,o)::r)=k::qQa r:=rfl
  grind [qZg,qJl]
theorem qQt (a b:List (Nat × Ob)):qQa (a++b)=qQa a++qQa b:=by simp [qQa]
theorem keysO_mem {l:List (Nat × Ob)} {n:Nat} : n∈qQa l ↔ ∃ o,(n,o)∈l:=by
 simp only [qQa,List.mem_map]
 constructor
 ·rintro⟨⟨k,o⟩,h,rfl⟩;exact⟨o,h⟩
 ·rintro⟨o,h⟩;exact⟨(n,o),h,rfl⟩
theorem qWe {l:List (Nat × Ob)} {n:Nat} {o:Ob} (h:qQc l n=some o):(n,o)∈l:=by
 induction l with
 | nil=>cases h
 | cons p r ih =>
  grind [qQc,List.mem_cons_of_mem]
theorem qEi {l:List (Nat × Ob)} {n:Nat} (h:n ∉ qQa l):qQc l n=none:=by
 cases e:qQc l n with
 | none=>rfl
 | some o=>exact absurd (qQe e) h
theorem qHr {l:List (Nat × Ob)} {G:Nat→Option Ob} (h:∀ n o,(n,o)∈l→G n=some o) (n:Nat):(n∈qQa l→qQc l n=G n):=by
 grind [qQs,qWe]
def pick (sub:Tr Ob) (l:List Nat):List (Nat × Ob):=l.filterMap fun n=>(sub.get n).map fun o=>(n,o)
theorem mem_pick {sub:Tr Ob} {l:List Nat} {n:Nat} {o:Ob} : (n,o)∈pick sub l↔n∈l∧sub.get n=some o:=by
 simp only [pick,List.mem_filterMap,Option.map_eq_some_iff,Prod.mk.injEq]
 constructor
 ·rintro⟨m,hm,q,hq,rfl,rfl⟩;exact⟨hm,hq⟩
 ·rintro⟨h1,h2⟩;exact⟨n,h1,o,h2,rfl,rfl⟩
theorem qCj:∀ (l:List Nat) (seen:Tr Ob) (n:Nat),n∈l→(seen.get n).isSome=true∨n∈zQ7 l seen
 | [],_,_,h=>by cases h
 | m::r,seen,n,h=>by
  unfold zQ7
  rcases List.mem_cons.1 h with rfl|h
  ·grind
  ·cases e:seen.get m with
   | some o=>exact qCj r seen n h
   | none =>
    rcases qCj r (seen.put m (some (.box []))) n h with h1|h1
    ·rw [Tr.get_put] at h1
     grind
    simp_all
theorem qCk:∀ (l:List Nat) (seen:Tr Ob) (n:Nat),n∈zQ7 l seen→n∈l
 | [],_,_,h=>by cases h
 | m::r,seen,n,h=>by
  unfold zQ7 at h
  split at h
  ·exact List.mem_cons_of_mem _ (qCk r seen n h)
  ·rcases List.mem_cons.1 h with rfl|h
   ·simp
   ·exact List.mem_cons_of_mem _ (qCk r _ n h)
theorem qNe {ob:Tr Ob} : ∀ {l:List Nat} {ch:List (Nat × Ob)},zX7 ob l=some ch→qQa ch=l ∧ ∀ n o,(n,o)∈ch→ob.get n=some o
 | [],ch,h=>by cases h;exact⟨rfl,by simp⟩
 | m::r,ch,h=>by
  unfold zX7 at h
  split at h
  ·rename_i o ho
   split at h
   ·rename_i l hl
    cases h
    obtain⟨h1,h2⟩:=qNe hl
    refine⟨by simp [qQa] at h1 ⊢;exact h1,fun n q hm => ?_⟩
    rcases List.mem_cons.1 hm with e|hm
    ·cases e;exact ho
    ·exact h2 n q hm
   ·cases h
  ·cases h
theorem mem_chNames {l:List (Nat × Ob)} {n:Nat} : n∈qCc l↔n∈qJl l:=by
 induction l with
 | nil=>rfl
 | cons p r ih=>grind [qCc,qJl]
def AE.x:AE→AEx
 | .normal => .normal
 | .exit i => .exit i
 | .ret => .ret
def KQ (k:AE→IS→Option Res) (r:Res) (bs:Nat) (sub:Tr Ob):AEx→St→Prop:=fun ae σ' => ∃ e s',ae=AE.x e∧Rel s' σ'∧Inv bs sub s'∧k e s'=some r
structure zX8 (ev:qZx) (P:Program) (run:Run):Prop where
 syn:∀ (nt bs:Nat) (c:Code) (s:IS) (k:AE→IS→Option Res) (r:Res),run nt bs c s k=some r→∀ (sub:Tr Ob),Inv bs sub s→∃ e s',Inv bs sub s'∧k e s'=some r
 awp:∀ (nt bs:Nat) (c:Code) (s:IS) (k:AE→IS→Option Res) (r:Res),run nt bs c s k=some r →
  ∀ (X:Env1),X.P=P→X.T=ev.T→X.gl=ev.gl→X.nt=nt→(∀ n∈X.given,n<bs)→∀ (sub:Tr Ob) (σ:St),Rel s σ→Inv bs sub s→AWP X c σ (KQ k r bs sub)
structure qPk (ev:qZx) (P:Program):Prop where
 T:TOK P ev.T
 F : ∀ f fn, ev.F f = some fn → P.funcs[f]? = some fn ∧ (fn.name == "runtime.NumGoroutine") = false
 intr:∀ f args x,ev.intr f args=some x→AC P ev.gl f args [] (.ret x) []
 mix:P.follows .mixedOrders=true
theorem qLb {X:Env1} {T:Nat→Option TI} (hT:X.T=T) {s:IS} {σ:St} (hR:Rel s σ) (v:ResultVar):qY0 T s v=qXf X σ v:=by
 cases v with
 | tmp t=>simp only [qY0,qXf,hR.sl]<;>rfl
 | cell a t =>
  simp only [qY0,qXf,hR.sl,hT]
  cases s.sl.get a with
  | none=>cases T t<;>rfl
  | some v =>
   cases T t with
   | none=>rfl
   | some ti =>
    cases v<;>try rfl
    simp only [hR.ob]<;>rfl
theorem qCl {X:Env1} {T:Nat→Option TI} (hT:X.T=T) {s:IS} {σ:St} (hR:Rel s σ):∀ (l:List ResultVar),qNa T s l=qP8 X σ l
 | []=>rfl
 | r::rs=>by
  simp only [qNa,qP8]
  rw [qLb hT hR,qCl hT hR rs]
  cases qXf X σ r<;>cases qP8 X σ rs<;>rfl
theorem qWy:∀ (xs:List V) (k:Nat) (t:Tr V) (i:Nat),(qZh k xs t).get i=if k≤i∧i<k+xs.length then xs[i-k]? else t.get i
 | [],k,t,i=>by
  grind [qZh]
 | x::xs,k,t,i=>by
  simp only [qZh]
  rw [qWy xs (k+1)]
  rw [Tr.get_put]
  grind
structure Called (P:Program) (gl:Nat→Option (List PV)) (s:IS) (f:Nat) (args:List V) (r:Res) (ks:List Nat) (ro o1:List (Nat × Ob)):Prop where
 ac:AC P gl f args (ro++o1) (.ret r.x) (ro++(r.ch++r.nw))
 apart:∀ n∈qQa ro,n ∉ qQa o1∧n ∉ qQa (r.ch++r.nw)
 subs:∀ p∈ro++o1,s.ob.get p.1=some p.2
 kss:∀ n∈qQa ro++qQa o1,n∈ks
 inch:∀ n∈qQa o1,n∈qQa r.ch
 gfn:∃ G:Nat→Option Ob,∀ n o,(n,o)∈r.ch++r.nw→G n=some o
 chs:∀ n∈qQa r.ch,n<s.nx∧(s.ob.get n).isSome=true∧n∈qQa o1
 nws:∀ n∈qQa r.nw,s.nx≤n∧n<r.nx
 le:s.nx≤r.nx
 all:∀ n∈ks,n∈qQa (ro++o1)
theorem qCm {ev:qZx} {P:Program} {run:Run} (hg:zX8 ev P run) (he:qPk ev P) {f:Nat} {fn:Func} {c:Code} (hf:ev.F f=some fn) (hb:fn.body=some c) {args:List V} (hal:args.length≤fn.ntmps) {s:IS} {sub:Tr Ob} {ks:List Nat}
  (hrc:reach s.nx s.ob 1000000 (qQg args) .nil []=some (sub,ks)) {r:Res} (hr:qBc ev run fn c args s.nx sub=some r):∃ ro o1,Called P ev.gl s f args r ks ro o1:=by
 obtain⟨hrd,hargs⟩:=qX4 _ _ _ _ hrc ⟨fun n o h=>(by cases h),(by simp)⟩
 obtain⟨hPf,hname⟩:=he.F f fn hf
 -- the objects that are given
 have hroD:∀ n,n∈qQa (pick sub (ks.filter fun n => !qAn (qQa r.ch) n))↔(sub.get n).isSome=true∧n ∉ qQa r.ch:=by
  intro n
  rw [keysO_mem]
  constructor
  ·rintro⟨o,h⟩
   obtain⟨h1,h2⟩:=mem_pick.1 h
   refine⟨by rw [h2];rfl,fun hc => ?_⟩
   rw [List.mem_filter,(qZo _ _).2 hc] at h1
   simp at h1
  ·rintro⟨h1,h2⟩
   obtain⟨o,ho⟩:=Option.isSome_iff_exists.1 h1
   refine⟨o,mem_pick.2 ⟨List.mem_filter.2 ⟨(hrd.get n o ho).2.2.1,?_⟩,ho⟩⟩
   cases e:qAn (qQa r.ch) n with
   | false=>rfl
   | true=>grind [absurd,qZo]
 have ho1D:∀ n,n∈qQa (pick sub (ks.filter fun n=>qAn (qQa r.ch) n))↔(sub.get n).isSome=true∧n∈qQa r.ch:=by
  intro n
  rw [keysO_mem]
  constructor
  ·rintro⟨o,h⟩
   obtain⟨h1,h2⟩:=mem_pick.1 h
   exact⟨by rw [h2];rfl,(qZo _ _).1 (List.mem_filter.1 h1).2⟩
  ·rintro⟨h1,h2⟩
   obtain⟨o,ho⟩:=Option.isSome_iff_exists.1 h1
   exact⟨o,mem_pick.2 ⟨List.mem_filter.2 ⟨(hrd.get n o ho).2.2.1,(qZo _ _).2 h2⟩,ho⟩⟩
 generalize hro:pick sub (ks.filter fun n => !qAn (qQa r.ch) n)=ro at hroD
 generalize ho1:pick sub (ks.filter fun n=>qAn (qQa r.ch) n)=o1 at ho1D
 have hent:∀ n o,(n,o)∈ro++o1→sub.get n=some o:=by
  intro n o h
  rcases List.mem_append.1 h with h|h
  ·rw [← hro] at h;exact (mem_pick.1 h).2
  ·rw [← ho1] at h;exact (mem_pick.1 h).2
 have hkey:∀ n,n∈qQa (ro++o1)↔(sub.get n).isSome=true:=by
  intro n
  rw [qQt,List.mem_append,hroD,ho1D]
  by_cases h:n∈qQa r.ch<;>simp [h]
 have hget:∀ n,qQc (ro++o1) n=sub.get n:=by
  intro n
  by_cases h:n∈qQa (ro++o1)
  ·exact qHr hent n h
  ·rw [qEi h]
   rw [hkey] at h
   cases e:sub.get n with
   | none=>rfl
   | some o=>rw [e] at h;exact absurd rfl h
 generalize hms:((qQg args++qJl (ro++o1)).filter fun n => !qAn (qQa (ro++o1)) n)=ms
 have hmsD:∀ n,n∈ms↔(n∈qQg args∨n∈qJl (ro++o1))∧n ∉ qQa (ro++o1):=by
  intro n
  rw [← hms,List.mem_filter,List.mem_append]
  cases e:qAn (qQa (ro++o1)) n with
  | true=>have:=(qZo _ _).1 e;simp [this]
  | false =>
   have:n ∉ qQa (ro++o1):=fun h=>by rw [(qZo _ _).2 h] at e;cases e
   simp [this]
 have hsubN:∀ n o,sub.get n=some o→n<s.nx ∧ ∀ k∈o.names,k<s.nx:=by
  intro n o h
  obtain⟨_,h1,_,h2⟩:=hrd.get n o h
  exact⟨h1,fun k hk=>by rcases h2 k hk with h3|h3<;>first|exact h3|cases h3⟩
 have hmsL:∀ n∈ms,n<s.nx:=by
  intro n hn
  obtain⟨h1,_⟩:=(hmsD n).1 hn
  rcases h1 with h1|h1
  ·exact hargs n h1
  ·obtain⟨p,hp,hn'⟩:=mem_mentO.1 h1
   exact (hsubN p.1 p.2 (hent p.1 p.2 hp)).2 n hn'
 let X:Env1:=⟨P,ev.T,ev.gl,[],fn.ntmps,qQa (ro++o1)++ms,he.T,he.mix⟩
 have hR0:Rel ⟨qZh 0 args .nil,sub,s.nx,[]⟩ ⟨qQ8 0 args,ro++o1,qQa (ro++o1)++ms⟩:=by
  refine⟨fun t => ?_,hget,fun n hn => ?_⟩
  ·simp only
   rw [qJg,qWy]
   simp only [Nat.zero_le,if_true,Nat.sub_zero,true_and,Nat.zero_add,Tr.get_nil]
   by_cases h:t<args.length
   ·rw [if_pos h]
    simp [List.getD,List.getElem?_eq_getElem h]
   ·rw [if_neg h]
    simp [List.getD,List.getElem?_eq_none (by omega:args.length≤t)]
  ·rcases List.mem_append.1 hn with hn|hn
   ·obtain⟨o,ho⟩:=Option.isSome_iff_exists.1 ((hkey n).1 hn)
    exact (hsubN n o ho).1
   ·exact hmsL n hn
 have hI0:Inv s.nx sub ⟨qZh 0 args .nil,sub,s.nx,[]⟩:=⟨Nat.le_refl _,fun _ _ _=>rfl,fun _ _ h=>h,hsubN,by simp⟩
 have hA:=hg.awp fn.ntmps s.nx c _ _ r hr X rfl rfl rfl rfl hR0.us sub _ hR0 hI0
 -- the end
 have hend:∀ ae σ',KQ (zQ8 ev.T s.nx sub fn.results.toList) r s.nx sub ae σ'→(∃ σ'',Wk σ' σ''∧((ae = .normal∨ae = .ret)∧qIx X σ'' fn.results.toList (.ret r.x)∧(∃ s'',Rel s'' σ''∧Inv s.nx sub s''∧qTq ev.T s.nx sub fn.results.toList s''=some r))) ∧ ∀ p,ae ≠ .panic p:=by
  rintro ae σ' ⟨e,s',rfl,hR',hI',hk⟩
  have hfin:qTq ev.T s.nx sub fn.results.toList (qXg ev.T s.nx fn.results.toList s')=some r→∃ σ'',Wk σ' σ''∧(qIx X σ'' fn.results.toList (.ret r.x)∧(∃ s'',Rel s'' σ''∧Inv s.nx sub s''∧qTq ev.T s.nx sub fn.results.toList s''=some r)):=by
   intro hk
   obtain⟨σ'',h1,h2⟩:=qY1 (T:=ev.T) (bs:=s.nx) fn.results.toList hR'
   have h3:=qK0 (T:=ev.T) fn.results.toList hI'
   refine⟨σ'',h1,?_,_,h2,h3,hk⟩
   unfold qTq at hk
   split at hk
   ·rename_i xs hxs
    rw [qCl (X:=X) rfl h2] at hxs
    split at hk
    ·split at hk
     ·cases hk
      simp only [qIx,qMk,hxs,Option.map_some]
     ·cases hk
    ·cases hk
   ·cases hk
  cases e with
  | exit i=>cases hk
  | normal =>
   obtain⟨σ'',h1,h2⟩:=hfin hk
   exact⟨⟨σ'',h1,.inl rfl,h2⟩,by simp [AE.x]⟩
  | ret =>
   obtain⟨σ'',h1,h2⟩:=hfin hk
   exact⟨⟨σ'',h1,.inr rfl,h2⟩,by simp [AE.x]⟩
 -- what the last state says of the result; it does not depend on the world
 have hlast:∀ s'',Inv s.nx sub s''→qTq ev.T s.nx sub fn.results.toList s''=some r →
   (∀ n∈qQa r.ch,n∈s''.dt)∧(∀ n∈s''.dt,n∈qQa r.ch)∧(∀ n o,(n,o)∈r.ch++r.nw→s''.ob.get n=some o)∧(∀ n∈qQa r.nw,s.nx≤n∧n<r.nx)∧s.nx≤r.nx ∧
   ∀ k,k∈r.x.names∨k∈qJl (r.ch++r.nw)→(sub.get k).isSome=true∨k∈qQa r.nw:=by
  intro s'' hI'' hk
  unfold qTq at hk
  split at hk
  ·rename_i xs hxs
   split at hk
   ·rename_i ch hch
    split at hk
    ·rename_i nw hnw
     cases hk
     obtain⟨hck,hce⟩:=qNe hch
     obtain⟨⟨seen',hN⟩,hT1,_⟩:=qY2 _ _ _ _ hnw ⟨(by simp),(by intro n h;cases h)⟩
     refine⟨fun n hn => ?_,fun n hn => ?_,fun n o hm => ?_,fun n hn => ?_,hI''.le,fun k hk => ?_⟩
     ·rw [hck] at hn;exact qCk _ _ n hn
     ·rw [hck]
      rcases qCj s''.dt .nil n hn with h|h
      ·cases h
      ·exact h
     ·rcases List.mem_append.1 hm with hm|hm
      ·exact hce n o hm
      ·exact (hN.ent n o hm).2.2.1
     ·obtain⟨o,ho⟩:=keysO_mem.1 hn
      exact⟨(hN.ent n o ho).1,(hN.ent n o ho).2.1⟩
     ·rcases hk with hk|hk
      ·exact hT1 k (by simp [hk])
      ·obtain⟨p,hp,hkp⟩:=mem_mentO.1 hk
       rcases List.mem_append.1 hp with hp|hp
       ·exact hT1 k (by rw [List.mem_append];exact .inr (mem_chNames.2 (mem_mentO.2 ⟨p,hp,hkp⟩)))
       ·rcases (hN.ent p.1 p.2 hp).2.2.2 k hkp with h|h|h
        ·exact .inl h
        ·exact .inr h
        ·cases h
    ·cases hk
   ·cases hk
  ·cases hk
 obtain⟨e0,s0,hI1,hk1⟩:=hg.syn fn.ntmps s.nx c _ _ r hr sub hI0
 have hk2:qTq ev.T s.nx sub fn.results.toList (qXg ev.T s.nx fn.results.toList s0)=some r:=by
  cases e0 with
  | exit i=>cases hk1
  | normal=>exact hk1
  | ret=>exact hk1
 obtain⟨l1,l2,l3,l4,l5,l6⟩:=hlast _ (qK0 (T:=ev.T) fn.results.toList hI1) hk2
 have hI2:=qK0 (T:=ev.T) (bs:=s.nx) fn.results.toList hI1
 have hchsub:∀ n∈qQa r.ch,(sub.get n).isSome=true:=by
  intro n hn
  obtain⟨o,ho⟩:=keysO_mem.1 hn
  have h1:=l3 n o (by simp [ho])
  refine hI2.old n ?_ (by rw [h1];rfl)
  exact hI2.dts n (l1 n hn)
 have hro':∀ n∈qQa ro,n ∉ qQa o1∧n ∉ qQa (r.ch++r.nw):=by
  intro n hn
  obtain⟨h1,h2⟩:=(hroD n).1 hn
  refine⟨fun h=>h2 ((ho1D n).1 h).2,fun h => ?_⟩
  rw [qQt,List.mem_append] at h
  rcases h with h|h
  ·exact h2 h
  ·obtain⟨o,ho⟩:=Option.isSome_iff_exists.1 h1
   have:=(hsubN n o ho).1
   have:=(l4 n h).1
   omega
 refine⟨ro,o1,⟨?_,hro',?_,?_,fun n hn=>((ho1D n).1 hn).2,⟨_,l3⟩,?_,l4,l5,fun n hn=>(hkey n).2 (hrd.mem n hn)⟩⟩
 ·refine AC.of_body (X:=X) he.T hPf hb hname rfl (ms:=ms) rfl hal (qCi fun n hn => ?_) (fun n hn=>((hmsD n).1 hn).2) (fun n hn h => ?_) (qCi fun n hn => ?_) (qCi fun n hn => ?_) ?_
  ·rw [qWv,List.mem_append];exact ((hmsD n).1 hn).1
  ·rw [qQt,List.mem_append,qQt,List.mem_append] at h
   have h0:=((hmsD n).1 hn).2
   rw [qQt,List.mem_append] at h0
   rcases h with h|h|h
   ·exact h0 (.inl h)
   ·exact h0 (.inr ((ho1D n).2 ⟨hchsub n h,h⟩))
   ·have:=(l4 n h).1
    have:=hmsL n hn
    omega
  ·rw [List.mem_append] at hn ⊢
   by_cases hk:n∈qQa (ro++o1)
   ·exact .inl hk
   ·refine .inr ((hmsD n).2 ⟨?_,hk⟩)
    rcases hn with hn|hn
    ·exact .inl hn
    ·rcases mem_namesOb.1 hn with h|h
     ·exact absurd h hk
     ·exact .inr h
  ·rw [List.mem_append] at hn
   simp only [List.mem_append]
   have hme:n∈r.x.names∨n∈qJl (r.ch++r.nw)→(n∈qQa (ro++o1)∨n∈ms)∨n∈qQa (ro++(r.ch++r.nw)):=by
    intro h
    rcases l6 n h with h|h
    ·exact .inl (.inl ((hkey n).2 h))
    ·refine .inr ?_
     rw [qQt,qQt,List.mem_append,List.mem_append]
     exact .inr (.inr h)
   rcases hn with hn|hn
   ·exact hme (.inl hn)
   ·rcases mem_namesOb.1 hn with h|h
    ·exact .inr h
    ·obtain⟨p,hp,hkp⟩:=mem_mentO.1 h
     rcases List.mem_append.1 hp with hp|hp
     ·by_cases hk:n∈qQa (ro++o1)
      ·exact .inl (.inl hk)
      ·exact .inl (.inr ((hmsD n).2 ⟨.inr (mem_mentO.2 ⟨p,by simp [hp],hkp⟩),hk⟩))
     ·exact hme (.inr (mem_mentO.2 ⟨p,hp,hkp⟩))
  ·refine AWP.post hA fun ae σ' hq => ?_
   obtain⟨⟨σ'',h1,h2,h3,s'',h4,h5,h6⟩,h7⟩:=hend ae σ' hq
   refine⟨⟨σ'',h1,?_⟩,h7⟩
   obtain⟨m1,m2,m3,_⟩:=hlast s'' h5 h6
   have hsub:qWu (ro++(r.ch++r.nw)) σ''.objs:=by
    refine qGh fun p hp => ?_
    rw [h4.ob]
    rcases List.mem_append.1 hp with hp|hp
    ·have h8:=(hroD p.1).1 (keysO_mem.2 ⟨p.2,hp⟩)
     have h9:=hent p.1 p.2 (by simp [hp])
     rw [h5.same p.1 (hsubN p.1 p.2 h9).1 (fun hd=>h8.2 (m2 p.1 hd))]
     exact h9
    ·exact m3 p.1 p.2 hp
   rcases h2 with rfl|rfl
   ·exact⟨h3,hsub⟩
   ·exact⟨h3,hsub⟩
 ·intro p hp
  exact (hrd.get p.1 p.2 (hent p.1 p.2 hp)).1
 ·intro n hn
  rw [← qQt] at hn
  obtain⟨o,ho⟩:=Option.isSome_iff_exists.1 ((hkey n).1 hn)
  exact (hrd.get n o ho).2.2.1
 ·intro n hn
  have h1:=hchsub n hn
  obtain⟨o,ho⟩:=Option.isSome_iff_exists.1 h1
  refine⟨(hsubN n o ho).1,?_,(ho1D n).2 ⟨h1,hn⟩⟩
  rw [(hrd.get n o ho).1]
  rfl
theorem zY5 {o:Option V} {r:RB} (h:ro o=some r):r.wr=none:=by
 obtain⟨v,_,rfl⟩:=qVo h;rfl
theorem zY6 {x:V} {r:RB} (h:rb x=some r):r.wr=none:=by cases h;rfl
theorem qNf {ti:TI} {ob:Nat→Option Ob} {x y:V} {r:RB} (h:qYw ti ob x y=some r) {n:Nat} {o:Ob} (hw:r.wr=some (n,o)):(ob n).isSome=true:=by
 unfold qYw at h
 split at h
 ·cases h
 ·replace h:=(qQf h).2
  replace h:=(qQf h).2
  split at h
  ·grind
  ·grind
  ·obtain⟨_,_,_,_,_,_,rfl⟩:=qHk h
   cases hw
  ·cases h
theorem qLc {e:Nat} {te:TI} {ob:Nat→Option Ob} {nx:Nat} {x y:V} {r:RB} (h:qWx e te ob nx x y=some r) {n:Nat} {o:Ob} (hw:r.wr=some (n,o)) (hn:r.new=false):(ob n).isSome=true:=by
 unfold qWx at h
 grind
theorem zZb {e:Nat} {te:TI} {nx len:Nat} {es:List (List V)} {r:RB} (h:zX6 e te nx len es=some r) {n:Nat} {o:Ob} (hw:r.wr=some (n,o)) (hn:r.new=false):False:=by
 unfold zX6 at h
 grind
theorem zWj {T:Nat→Option TI} {nx:Nat} {val:Operand→V} {ob:Nat→Option Ob} {dst:Option Nat} {op:Op} {r:RB} (h:opE T nx val ob dst op=some r) {n:Nat} {o:Ob} (hw:r.wr=some (n,o)) (hn:r.new=false):(ob n).isSome=true:=by
 have h1:∀ {x:V},rb x=some r→(ob n).isSome=true:=fun h=>by rw [zY6 h] at hw;cases hw
 have h2:∀ {x:Option V},ro x=some r→(ob n).isSome=true:=fun h=>by rw [zY5 h] at hw;cases hw
 unfold opE at h
 split at h
 ·exact h1 h
 ·exact h1 h
 ·grind
 ·grind [qMz]
 ·unfold zY3 at h
  grind
 ·exact h2 h
 ·grind
 ·grind [zZb]
 ·grind
 ·grind [qNf]
 ·exact h2 h
 ·grind
 ·grind
 ·grind
 ·exact h2 h
 ·exact h2 h
 ·exact h2 h
 ·exact h2 h
 ·split at h
  ·unfold qHp at h
   grind
  ·cases h
 ·exact (qHq h).2.2 n o hw
 ·grind
 ·exact h2 h
 ·grind
 ·grind
 ·split at h
  ·split at h
   ·obtain⟨_,_,n',⟨o',ho'⟩,hs⟩:=qX2 h
    rw [ho'] at hw;simp_all
   ·cases h
  ·cases h
 ·split at h
  ·split at h
   ·obtain⟨_,_,n',⟨o',ho'⟩,hs⟩:=qX2 h
    rw [ho'] at hw;simp_all
   ·cases h
  ·cases h
 ·grind
 ·grind
 ·grind
 ·split at h
  ·grind [qLc]
  ·cases h
 ·grind
 ·grind
 ·cases h
theorem qCn {bs n m:Nat} {l:List Nat} (h:m∈qRi bs n l):(m=n∧n<bs)∨m∈l:=by
 unfold qRi at h
 cases e:Nat.blt n bs with
 | true=>rw [e] at h;rcases List.mem_cons.1 h with h|h<;>first|exact .inl ⟨h,qJi e⟩|simp_all
 | false=>simp_all
theorem qY3 {bs n m:Nat} {l:List Nat} (h:m∈l):m∈qRi bs n l:=by
 grind [qRi,Nat.blt,List.mem_cons_of_mem]
theorem qY4 {bs n:Nat} {l:List Nat} (h:n<bs):n∈qRi bs n l:=by
 grind [qRi,qVd,decide_eq_true]
theorem Inv.slot {bs:Nat} {sub:Tr Ob} {s:IS} (h:Inv bs sub s) (t:Tr V):Inv bs sub ⟨t,s.ob,s.nx,s.dt⟩:=⟨h.le,h.same,h.old,h.names,h.dts⟩
theorem qNg {bs:Nat} {sub:Tr Ob} {s:IS} (h:Inv bs sub s) {r:RB} (hn:r.new=true) (hnx:∃ o,r.wr=some (s.nx,o)) (d:Option Nat):Inv bs sub (s.app bs d r):=by
 obtain⟨o,hw⟩:=hnx
 unfold IS.app
 rw [hw,hn]
 refine⟨Nat.le_succ_of_le h.le,fun m hm hd => ?_,fun m hm hs => ?_,h.names,h.dts⟩
 ·have:=h.le
  show (s.ob.put s.nx (some o)).get m=_
  rw [Tr.get_put,if_neg (by omega)]
  exact h.same m hm hd
 ·have:=h.le
  have hs:((s.ob.put s.nx (some o)).get m).isSome=true:=hs
  rw [Tr.get_put,if_neg (by omega)] at hs
  exact h.old m hm hs
theorem zZc {bs:Nat} {sub:Tr Ob} {s:IS} (h:Inv bs sub s) {T:Nat→Option TI} {val:Operand→V} {dst:Option Nat} {op:Op} {r:RB} (hr:opE T s.nx val s.ob.get dst op=some r) (d:Option Nat):Inv bs sub (s.app bs d r):=by
 unfold IS.app
 cases hw:r.wr with
 | none=>exact h.slot _
 | some p =>
  obtain⟨n,o⟩:=p
  cases hn:r.new with
  | true =>
   obtain⟨note,_,hnx⟩:=qTp hr
   have:=qNg h hn (hnx hn) d
   grind [IS.app]
  | false =>
   have hsome:=zWj hr hw hn
   refine⟨h.le,fun m hm hd => ?_,fun m hm hs => ?_,h.names,fun m hm => ?_⟩
   ·show (s.ob.put n (some o)).get m=_
    have hne:m≠n:=by grind [qY4]
    rw [Tr.get_put,if_neg hne]
    exact h.same m hm (fun hm'=>hd (qY3 hm'))
   ·have hs:((s.ob.put n (some o)).get m).isSome=true:=hs
    rw [Tr.get_put] at hs
    by_cases e:m=n
    ·subst e;exact h.old m hm hsome
    ·rw [if_neg e] at hs;exact h.old m hm hs
   ·rcases qCn hm with ⟨rfl,h1⟩|h1
    ·exact h1
    ·exact h.dts m h1
theorem qEj (l:List (Nat × Ob)) (n m:Nat) (o:Ob):qQc (qVn l [(n,some o)]) m=if m=n then some o else qQc l m:=by
 simp [qVn,zYz,qQm]
theorem qCo {s:IS} {σ:St} (h:Rel s σ) (d:Option Nat) (x:V) (t:Nat):qZi (qAd d x σ.slots) t=(match (qYy s.sl d x).get t with|some v=>v|none => .undef):=by
 rw [qJf]
 cases d with
 | none=>exact h.sl t
 | some d =>
  simp only [qYy,Tr.get_put]
  by_cases e:d=t
  ·simp_all
  ·have e':¬ t=d:=fun h=>e h.symm
   rw [if_neg (by simp_all),if_neg e']
   exact h.sl t
theorem qY5:∀ (l:List (Nat × Ob)) (t:Tr Ob) (G:Nat→Option Ob),(∀ n o,(n,o)∈l→G n=some o)→∀ n,(qKz l t).get n=if n∈qQa l then G n else t.get n
 | [],t,G,_,n=>by rfl
 | (k,o)::r,t,G,h,n=>by
  simp only [qKz]
  rw [qY5 r _ G (fun n q hq=>h n q (by simp [hq])),Tr.get_put]
  have hk:qQa ((k,o)::r)=k::qQa r:=rfl
  grind
theorem qEk {bs m:Nat} : ∀ {l:List (Nat × Ob)} {d:List Nat},m∈qEe bs l d→(m∈qQa l∧m<bs)∨m∈d
 | [],d,h => .inr h
 | (n,o)::r,d,h=>by
  simp only [qEe] at h
  have hk:qQa ((n,o)::r)=n::qQa r:=rfl
  rcases qEk h with h|h
  ·simp_all
  ·rcases qCn h with ⟨rfl,h⟩|h
   ·simp_all
   simp_all
theorem qBd {bs m:Nat} : ∀ {l:List (Nat × Ob)} {d:List Nat},m∈d→m∈qEe bs l d
 := by intro x;induction x<;>simp_all [qEe,qY3]
theorem qBe {bs m:Nat} (hm:m<bs):∀ {l:List (Nat × Ob)} {d:List Nat},m∈qQa l→m∈qEe bs l d
 | [],d,h=>by grind [qQa]
 | (n,o)::r,d,h=>by
  simp only [qEe]
  rcases List.mem_cons.1 h with rfl|h
  ·exact qBd (qY4 hm)
  ·exact qBe hm h
section
variable {P:Program} {gl:Nat→Option (List PV)} {s:IS} {f:Nat} {args:List V} {r:Res} {ks:List Nat} {o1 ro:List (Nat × Ob)}
theorem Called.get (h:Called P gl s f args r ks ro o1) (t:Tr Ob):∃ G:Nat→Option Ob,(∀ n,(qKz r.nw (qKz r.ch t)).get n=if n∈qQa (r.ch++r.nw) then G n else t.get n) ∧ ∀ n,qQc (r.ch++r.nw) n=if n∈qQa (r.ch++r.nw) then G n else none:=by
 obtain⟨G,hG⟩:=h.gfn
 refine⟨G,fun n => ?_,fun n => ?_⟩
 ·have hk:n∈qQa (r.ch++r.nw)↔n∈qQa r.ch∨n∈qQa r.nw:=by rw [qQt,List.mem_append]
  rw [qY5 r.nw _ G (fun n o ho=>hG n o (by simp [ho])),qY5 r.ch _ G (fun n o ho=>hG n o (by simp [ho]))]
  grind
 ·by_cases h1:n∈qQa (r.ch++r.nw)
  ·rw [if_pos h1];exact qHr hG n h1
  ·rw [if_neg h1];exact qEi h1
theorem Called.inv (h:Called P gl s f args r ks ro o1) {bs:Nat} {sub:Tr Ob} (hI:Inv bs sub s) (d:Option Nat):Inv bs sub (qCd bs s d r):=by
 obtain⟨G,hG,_⟩:=h.get s.ob
 have:=hI.le
 have:=h.le
 refine⟨by show bs≤r.nx;omega,fun m hm hd => ?_,fun m hm hs => ?_,hI.names,fun m hm => ?_⟩
 ·show (qKz r.nw (qKz r.ch s.ob)).get m=_
  rw [hG,if_neg]
  ·exact hI.same m hm (fun hm'=>hd (qBd hm'))
  ·rw [qQt,List.mem_append]
   rintro (h1|h1)
   ·exact hd (qBe hm h1)
   ·have:=(h.nws m h1).1;omega
 ·have hs:((qKz r.nw (qKz r.ch s.ob)).get m).isSome=true:=hs
  rw [hG] at hs
  split at hs
  ·rename_i h1
   rw [qQt,List.mem_append] at h1
   rcases h1 with h1|h1
   ·exact hI.old m hm (h.chs m h1).2.1
   ·have:=(h.nws m h1).1;omega
  ·exact hI.old m hm hs
 ·rcases qEk hm with h1|h1
  ·exact h1.2
  ·exact hI.dts m h1
theorem Called.rel (h:Called P gl s f args r ks ro o1) {σ:St} (hR:Rel s σ) (bs:Nat) (d:Option Nat):Rel (qCd bs s d r) (σ.eff d (qJp r.x ro o1 (r.ch++r.nw))):=by
 obtain⟨G,hG,hG'⟩:=h.get s.ob
 refine⟨fun t=>qCo hR d r.x t,fun n => ?_,fun n hn => ?_⟩
 ·show qQc (qVn σ.objs (qWk o1 (r.ch++r.nw))) n=(qKz r.nw (qKz r.ch s.ob)).get n
  rw [qQ7,hG,hG']
  by_cases h1:n∈qQa (r.ch++r.nw)
  ·have h2:=qQs h1
   grind
  ·rw [if_neg h1,if_neg h1]
   rw [if_neg]
   ·exact hR.ob n
   ·intro h2
    exact h1 (by rw [qQt];simp [h.inch n h2])
 ·show n<r.nx
  have hle:=h.le
  rcases List.mem_append.1 hn with hn|hn
  ·obtain⟨h1,h2⟩:=List.mem_filter.1 hn
   rw [qQt,List.mem_append] at h1
   rcases h1 with h1|h1
   ·have:=(h.chs n h1).1;omega
   ·exact (h.nws n h1).2
  ·have:=hR.us n hn;omega
theorem Called.op (h:Called P gl s f args r ks ro o1) {X:Env1} (hP:X.P=P) (hgl:X.gl=gl) {σ:St} (hR:Rel s σ) {o:Oper} (hf:qQ1 (σ.val X.gl) o.op=some (f,args)):OpW X o σ (qJp r.x ro o1 (r.ch++r.nw)):=by
 subst hP hgl
 refine OpW.callR f args ro o1 r.x (r.ch++r.nw) hf h.ac h.apart (qGh fun p hp => ?_) (fun n hn hu => ?_)
 ·rw [hR.ob];exact h.subs p hp
 ·obtain⟨h1,h2⟩:=List.mem_filter.1 hn
  rw [qQt,List.mem_append] at h1
  have:=hR.us n hu
  rcases h1 with h1|h1
  ·obtain⟨q,hq⟩:=qQs (h.chs n h1).2.2
   rw [hq] at h2
   cases h2
  ·have:=(h.nws n h1).1;omega
end
def qEl (ev:qZx) (P:Program) (call:Call):Prop:=∀ (f:Nat) (args:List V) (s:IS) (r:Res) (ks:List Nat),call f args s=some (r,ks)→∃ ro o1,Called P ev.gl s f args r ks ro o1
def qRn (e:Eff) (tc:Tc):Prop:=(∀ n∈e.wn,n∈tc.wn) ∧ ∀ n∈e.rd,n∈tc.rd
section
variable {ev:qZx} {P:Program} {call:Call}
theorem zZd (hg:qEl ev P call) {bs:Nat} {o:Oper} {s s1:IS} {tc:Tc} (h:doI ev call bs o s=some (s1,tc)) {sub:Tr Ob} (hI:Inv bs sub s):Inv bs sub s1:=by
 unfold doI at h
 split at h
 ·unfold callR at h
  split at h
  ·rename_i r ks hc
   cases h
   obtain⟨ro,o1,hC⟩:=hg _ _ _ _ _ hc
   exact hC.inv hI _
  ·cases h
 grind [zZc]
theorem qNh {bs:Nat} {o:Oper} {s:IS} {r:RB} {note:qXa} (hG:qHj (qQb ev.T note (s.val ev.gl) s.ob.get o.dst o.op) r) (hnx:r.new=true→∃ o',r.wr=some (s.nx,o')) {X:Env1} (hXT:X.T=ev.T) (hgl:X.gl=ev.gl) {σ:St} (hR:Rel s σ) :
  ∃ e,OpW X o σ e∧Rel (s.app bs o.dst r) (σ.eff o.dst e)∧qRn e ⟨match r.wr with|some (n,_)=>[n]|none=>[],rdN (s.val ev.gl) o.op⟩:=by
 obtain⟨q,hq,hc,hx,hw,hn⟩:=hG
 have hval:=hR.val ev.gl
 have hOW:OpW X o σ (q.eff (rdN (σ.val X.gl) o.op)):=by
  refine .step note q ?_ hc fun n hnn => ?_
  ·rw [hgl,hXT,hval,hR.obf];exact hq
  ·simp only [R.eff,hw,hn] at hnn
   cases hwr:r.wr with
   | none=>rw [hwr] at hnn;simp at hnn
   | some p =>
    obtain⟨m,ob⟩:=p
    rw [hwr] at hnn
    cases hnw:r.new with
    | false=>rw [hnw] at hnn;simp at hnn
    | true =>
     rw [hnw] at hnn
     obtain⟨o',ho'⟩:=hnx hnw
     rw [hwr] at ho'
     cases ho'
     simp at hnn
     subst hnn
     intro hu
     exact absurd (hR.us _ hu) (Nat.lt_irrefl _)
 refine⟨_,hOW,?_,?_,?_⟩
 ·-- the state
  refine⟨fun t => ?_,fun n => ?_,fun n hnn => ?_⟩
  ·have:qZi (qAd o.dst q.out σ.slots) t=_:=qCo hR o.dst q.out t
   show qZi (qAd o.dst q.out σ.slots) t=_
   unfold IS.app
   grind
  ·show qQc (qVn σ.objs (match q.wr with|some (n,o)=>[(n,some o)]|none=>[])) n=_
   rw [hw]
   unfold IS.app
   cases hwr:r.wr with
   | none=>exact hR.ob n
   | some p =>
    rw [qEj,hR.ob]
    cases r.new<;>exact (Tr.get_put _ _ _ _).symm
  ·have hnn:n∈(match q.wr,q.new with|some (n,_),true=>[n]|_,_=>[])++σ.used:=hnn
   rw [hw,hn] at hnn
   unfold IS.app
   cases hwr:r.wr with
   | none=>rw [hwr] at hnn;exact hR.us n hnn
   | some p =>
    rw [hwr] at hnn
    cases hnw:r.new with
    | false=>rw [hnw] at hnn;exact hR.us n hnn
    | true =>
     rw [hnw] at hnn
     obtain⟨o',ho'⟩:=hnx hnw
     rw [hwr] at ho'
     cases ho'
     simp at hnn
     show n<Nat.succ s.nx
     rcases hnn with h1|h1
     ·omega
     ·exact Nat.lt_succ_of_lt (hR.us n h1)
 ·grind [Eff.wn,R.eff]
 ·intro n hnn
  rw [hgl,hval] at hnn
  exact hnn
theorem zWk (hg:qEl ev P call) {bs:Nat} {o:Oper} {s s1:IS} {tc:Tc} (h:doI ev call bs o s=some (s1,tc)) {X:Env1} (hP:X.P=P) (hXT:X.T=ev.T) (hgl:X.gl=ev.gl) {σ:St} (hR:Rel s σ) :
  ∃ e,OpW X o σ e∧Rel s1 (σ.eff o.dst e)∧qRn e tc:=by
 unfold doI at h
 split at h
 ·rename_i f args hf
  unfold callR at h
  split at h
  ·rename_i r ks hc
   cases h
   obtain⟨ro,o1,hC⟩:=hg _ _ _ _ _ hc
   refine⟨_,hC.op hP hgl hR (by rw [hR.val,hgl];exact hf),hC.rel hR bs _,fun n hn => ?_,fun n hn => ?_⟩
   ·have hn:n∈(qWk o1 (r.ch++r.nw)).map (·.1):=hn
    simp only [qWk,List.map_append,List.map_map,List.mem_append] at hn ⊢
    rcases hn with hn|hn
    ·obtain⟨m,hm,rfl⟩:=List.mem_map.1 hn
     have:=hC.inch m (List.mem_filter.1 hm).1
     exact .inl this
    grind
   ·exact hC.kss n hn
  ·cases h
 ·split at h
  ·rename_i r hr
   cases h
   obtain⟨note,hG,hnx⟩:=qTp hr
   exact qNh hG hnx hXT hgl hR
  ·cases h
end
theorem qK1:∀ (l:List (Option Nat × Eff)) (k:Nat) (s:St),qQl (fun _=>true) k l s=qQl (fun _=>true) 0 l s
 | [],k,s=>rfl
 | p::r,k,s=>by simp [qQl,if_true,qK1]
theorem qNi {s:IS} {σ:St} (hR:Rel s σ) (all:List Oper) (j:Nat):gvI all s j=gv all σ j:=by
 unfold gvI gv
 cases all[j]? with
 | none=>rfl
 | some o =>
  simp only
  cases o.dst with
  | none=>rfl
  | some d=>simp only [hR.sl]<;>rfl
section
variable {ev:qZx} {P:Program} {call:Call}
theorem qHs {s:IS} {σ:St} (hR:Rel s σ) (d:Option Nat):Rel ⟨qYy s.sl d qI9,s.ob,s.nx,s.dt⟩ (σ.eff d qXr) :=
 ⟨fun t=>qCo hR d qI9 t,fun n=>hR.ob n,fun n hn=>hR.us n (by grind [St.eff,qXr])⟩
def TcsOK (es:List Eff) (tcs:List Tc):Prop:=tcs.length=es.length ∧ ∀ (i:Nat) (e:Eff) (tc:Tc),es[i]? = some e→tcs[i]? = some tc→qRn e tc
theorem TcsOK.cons {e:Eff} {tc:Tc} {es:List Eff} {tcs:List Tc} (h:qRn e tc) (h':TcsOK es tcs):TcsOK (e::es) (tc::tcs):=by
 refine⟨by simp [h'.1],fun i e' tc' h1 h2 => ?_⟩
 cases i with
 | zero=>simp_all
 | succ i=>exact h'.2 i e' tc' (by simp_all) (by simp_all)
theorem qEm {X:Env1} {C:Ctx} (hT:TOK X.P X.T) (hg:GOK X.gl C.E0.H) (hnt:C.nt=X.nt) {ops:List Oper} {Q:Exit→Act→World→Prop} {o:Oper} {rest:List Oper} {e:Eff} {σ:St} {E:Env} {a:Act} {w:World} (h:Txt X ops o σ e) (hG:Ga C E σ a w)
  (hk:∀ E a w,Ga C E (σ.eff o.dst e) a w→wpList X.P ops.toArray Q rest a w):wpList X.P ops.toArray Q (o::rest) a w:=by
 obtain⟨hd,h1⟩:=h
 have hd':∀ d,o.dst=some d→d<C.nt:=by
  intro d e;rw [e] at hd;rw [hnt];exact hd
 have hrun:OpW X o σ e→o.wp X.P a w (wpList X.P ops.toArray Q rest) Q:=fun hw=>hw.sound hT hg hG hd' hk
 unfold wpList
 rcases h1 with ⟨hgu,hw⟩|⟨j,want,b,hgu,hb,⟨hbw,hw⟩|⟨hbw,rfl⟩⟩|⟨j,want,hgu,hb,rfl⟩
 ·rw [if_pos (by simp [Region.wanted,hgu])]
  simp_all
 ·have hy:=qB1 hG hb
  rw [if_pos (by simp [Region.wanted,hgu,hy,hbw])]
  simp_all
 ·have hy:=qB1 hG hb
  rw [if_neg (by simp [Region.wanted,hgu,hy,hbw])]
  exact hk E _ w (qB0 hG hd')
 ·have hy:=qA4 hG hb
  rw [if_neg (by simp [Region.wanted,hgu,hy])]
  exact hk E _ w (qB0 hG hd')
theorem qHt {X:Env1} {C:Ctx} (hT:TOK X.P X.T) (hg:GOK X.gl C.E0.H) (hnt:C.nt=X.nt) {ops:List Oper} {Q:Exit→Act→World→Prop} : ∀ (l:List Oper) (es:List Eff) (σ:St) (E:Env) (a:Act) (w:World),qVc X ops l es σ→Ga C E σ a w →
  (∀ E a w,Ga C E (qQl (fun _=>true) 0 (qWm l es) σ) a w→Q .normal a w)→wpList X.P ops.toArray Q l a w
 | [],[],σ,E,a,w,_,hG,hK=>hK E a w hG
 | [],_::_,_,_,_,_,h,_,_=>h.elim
 | o::rest,[],_,_,_,_,h,_,_=>h.elim
 | o::rest,e::es,σ,E,a,w,h,hG,hK=>qEm hT hg hnt h.1 hG fun E' a' w' hG'=>qHt hT hg hnt rest es _ E' a' w' h.2 hG' fun E a w hG=>by
  refine hK E a w ?_
  simp only [qWm,List.map_cons,List.zip_cons_cons,qQl,if_true]
  rw [qK1]
  exact hG
theorem AWP.seqR {X:Env1} {id:Nat} {ops:Array Oper} {es:List Eff} {σ:St} {Q:AEx→St→Prop} (h:qVc X ops.toList ops.toList es σ) (hq:Q .normal (qQl (fun _=>true) 0 (qWm ops.toList es) σ)):AWP X (.region id ops false) σ Q:=by
 intro C E a w hC hG
 refine wp_region_list ?_
 have:=qHt X.ok hC.glob hC.nt (Q:=qF5 C Q) ops.toList es σ E a w h hG (fun E a w hG=>⟨E,_,.normal,hG,rfl,hq⟩)
 omega
theorem AWP.anyR {X:Env1} {id:Nat} {ops:Array Oper} {es:List Eff} {σ:St} {Q:AEx→St→Prop} (hl:es.length=ops.toList.length) (ht:qVc X ops.toList ops.toList es σ) (hc:qJ5 ops.toList es=true) (hq:Q .normal (qQl (fun _=>true) 0 (qWm ops.toList es) σ)):AWP X (.region id ops true) σ Q:=by
 intro C E a w hC hG
 refine wp_region_any X.mix ?_
 have hG':Ga C E σ a { w with drawn:=w.drawn+1 }:=hG.drew
 have hf:∀ (r:List (Option Nat × Eff)) (k:Nat) (s:St),qQl (fun _=>false) k r s=s:=by
  intro r;induction r with
  | nil=>intro k s;rfl
  | cons p r ih=>grind [qQl]
 have hrep:∀ i,(Array.replicate ops.size false).getD i false=false:=by
  intro i
  rw [Array.getD_eq_getD_getElem?,Array.getElem?_replicate]
  split<;>rfl
 have:=qP6 (X:=X) (C:=C) (Q:=qF5 C Q) X.ok hC.glob hC.nt hl ht hc (fun E a w hG=>⟨E,_,.normal,hG,rfl,hq⟩) ops.size (Array.replicate ops.size false) E a _ (by simp) (by
  simp) (by
  simp_all) (hG'.of_ext (by
   simp_all) (by
   simp_all) (by
   simp_all))
 omega
theorem qCp:∀ {tr:List Tc},qEg tr=true→∀ t∈tr,t.wn=[]
 | [],_,_,h=>by cases h
 | t::r,h,u,hu=>by
  unfold qEg at h
  split at h
  ·rename_i e
   rcases List.mem_cons.1 hu with rfl|hu
   ·exact e
   ·exact qCp h u hu
  ·cases h
theorem qRo {ops:Array Oper} {o1 o2:Oper} {e1 e2:Eff} {t1 t2:Tc} (h1:qRn e1 t1) (h2:qRn e2 t2) (ha:qEf t1 t2=true) (hc:qQq ops o1 e1 o2 e2=true):qGd ops o1 o2=true:=by
 unfold qEf at ha
 rw [Bool.and_eq_true,List.all_eq_true,List.all_eq_true] at ha
 have hno:∀ (l:List Nat) (n:Nat),(!qAn l n)=true→n ∉ l:=fun l n h hm=>by rw [(qZo l n).2 hm] at h;cases h
 have k1:(e1.wn.any fun n=>e2.rd.contains n || e2.wn.contains n)=false:=by
  rw [List.any_eq_false]
  intro n hn hq
  have h3:=ha.1 n (h1.1 n hn)
  rw [Bool.and_eq_true] at h3
  simp only [Bool.or_eq_true,List.contains_iff_mem] at hq
  rcases hq with hq|hq
  ·exact hno _ _ h3.1 (h2.2 n hq)
  ·exact hno _ _ h3.2 (h2.1 n hq)
 have k2:(e2.wn.any fun n=>e1.rd.contains n)=false:=by
  rw [List.any_eq_false]
  intro n hn hq
  simp only [List.contains_iff_mem] at hq
  exact hno _ _ (ha.2 n (h2.1 n hn)) (h1.2 n hq)
 grind [qQq,qGd]
theorem qHu {ops:List Oper} {es:List Eff} {tcs:List Tc} (hs:qRl ops=true) (hq:qEg tcs.reverse=true∨qLa ops tcs=true) (hl:es.length=ops.length) (ht:TcsOK es tcs):qJ5 ops es=true:=by
 unfold qJ5
 unfold qRl at hs
 rw [List.all_eq_true] at hs ⊢
 intro j hj
 have hjl:j<ops.length:=by simpa using hj
 have hsj:=hs j hj
 have hje:j<es.length:=by omega
 have hjt:j<tcs.length:=by rw [ht.1];omega
 rw [List.getElem?_eq_getElem hjl] at hsj ⊢
 rw [List.getElem?_eq_getElem hje]
 simp only [Bool.and_eq_true,List.all_eq_true] at hsj ⊢
 refine⟨hsj.1,fun i hi => ?_⟩
 have hij:i<j:=by simpa using hi
 have hsi:=hsj.2 i hi
 rw [List.getElem?_eq_getElem (show i<ops.length by omega)] at hsi ⊢
 rw [List.getElem?_eq_getElem (show i<es.length by omega)]
 simp only [Bool.or_eq_true] at hsi ⊢
 by_cases hc:qQq ops.toArray ops[i] es[i] ops[j] es[j]=true
 ·right
  have hti:=ht.2 i _ _ (List.getElem?_eq_getElem (show i<es.length by omega)) (List.getElem?_eq_getElem (show i<tcs.length by omega))
  have htj:=ht.2 j _ _ (List.getElem?_eq_getElem hje) (List.getElem?_eq_getElem hjt)
  have hap:qEf tcs[i] tcs[j]=true→((qWj ops []).getD j 0).testBit i=true:=by
   intro ha
   have:=qRo hti htj ha hc
   rcases hsi with h|h
   ·rw [this] at h;cases h
   ·exact h
  rcases hq with hq|hq
  ·refine hap ?_
   have w1:=qCp hq tcs[i] (by simp)
   have w2:=qCp hq tcs[j] (by simp)
   simp [qEf,w1,w2]
  ·unfold qLa at hq
   rw [List.all_eq_true] at hq
   have hqj:=hq j hj
   rw [List.getElem?_eq_getElem hjt] at hqj
   simp only [List.all_eq_true] at hqj
   have hqi:=hqj i hi
   rw [List.getElem?_eq_getElem (show i<tcs.length by omega)] at hqi
   simp only [Bool.or_eq_true] at hqi
   rcases hqi with h|h
   ·exact hap h
   ·exact h
 ·left
  simpa using hc
theorem qX5 {bs:Nat} {sub:Tr Ob} (l:List Nat) {s:IS} (hI:Inv bs sub s):Inv bs sub (zQ9 bs l s):=by
 grind [zQ9,Nat.beq,qNd]
theorem qCq {bs:Nat} (l:List Nat) {s:IS} {σ:St} (hR:Rel s σ):∃ σ',Wk σ σ'∧Rel (zQ9 bs l s) σ':=by
 unfold zQ9
 cases Nat.beq s.nx bs
 ·exact qCg l hR
 grind [Wk.refl]
end
end Go.Lg
