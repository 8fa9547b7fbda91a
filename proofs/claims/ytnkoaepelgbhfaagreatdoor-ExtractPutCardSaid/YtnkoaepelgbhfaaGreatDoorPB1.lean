/- The engine that computes runs; no conditions. -/
import Derived.Test.YtnkoaepelgbhfaaGreatDoorPA4
set_option linter.all false
namespace Go.Lg
inductive Tr (α:Type) where
 | nil
 | node (l:Tr α) (v:Option α) (r:Tr α)
theorem mE {a b:Nat} (h:a=b):Nat.beq a b=true:=by subst h;exact Nat.beq_refl a
theorem YK {a b:Nat} (h:a≠b):Nat.beq a b=false:=by
 cases e:Nat.beq a b with
 | false=>rfl
 | true=>exact absurd (Nat.eq_of_beq_eq_true e) h
def Tr.get {α:Type} : Tr α->Nat->Option α
 | .nil,_=>none
 | .node l v r,i=>bif Nat.beq i 0 then v else bif Nat.beq (Nat.mod i 2) 1 then l.get (Nat.div i 2) else r.get (Nat.pred (Nat.div i 2))
def Tr.putF {α:Type} : Nat->Tr α->Nat->Option α->Tr α
 | 0,t,_,_=>t
 | f+1,.nil,i,x=>bif Nat.beq i 0 then .node .nil x .nil else bif Nat.beq (Nat.mod i 2) 1 then .node (Tr.putF f .nil (Nat.div i 2) x) none .nil else .node .nil none (Tr.putF f .nil (Nat.pred (Nat.div i 2)) x)
 | f+1,.node l v r,i,x=>bif Nat.beq i 0 then .node l x r else bif Nat.beq (Nat.mod i 2) 1 then .node (Tr.putF f l (Nat.div i 2) x) v r else .node l v (Tr.putF f r (Nat.pred (Nat.div i 2)) x)
def Tr.put {α:Type} (t:Tr α) (i:Nat) (x:Option α):Tr α:=Tr.putF (Nat.succ i) t i x
def Tr.map {α β:Type} (f:α->β):Tr α->Tr β
 | .nil => .nil
 | .node l v r => .node (l.map f) (v.map f) (r.map f)
theorem Tr.get_nil {α:Type} (i:Nat):(Tr.nil:Tr α).get i=none:=rfl
theorem Tr.get_node {α:Type} (l:Tr α) (v:Option α) (r:Tr α) (i:Nat):(Tr.node l v r).get i=if i=0 then v else if i % 2=1 then l.get (i / 2) else r.get (i / 2-1):=by
 show (bif Nat.beq i 0 then v else bif Nat.beq (Nat.mod i 2) 1 then l.get (Nat.div i 2) else r.get (Nat.pred (Nat.div i 2)))=_;by_cases h:i=0
 ·subst h;rfl
 ·rw [if_neg h,YK h];simp only [cond_false];by_cases h1:i % 2=1
  ·rw [if_pos h1,show Nat.beq (Nat.mod i 2) 1=true from mE h1];rfl
  ·rw [if_neg h1,show Nat.beq (Nat.mod i 2) 1=false from YK h1];rfl
theorem Tr.get_putF {α:Type} : ∀ (f:Nat) (t:Tr α) (i:Nat) (x:Option α) (j:Nat),i<f->(Tr.putF f t i x).get j=if j=i then x else t.get j
 | 0,_,_,_,_,h=>absurd h (Nat.not_lt_zero _)
 | f+1,t,i,x,j,h=>by
  have key:∀ (l:Tr α) (v:Option α) (r:Tr α),
    (bif Nat.beq i 0 then Tr.node l x r else bif Nat.beq (Nat.mod i 2) 1 then .node (Tr.putF f l (Nat.div i 2) x) v r else .node l v (Tr.putF f r (Nat.pred (Nat.div i 2)) x)).get j=if j=i then x else (Tr.node l v r).get j:=by
   intro l v r;by_cases h0:i=0
   ·subst h0;show (Tr.node l x r).get j=_;rw [Tr.get_node,Tr.get_node];by_cases hj:j=0
    ·simp [hj]
    ·simp [hj]
   ·rw [show Nat.beq i 0=false from YK h0];simp only [cond_false];by_cases h1:i % 2=1
    ·rw [show Nat.beq (Nat.mod i 2) 1=true from mE h1];simp only [cond_true];rw [Tr.get_node,Tr.get_node];have ih:=Tr.get_putF f l (i / 2) x (j / 2) (by omega);by_cases hj:j=0
     ·subst hj;rw [if_pos rfl,if_pos rfl,if_neg (by omega)]
     ·rw [if_neg hj,if_neg hj];by_cases h2:j % 2=1
      ·rw [if_pos h2,if_pos h2];refine ih.trans ?_;by_cases e:j=i
       ·rw [if_pos e,if_pos (by rw [e])]
       ·rw [if_neg e,if_neg (by omega)]
      ·rw [if_neg h2,if_neg h2,if_neg (by intro e;subst e;exact h2 h1)]
    ·rw [show Nat.beq (Nat.mod i 2) 1=false from YK h1];simp only [cond_false];rw [Tr.get_node,Tr.get_node];have ih:=Tr.get_putF f r (i / 2-1) x (j / 2-1) (by omega);by_cases hj:j=0
     ·subst hj;rw [if_pos rfl,if_pos rfl,if_neg (by omega)]
     ·rw [if_neg hj,if_neg hj];by_cases h2:j % 2=1
      ·rw [if_pos h2,if_pos h2,if_neg (by intro e;subst e;exact h1 h2)]
      ·rw [if_neg h2,if_neg h2];refine ih.trans ?_;by_cases e:j=i
       ·rw [if_pos e,if_pos (by rw [e])]
       ·rw [if_neg e,if_neg (by omega)]
  cases t with
  | nil =>
   have:=key .nil none .nil;simp only [Tr.get_node,Tr.get_nil,ite_self] at this ⊢;exact this
  | node l v r=>exact key l v r
theorem Tr.get_put {α:Type} (t:Tr α) (i:Nat) (x:Option α) (j:Nat):(t.put i x).get j=if j=i then x else t.get j:=Tr.get_putF _ t i x j (Nat.lt_succ_self i)
theorem Tr.get_map {α β:Type} (f:α->β):∀ (t:Tr α) (i:Nat),(t.map f).get i=(t.get i).map f
 | .nil,_=>rfl
 | .node l v r,i=>by
  show (Tr.node (l.map f) (v.map f) (r.map f)).get i=_;rw [Tr.get_node,Tr.get_node];split
  ·rfl
  ·split
   ·exact Tr.get_map f l _
   ·exact Tr.get_map f r _
def uJ {α:Type} : List α->Nat->List α
 | [],_=>[]
 | a::l,n=>match n with
  | 0=>a::l
  | m+1=>uJ l m
theorem HQ {α:Type} : ∀ (l:List α) (n:Nat),uJ l n=l.drop n
 | [],n=>by simp [uJ]
 | a::l,0=>rfl
 | a::l,n+1=>by simp only [uJ,List.drop_succ_cons];exact HQ l n
def tM {α:Type} : List α->Nat->Option (List α)
 | [],n=>match n with
  | 0=>some []
  | _+1=>none
 | a::l,n=>match n with
  | 0=>some []
  | m+1=>match tM l m with
   | some r=>some (a::r)
   | none=>none
theorem IQ {α:Type} : ∀ (l:List α) (n:Nat),tM l n=if n<=l.length then some (l.take n) else none
 | [],0=>rfl
 | [],n+1=>rfl
 | a::l,0=>rfl
 | a::l,n+1=>by
  simp only [tM,IQ l n,List.length_cons,Nat.add_le_add_iff_right];by_cases h:n<=l.length
  ·rw [if_pos h,if_pos h];rfl
  ·rw [if_neg h,if_neg h]
def PB {α:Type} : List α->Nat->Option α
 | [],_=>none
 | a::l,n=>match n with
  | 0=>some a
  | m+1=>PB l m
theorem NG {α:Type} : ∀ (l:List α) (n:Nat),PB l n=l[n]?
 | [],n=>by simp [PB]
 | a::l,0=>rfl
 | a::l,n+1=>by simp only [PB,List.getElem?_cons_succ];exact NG l n
def aH {α:Type} : List α->Nat->List α->Option (List α)
 | cs,0,[]=>some cs
 | [],0,_::_=>none
 | _::cs,0,y::ys=>match aH cs 0 ys with
  | some r=>some (y::r)
  | none=>none
 | [],_+1,_=>none
 | c::cs,n+1,ys=>match aH cs n ys with
  | some r=>some (c::r)
  | none=>none
theorem JQ {α:Type} : ∀ (cs:List α) (n:Nat) (ys r:List α),aH cs n ys=some r->n+ys.length<=cs.length/\r=cs.take n++ys++cs.drop (n+ys.length)
 | cs,0,[],r,h=>by simp only [aH,Option.some.injEq] at h;subst h;simp
 | [],0,_::_,r,h=>by simp [aH] at h
 | c::cs,0,y::ys,r,h=>by
  simp only [aH] at h;split at h
  ·rename_i r' hr;cases h;obtain⟨h1,h2⟩:=JQ cs 0 ys r' hr;subst h2;refine⟨by simp at h1 ⊢;omega,by simp⟩
  ·cases h
 | [],n+1,ys,r,h=>by simp [aH] at h
 | c::cs,n+1,ys,r,h=>by
  simp only [aH] at h;split at h
  ·rename_i r' hr;cases h;obtain⟨h1,h2⟩:=JQ cs n ys r' hr;subst h2;refine⟨by simp;omega,?_⟩;rw [show n+1+ys.length=(n+ys.length)+1 by omega];simp
  ·cases h
structure RB where
 x:V
 wr:Option (Nat × Ob)
 new:Bool
def rb (x:V):Option RB:=some ⟨x,none,false⟩
def CC:List Nat->Nat->Bool
 | [],_=>false
 | k::r,n=>bif Nat.beq k n then true else CC r n
theorem SF:∀ (l:List Nat) (n:Nat),CC l n=true↔n∈l
 | [],n=>by simp [CC]
 | k::r,n=>by
  unfold CC;by_cases h:k=n
  ·rw [mE h];simp [h]
  ·rw [YK h];simp only [cond_false,List.mem_cons];rw [SF r n];constructor
   ·exact .inr
   ·rintro (h1|h1)
    ·exact absurd h1.symm h
    ·exact h1
def aA:Int->Bool
 | .ofNat n=>Nat.ble n 9223372036854775807
 | .negSucc n=>Nat.ble n 9223372036854775807
theorem ui {x:Int} (h:aA x=true):MK x:=by
 unfold MK
 cases x with
 | ofNat n=>have:=Nat.le_of_ble_eq_true h;constructor<;>simp only [Int.ofNat_eq_natCast]<;>omega
 | negSucc n=>have:=Nat.le_of_ble_eq_true h;constructor<;>omega
def uA:Int->Int->Bool
 | .ofNat m,.ofNat n=>Nat.blt m n
 | .negSucc m,.negSucc n=>Nat.blt n m
 | .negSucc _,.ofNat _=>true
 | .ofNat _,.negSucc _=>false
theorem OG (m n:Nat):Nat.blt m n=decide (m<n):=by
 cases e:Nat.blt m n with
 | true=>have:m+1<=n:=Nat.le_of_ble_eq_true e;exact (decide_eq_true (by omega)).symm
 | false =>
  refine (decide_eq_false λ h => ?_).symm;have:Nat.ble (m+1) n=true:=Nat.ble_eq_true_of_le (by omega);have e':Nat.ble (m+1) n=false:=e;rw [e'] at this;cases this
theorem KB (a b:Int):uA a b=decide (a<b):=by
 cases a<;>cases b<;>simp only [uA]
 ·rw [OG];simp
 ·refine (decide_eq_false ?_).symm;simp only [Int.ofNat_eq_natCast];omega
 ·refine (decide_eq_true ?_).symm;simp only [Int.ofNat_eq_natCast];omega
 ·rw [OG];simp only [decide_eq_decide];omega
def tB:Int->Int->Bool
 | .ofNat m,.ofNat n=>Nat.beq m n
 | .negSucc m,.negSucc n=>Nat.beq m n
 | _,_=>false
theorem TY (m n:Nat):Nat.beq m n=decide (m=n):=by
 by_cases h:m=n
 ·rw [mE h];simp [h]
 ·rw [YK h];simp [h]
theorem cH (a b:Int):tB a b=decide (a=b):=by
 cases a<;>cases b<;>simp only [tB]
 ·rw [TY];simp only [Int.ofNat_eq_natCast,decide_eq_decide];omega
 ·exact (decide_eq_false (by simp)).symm
 ·exact (decide_eq_false (by simp)).symm
 ·rw [TY];simp
def Got (o:Option R) (x:V):Prop:=∃ q,o=some q/\q.cond/\q.out=x/\q.wr=none/\q.new=false
def bv (b:Bool):V:=.pv (.bool b)
def TF (x:Int):Option V:=bif aA x then some (.pv (.int x)) else none
def bJ (op:BinOp) (a b:Int):Option V:=match op with
 | .add=>TF (a+b)
 | .sub=>TF (a-b)
 | .mul=>TF (a * b)
 | .rem=>bif tB b 0 then none else some (.pv (.int (a.tmod b)))
 | .lss=>some (bv (uA a b))
 | .leq=>some (bv (!uA b a))
 | .gtr=>some (bv (uA b a))
 | .geq=>some (bv (!uA a b))
 | .eql=>some (bv (tB a b))
 | .neq=>some (bv (!tB a b))
 | _=>none
theorem bi {op:BinOp} {a b:Int} {x:V} (h:bJ op a b=some x):Got (yQ op a b) x:=by
 have hv:∀ c:Int,TF c=some x->Got (some (R.ofIf (MK c) (.pv (.int c)))) x:=by
  intro c hc;unfold TF at hc
  cases e:aA c with
  | true=>rw [e] at hc;cases hc;exact⟨_,rfl,ui e,rfl,rfl,rfl⟩
  | false=>rw [e] at hc;cases hc
 have hb:∀ c d:Bool,c=d->some (bv c)=some x->Got (OB d) x:=by
  intro c d e hc;subst e;cases hc;exact⟨_,rfl,trivial,rfl,rfl,rfl⟩
 cases op<;>simp only [bJ] at h<;>try cases h<;>done
 case add=>exact hv _ h
 case sub=>exact hv _ h
 case mul=>exact hv _ h
 case rem =>
  cases e:tB b 0 with
  | true=>rw [e] at h;cases h
  | false =>
   rw [e] at h;cases h;rw [cH] at e;exact⟨_,rfl,(show b≠0 by simpa using e),rfl,rfl,rfl⟩
 case lss=>exact hb _ _ (KB a b) h
 case leq=>exact hb _ _ (by rw [KB];by_cases hh:b<a<;>simp [hh]<;>omega) h
 case gtr=>exact hb _ _ (KB b a) h
 case geq=>exact hb _ _ (by rw [KB];by_cases hh:a<b<;>simp [hh]<;>omega) h
 case eql=>exact hb _ _ (cH a b) h
 case neq=>exact hb _ _ (by rw [cH]) h
def yC (n:Nat):List (List PV)->Bool
 | []=>true
 | y::r=>bif Nat.beq y.length n then yC n r else false
theorem fO {n:Nat} : ∀ {l:List (List PV)},yC n l=true->∀ y∈l,y.length=n
 | [],_,_,h=>by cases h
 | y::r,h,z,hz=>by
  unfold yC at h
  cases e:Nat.beq y.length n with
  | false=>rw [e] at h;cases h
  | true =>
   rw [e] at h;rcases List.mem_cons.1 hz with rfl|hz
   ·exact Nat.eq_of_beq_eq_true e
   ·exact fO h z hz
def gC (n:Nat):List (List V)->Bool
 | []=>true
 | y::r=>bif Nat.beq y.length n then gC n r else false
theorem gO {n:Nat} : ∀ {l:List (List V)},gC n l=true->∀ y∈l,y.length=n
 | [],_,_,h=>by cases h
 | y::r,h,z,hz=>by
  unfold gC at h
  cases e:Nat.beq y.length n with
  | false=>rw [e] at h;cases h
  | true =>
   rw [e] at h;rcases List.mem_cons.1 hz with rfl|hz
   ·exact Nat.eq_of_beq_eq_true e
   ·exact gO h z hz
def dJ:List V->Bool
 | []=>true
 | y::r=>bif y.one then dJ r else false
theorem lO:∀ {l:List V},dJ l=true->l.all V.one=true
 | [],_=>rfl
 | y::r,h=>by
  unfold dJ at h
  cases e:y.one with
  | false=>rw [e] at h;cases h
  | true=>rw [e] at h;simp only [List.all_cons,e,Bool.true_and];exact lO h
def lC:List (List V)->Bool
 | []=>true
 | y::r=>bif dJ y then lC r else false
theorem eU:∀ {l:List (List V)},lC l=true->∀ y∈l,y.all V.one=true
 | [],_,_,h=>by cases h
 | y::r,h,z,hz=>by
  unfold lC at h
  cases e:dJ y with
  | false=>rw [e] at h;cases h
  | true =>
   rw [e] at h;rcases List.mem_cons.1 hz with rfl|hz
   ·exact lO e
   ·exact eU h z hz
def LQ (agg:Bool) (n:Nat) (cs:List PV):Option V:=match agg with
 | true=>match tM cs n with
  | some l=>some (.pv (.agg l))
  | none=>none
 | false=>match cs with
  | c::_=>some (.pv c)
  | []=>none
theorem UY {agg:Bool} {n:Nat} {cs:List PV} {x:V} (h:LQ agg n cs=some x):Got (zM agg n cs) x:=by
 unfold LQ at h;unfold zM
 cases agg with
 | true =>
  simp only [IQ] at h;by_cases e:n<=cs.length
  ·rw [if_pos e] at h;cases h;exact⟨_,rfl,e,rfl,rfl,rfl⟩
  ·rw [if_neg e] at h;cases h
 | false =>
  cases cs with
  | nil=>cases h
  | cons c cs=>cases h;exact⟨_,rfl,trivial,rfl,rfl,rfl⟩
def mO:List V->Option (List PV)
 | []=>some []
 | c::cs=>match c with
  | .pv p=>match mO cs with
   | some r=>some (p::r)
   | none=>none
  | _=>none
theorem iU:∀ (l:List V),mO l=rD l
 | []=>rfl
 | c::cs=>by
  cases c<;>simp only [mO,rD,V.un,iU cs]
  all_goals cases rD cs<;>rfl
def nO (cs:List V):V:=match mO cs with
 | some ps => .pv (.agg ps)
 | none => .agg cs
theorem oU (cs:List V):nO cs=LF cs:=by unfold nO LF;rw [iU];cases rD cs<;>rfl
def pO (agg:Bool) (n:Nat) (cs:List V):Option V:=match agg with
 | true=>match tM cs n with
  | some l=>some (nO l)
  | none=>none
 | false=>match cs with
  | c::_=>some c
  | []=>none
theorem VY (agg:Bool) (n:Nat) (cs:List V):pO agg n cs=lH agg n cs:=by
 unfold pO lH
 cases agg with
 | true =>
  simp only [if_true,IQ,oU];by_cases e:n<=cs.length
  ·rw [if_pos e,if_pos e]
  ·rw [if_neg e,if_neg e]
 | false=>rfl
def xU (ti:TI) (ob:Nat->Option Ob) (x:V):Option V:=match x with
 | .pv (.ptr cs)=>LQ ti.isAgg ti.size cs
 | .pv (.nptr cs)=>LQ ti.isAgg ti.size cs
 | .loc n off=>match ob n with
  | some (.box cs)=>pO ti.isAgg ti.size (uJ cs off)
  | _=>none
 | .eloc n ver i off=>match ob n with
  | some (.arr ver' _ _ es)=>match PB es i with
   | some e=>bif Nat.beq ver ver' then pO ti.isAgg ti.size (uJ e off) else none
   | none=>none
  | _=>none
 | _=>none
theorem di {ti:TI} {ob:Nat->Option Ob} {x y:V} (h:xU ti ob x=some y):Got (NK ti ob x) y:=by
 unfold xU at h;unfold NK;split at h
 ·exact UY h
 ·exact UY h
 ·rename_i n off;simp only;split at h
  ·rename_i cs e;rw [VY,HQ] at h;simp only [e,h];exact⟨_,rfl,trivial,rfl,rfl,rfl⟩
  ·cases h
 ·rename_i n ver i off;simp only;split at h
  ·rename_i ver' sz ty es e;rw [NG] at h;split at h
   ·rename_i el he
    cases ev:Nat.beq ver ver' with
    | false=>rw [ev] at h;cases h
    | true =>
     rw [ev] at h;simp only [cond_true] at h;rw [VY,HQ] at h;simp only [e,he,h];exact⟨_,rfl,Nat.eq_of_beq_eq_true ev,rfl,rfl,rfl⟩
   ·cases h
  ·cases h
 ·cases h
def UF (o:Option R) (r:RB):Prop:=∃ q,o=some q/\q.cond/\q.out=r.x/\q.wr=r.wr/\q.new=r.new
theorem Got.r {o:Option R} {x:V} (h:Got o x):UF o ⟨x,none,false⟩:=h
theorem SA {α:Type} {c:Bool} {a:Option α} {x:α} (h:(bif c then a else none)=some x):c=true/\a=some x:=by
 cases c with
 | true=>exact⟨rfl,h⟩
 | false=>cases h
theorem GE {m n:Nat} (h:Nat.blt m n=true):m<n:=by rw [OG] at h;exact of_decide_eq_true h
def rO (q:PV) (y:V):Option RB:=match q with
 | .nptr cs=>match cs with
  | c::_=>match c with
   | .flg p=>match y with
    | .pv z=>match z with
     | .bool b=>bif (bif b then p else true) then some ⟨.undef,none,false⟩ else none
     | _=>none
    | _=>none
   | _=>none
  | []=>none
 | _=>none
theorem WY {q:PV} {y:V} {r:RB} (h:rO q y=some r):∃ p l b,q = .nptr (.flg p::l)/\y = .pv (.bool b)/\(b=true->p=true)/\r=⟨.undef,none,false⟩:=by
 unfold rO at h;split at h
 ·split at h
  ·split at h
   ·split at h
    ·split at h
     ·rename_i b;obtain⟨hb,h⟩:=SA h;cases h;exact⟨_,_,b,rfl,rfl,λ e=>by subst e;exact hb,rfl⟩
     ·cases h
    ·cases h
   ·cases h
  ·cases h
 ·cases h
def ZK (ti:TI) (ob:Nat->Option Ob) (x y:V):Option RB:=match uF y with
 | none=>none
 | some ys=>bif Nat.beq ys.length ti.size then (bif dJ ys then (match x with
  | .loc n off=>match ob n with
   | some (.box cs)=>match aH cs off ys with
    | some r=>some ⟨.undef,some (n,.box r),false⟩
    | none=>none
   | _=>none
  | .eloc n ver i off=>match ob n with
   | some (.arr ver' sz ty es)=>bif Nat.beq ver ver' then (bif Nat.ble (off+ys.length) sz then (match PB es i with
    | some e=>some ⟨.undef,some (n,.arr ver' sz ty (es.set i (kD e off ys))),false⟩
    | none=>none) else none) else none
   | _=>none
  | .pv q=>rO q y
  | _=>none) else none) else none
theorem XY {ti:TI} {ob:Nat->Option Ob} {x y:V} {r:RB} (h:ZK ti ob x y=some r):UF (PK ti ob x y) r:=by
 unfold ZK at h;unfold PK;split at h
 ·cases h
 ·rename_i ys ey;have h1:=(SA h).1;replace h:=(SA h).2;have h3:=(SA h).1;replace h:=(SA h).2;have h1:=Nat.eq_of_beq_eq_true h1;simp only [ey];split at h
  ·rename_i n off;split at h
   ·rename_i cs eo;split at h
    ·rename_i q hq;cases h;obtain⟨h2,h4⟩:=JQ cs off ys q hq;simp only [eo];exact⟨_,rfl,⟨h1,h2,lO h3⟩,rfl,by rw [h4];rfl,rfl⟩
    ·cases h
   ·cases h
  ·rename_i n ver i off;split at h
   ·rename_i ver' sz ty es eo;have h2:=(SA h).1;replace h:=(SA h).2;have h4:=(SA h).1;replace h:=(SA h).2;split at h
    ·rename_i e he;cases h;rw [NG] at he;have hlt:i<es.length:=(List.getElem?_eq_some_iff.1 he).1;have hg:es.getD i []=e:=by rw [List.getD_eq_getElem?_getD,he];rfl
     simp only [eo];exact⟨_,rfl,⟨Nat.eq_of_beq_eq_true h2,hlt,h1,Nat.le_of_ble_eq_true h4,lO h3⟩,rfl,by rw [hg],rfl⟩
    ·cases h
   ·cases h
  ·rename_i q;obtain⟨p,l,b,rfl,rfl,hb,rfl⟩:=WY h;refine⟨_,rfl,⟨?_,hb⟩,rfl,rfl,rfl⟩;cases ey;exact h1.symm
  ·cases h
def QD:Int->Option Nat
 | .ofNat n=>some n
 | .negSucc _=>none
theorem fJ {i:Int} {n:Nat} (h:QD i=some n):i=n:=by
 cases i with
 | ofNat k=>simp only [QD,Option.some.injEq] at h;subst h;rfl
 | negSucc k=>cases h
def MQ (T:Nat->Option TI) (ob:Nat->Option Ob) (t:Nat) (x i:V):Option V:=match i with
 | .pv (.int z)=>match QD z with
  | some k=>match T t with
   | some ⟨.slice e,_,_,_,_⟩=>match T e with
    | some te=>match x with
     | .pv (.slice es)=>match PB es k with
      | some e=>bif yC te.size es then some (.pv (.ptr e)) else none
      | none=>none
     | .arr n ver len=>match ob n with
      | some (.arr ver' sz _ es)=>bif Nat.beq ver ver' then (bif Nat.blt k len then (bif Nat.beq sz te.size then (bif Nat.ble len es.length then some (.eloc n ver k 0) else none) else none) else none) else none
      | _=>none
     | _=>none
    | none=>none
   | some ⟨.array m e,_,_,_,_⟩=>match T e with
    | some te=>bif Nat.blt k m then VI x (k * te.size) else none
    | none=>none
   | _=>none
  | none=>none
 | _=>none
theorem fi {T:Nat->Option TI} {ob:Nat->Option Ob} {t:Nat} {x i y:V} (h:MQ T ob t x i=some y):Got (QK T ob t x i) y:=by
 unfold MQ at h;unfold QK;split at h
 ·rename_i z;split at h
  ·rename_i k ek;have hz:=fJ ek;subst hz;simp only [Int.toNat_natCast];split at h
   ·rename_i e a b c d et;simp only [et];split at h
    ·rename_i te ete;simp only [ete];split at h
     ·rename_i es;split at h
      ·rename_i e' he;obtain⟨h2,h⟩:=SA h;cases h;rw [NG] at he;have hlt:k<es.length:=(List.getElem?_eq_some_iff.1 he).1;have hg:es.getD k []=e':=by rw [List.getD_eq_getElem?_getD,he];rfl
       refine⟨_,rfl,?_,by rw [hg];rfl,rfl,rfl⟩;exact⟨by omega,by omega,fO h2⟩
      ·cases h
     ·rename_i n ver len;split at h
      ·rename_i ver' sz ty es eo;obtain⟨h1,h⟩:=SA h;obtain⟨h2,h⟩:=SA h;obtain⟨h3,h⟩:=SA h;obtain⟨h4,h⟩:=SA h;cases h;simp only [eo];refine⟨_,rfl,?_,rfl,rfl,rfl⟩;exact⟨Nat.eq_of_beq_eq_true h1,by omega,by have:=GE h2;omega,Nat.eq_of_beq_eq_true h3,Nat.le_of_ble_eq_true h4⟩
      ·cases h
     ·cases h
    ·cases h
   ·rename_i m e a b c d et;simp only [et];split at h
    ·rename_i te ete;obtain⟨h1,h⟩:=SA h;simp only [ete,h];refine⟨_,rfl,?_,rfl,rfl,rfl⟩;exact⟨by omega,by have:=GE h1;omega⟩
    ·cases h
   ·cases h
  ·cases h
 ·cases h
def AU (ob:Nat->Option Ob) (x:V):Option V:=match x with
 | .pv (.slice es)=>some (.pv (.int (.ofNat es.length)))
 | .pv .nils=>some (.pv (.int 0))
 | .arr n ver len=>match ob n with
  | some (.arr ver' _ _ _)=>bif Nat.beq ver ver' then some (.pv (.int (.ofNat len))) else none
  | _=>none
 | _=>none
theorem li {ob:Nat->Option Ob} {x y:V} (h:AU ob x=some y):Got (RK ob x) y:=by
 unfold AU at h;unfold RK;split at h
 ·cases h;exact⟨_,rfl,trivial,rfl,rfl,rfl⟩
 ·cases h;exact⟨_,rfl,trivial,rfl,rfl,rfl⟩
 ·split at h
  ·rename_i ver' sz ty es eo;obtain⟨h1,h⟩:=SA h;cases h;simp only [eo];exact⟨_,rfl,Nat.eq_of_beq_eq_true h1,rfl,rfl,rfl⟩
  ·cases h
 ·cases h
def qL (e:Nat) (te:TI) (ob:Nat->Option Ob) (nx:Nat) (x y:V):Option RB:=match x with
 | .arr n ver len=>match ob n,GG y with
  | some (.arr ver' sz ty es),some ys=>bif Nat.beq ver ver' && Nat.ble len es.length && Nat.beq ty e && Nat.beq sz te.size && Nat.blt 0 sz && gC sz ys && lC ys && Nat.ble (len+ys.length) maxLen && Nat.ble ((len+ys.length) * te.bytes) 140737488355328 then
    some ⟨.arr n (ver+1) (len+ys.length),some (n,.arr (ver+1) sz ty (es.take len++ys)),false⟩ else none
  | _,_=>none
 | .fsl es=>match y with
  | .pv (.slice (y::ys))=>bif yC te.size es && yC te.size (y::ys) && Nat.blt 0 te.size && Nat.ble (es.length+(y::ys).length) maxLen && Nat.ble ((es.length+(y::ys).length) * te.bytes) 140737488355328 then
    some ⟨.pv (.slice (es++y::ys)),none,false⟩ else none
  | _=>none
 | .pv .nils=>match GG y with
  | some ys=>bif Nat.blt 0 te.size && gC te.size ys && lC ys && Nat.ble ys.length maxLen && Nat.ble (ys.length * te.bytes) 140737488355328 then
    some ⟨.arr nx 1 ys.length,some (nx,.arr 1 te.size e ys),true⟩ else none
  | none=>none
 | _=>none
theorem mi {e:Nat} {te:TI} {ob:Nat->Option Ob} {nx:Nat} {xo:Operand} {x y:V} {r:RB} (h:qL e te ob nx x y=some r) :
  ∃ note,UF (YH e te ob note xo x y) r/\(r.new=true->∃ o,r.wr=some (nx,o)):=by
 unfold qL at h;split at h
 ·rename_i n ver len;split at h
  ·rename_i ver' sz ty es ys eo ey;obtain⟨h1,h⟩:=SA h;cases h;simp only [Bool.and_eq_true] at h1;obtain⟨⟨⟨⟨⟨⟨⟨⟨a1,a2⟩,a3⟩,a4⟩,a5⟩,a6⟩,a7⟩,a8⟩,a9⟩:=h1;refine⟨.none,?_,by simp⟩;simp only [YH,eo,ey];exact⟨_,rfl,⟨Nat.eq_of_beq_eq_true a1,Nat.le_of_ble_eq_true a2,Nat.eq_of_beq_eq_true a3,Nat.eq_of_beq_eq_true a4,GE a5,gO a6,eU a7,Nat.le_of_ble_eq_true a8,Nat.le_of_ble_eq_true a9⟩,rfl,rfl,rfl⟩
  ·cases h
 ·rename_i es;split at h
  ·rename_i y ys;obtain⟨h1,h⟩:=SA h;cases h;simp only [Bool.and_eq_true] at h1;obtain⟨⟨⟨⟨a1,a2⟩,a3⟩,a4⟩,a5⟩:=h1;refine⟨.none,?_,by simp⟩;simp only [YH];exact⟨_,rfl,⟨fO a1,fO a2,GE a3,by simp,Nat.le_of_ble_eq_true a4,Nat.le_of_ble_eq_true a5⟩,rfl,rfl,rfl⟩
  ·cases h
 ·split at h
  ·rename_i ys ey;obtain⟨h1,h⟩:=SA h;cases h;simp only [Bool.and_eq_true] at h1;obtain⟨⟨⟨⟨a1,a2⟩,a3⟩,a4⟩,a5⟩:=h1;refine⟨.arr nx te.size e,?_,λ _=>⟨_,rfl⟩⟩;simp only [YH,ey];exact⟨_,rfl,⟨by first|rfl|trivial,by first|rfl|trivial,GE a1,gO a2,eU a3,Nat.le_of_ble_eq_true a4,Nat.le_of_ble_eq_true a5⟩,rfl,rfl,rfl⟩
  ·cases h
 ·cases h
def sO (te:TI) (ob:Nat->Option Ob) (x:V) (lo hi mx:Option V):Option V:=match x,lo,hi,mx with
 | .pv (.slice es),some (.pv (.int l)),none,none=>match QD l with
  | some k=>bif Nat.ble k es.length && yC te.size es then some (.pv (.slice (es.drop k))) else none
  | none=>none
 | .pv (.slice es),none,some (.pv (.int h)),none=>match QD h with
  | some k=>bif Nat.ble k es.length then some (.pv (.slice (es.take k))) else none
  | none=>none
 | .arr n ver len,none,some (.pv (.int h)),none=>match QD h,ob n with
  | some k,some (.arr ver' _ _ _)=>bif Nat.beq ver ver' && Nat.ble k len then some (.arr n ver k) else none
  | _,_=>none
 | .pv (.slice es),none,some (.pv (.int h)),some (.pv (.int m))=>match QD h,QD m with
  | some k,some l=>bif Nat.beq k es.length && Nat.beq l es.length then some (.fsl es) else none
  | _,_=>none
 | .pv .nils,lo,hi,mx=>bif ZH lo && ZH hi && ZH mx && (!mx.isSome || hi.isSome) then some (.pv .nils) else none
 | _,_,_,_=>none
theorem ni {te:TI} {ob:Nat->Option Ob} {x y:V} {lo hi mx:Option V} (h:sO te ob x lo hi mx=some y):Got (UK te ob x lo hi mx) y:=by
 unfold sO at h;unfold UK;split at h
 ·split at h
  ·rename_i k ek;have hz:=fJ ek;subst hz;obtain⟨h1,h⟩:=SA h;cases h;simp only [Bool.and_eq_true] at h1;have h2:=Nat.le_of_ble_eq_true h1.1;refine⟨_,rfl,?_,by simp [R.ofIf],rfl,rfl⟩;exact⟨by omega,by omega,fO h1.2⟩
  ·cases h
 ·split at h
  ·rename_i k ek;have hz:=fJ ek;subst hz;obtain⟨h1,h⟩:=SA h;cases h;have h2:=Nat.le_of_ble_eq_true h1;refine⟨_,rfl,?_,by simp [R.ofIf],rfl,rfl⟩;exact⟨by omega,by omega⟩
  ·cases h
 ·split at h
  ·rename_i k ver' sz ty es ek eo;have hz:=fJ ek;subst hz;obtain⟨h1,h⟩:=SA h;cases h;simp only [Bool.and_eq_true] at h1;have h2:=Nat.le_of_ble_eq_true h1.2;simp only [eo];refine⟨_,rfl,?_,by simp [R.ofIf],rfl,rfl⟩;exact⟨Nat.eq_of_beq_eq_true h1.1,by omega,by omega⟩
  ·cases h
 ·split at h
  ·rename_i k l ek el;have hz:=fJ ek;have hz':=fJ el;subst hz hz';obtain⟨h1,h⟩:=SA h;cases h;simp only [Bool.and_eq_true] at h1;have h2:=Nat.eq_of_beq_eq_true h1.1;have h3:=Nat.eq_of_beq_eq_true h1.2;refine⟨_,rfl,?_,rfl,rfl,rfl⟩;exact⟨by omega,by omega⟩
  ·cases h
 ·obtain⟨h1,h⟩:=SA h;cases h;simp only [h1,cond_true];exact⟨_,rfl,trivial,rfl,rfl,rfl⟩
 ·cases h
def tO (fs:List (Nat × Nat)) (cells:List V):List (Nat × V)->Option (List V)
 | []=>some cells
 | (i,x)::rest=>match PB fs i with
  | some (off,size)=>match uF x with
   | some ys=>bif Nat.beq ys.length size then (match aH cells off ys with
    | some r=>tO fs r rest
    | none=>none) else none
   | none=>none
  | none=>none
theorem BU {fs:List (Nat × Nat)} : ∀ {l:List (Nat × V)} {cells cs:List V},tO fs cells l=some cs->OF fs cells l=some cs
 | [],_,_,h=>h
 | (i,x)::rest,cells,cs,h=>by
  unfold tO at h;unfold OF;rw [NG] at h;split at h
  ·rename_i off size ei;split at h
   ·rename_i ys ex;obtain⟨h1,h⟩:=SA h;have h1:=Nat.eq_of_beq_eq_true h1;split at h
    ·rename_i r hr;obtain⟨h2,h3⟩:=JQ cells off ys r hr;simp only [ei,ex];rw [if_pos ⟨h1,by omega⟩];have:kD cells off ys=r:=by rw [h3];rfl
     rw [this];exact BU h
    ·cases h
   ·cases h
  ·cases h
def aO:Nat->List (Nat × V)->Option (List (List V))
 | _,[]=>some []
 | k,(i,x)::rest=>bif Nat.beq i k then (match uF x with
   | some cs=>match aO (Nat.succ k) rest with
    | some es=>some (cs::es)
    | none=>none
   | none=>none) else none
theorem CU:∀ {l:List (Nat × V)} {k:Nat} {es:List (List V)},aO k l=some es->LK k l=some es
 | [],_,_,h=>h
 | (i,x)::rest,k,es,h=>by
  unfold aO at h;unfold LK;obtain⟨h1,h⟩:=SA h;rw [if_pos (Nat.eq_of_beq_eq_true h1)];split at h
  ·rename_i cs ec;split at h
   ·rename_i es' ee;cases h;simp only [ec,CU ee]
   ·cases h
  ·cases h
def cO (e:Nat) (te:TI) (nx len:Nat) (es:List (List V)):Option RB :=
 bif Nat.beq es.length len && Nat.ble len 16777216 && Nat.ble (len * te.size) 16777216 && gC te.size es then (match EE es with
  | some ps=>some ⟨.pv (.slice ps),none,false⟩
  | none=>some ⟨.arr nx 0 len,some (nx,.arr 0 te.size e es),true⟩) else none
theorem pi {e:Nat} {te:TI} {nx len:Nat} {es:List (List V)} {r:RB} (h:cO e te nx len es=some r):∃ note,UF (RT e te note len es) r/\(r.new=true->∃ o,r.wr=some (nx,o)):=by
 unfold cO at h;obtain⟨h1,h⟩:=SA h;simp only [Bool.and_eq_true] at h1;obtain⟨⟨⟨a1,a2⟩,a3⟩,a4⟩:=h1;have hc:=And.intro (Nat.eq_of_beq_eq_true a1) (And.intro (Nat.le_of_ble_eq_true a2) (And.intro (Nat.le_of_ble_eq_true a3) (gO a4)));split at h
 ·rename_i ps ep;cases h;refine⟨.none,⟨_,rfl,hc,?_,rfl,rfl⟩,by simp⟩;simp [R.ofIf,jM,ep]
 ·cases h;exact⟨.arr nx te.size e,⟨_,rfl,⟨hc,rfl,rfl⟩,rfl,rfl,rfl⟩,λ _=>⟨_,rfl⟩⟩
def DU (T:Nat->Option TI) (nx t:Nat):Option RB:=match T t with
 | some ti=>some ⟨.loc nx 0,some (nx,.box (xA ti.zc)),true⟩
 | none=>none
def EU (nx:Nat) (x:V):Option RB:=match uF x with
 | some cs=>bif dJ cs then some ⟨.loc nx 0,some (nx,.box cs),true⟩ else none
 | none=>none
def FU (T:Nat->Option TI) (t:Nat) (ps:List (Nat × V)):Option V:=match T t with
 | some ⟨.struct fs _,_,_,_,zc⟩=>match tO fs (xA zc) ps with
  | some cs=>some (nO cs)
  | none=>none
 | some ⟨.array m e,_,_,_,zc⟩=>match T e with
  | some te=>match tO (mH te.size m 0) (xA zc) ps with
   | some cs=>some (nO cs)
   | none=>none
  | none=>none
 | _=>none
def YY (x:V) (i:Nat):Option V:=match x with
 | .pv (.tuple cs)=>match PB cs i with
  | some c=>some (.pv c)
  | none=>none
 | .tuple cs=>PB cs i
 | _=>none
def VF:IntKind->IntKind->Bool
 | .u8,.u8=>true
 | .u32,.u32=>true
 | .i32,.i32=>true
 | _,_=>false
theorem ri {a b:IntKind} (h:VF a b=true):a=b:=by cases a<;>cases b<;>first|rfl|cases h
def NQ (x:Int):Option Int:=bif aA x then some x else none
def CD (k:IntKind) (x:Int):Option V:=match NQ x with
 | some y=>some (.pv (.num k y))
 | none=>none
theorem OQ {k:IntKind} {x:Int} {v:V} (h:CD k x=some v):v = .pv (.num k x):=by
 unfold CD NQ at h
 cases e:aA x with
 | true=>rw [e] at h;cases h;rfl
 | false=>rw [e] at h;cases h
def zL (op:BinOp) (k:IntKind) (a b:Int):Option V:=match op with
 | .add=>CD k (k.wrap (a+b))
 | .sub=>CD k (k.wrap (a-b))
 | .and=>CD k (BA .and k a b)
 | .or=>CD k (BA .or k a b)
 | .andNot=>CD k (BA .andNot k a b)
 | .lss=>some (bv (uA a b))
 | .leq=>some (bv (!uA b a))
 | .gtr=>some (bv (uA b a))
 | .geq=>some (bv (!uA a b))
 | .eql=>some (bv (tB a b))
 | .neq=>some (bv (!tB a b))
 | _=>none
theorem ai {op:BinOp} {k:IntKind} {a b:Int} {x:V} (h:zL op k a b=some x):Got (uQ op k a b) x:=by
 have hb:∀ c d:Bool,c=d->some (bv c)=some x->Got (OB d) x:=by
  intro c d e hc;subst e;cases hc;exact⟨_,rfl,trivial,rfl,rfl,rfl⟩
 have hv:∀ c:Int,CD k c=some x->Got (some (R.of (.pv (.num k c)))) x:=by
  intro c hc;rw [OQ hc];exact⟨_,rfl,trivial,rfl,rfl,rfl⟩
 cases op<;>simp only [zL] at h<;>try cases h<;>done
 case add=>exact hv _ h
 case sub=>exact hv _ h
 case and=>exact hv _ h
 case or=>exact hv _ h
 case andNot=>exact hv _ h
 case lss=>exact hb _ _ (KB a b) h
 case leq=>exact hb _ _ (by rw [KB];by_cases hh:b<a<;>simp [hh]<;>omega) h
 case gtr=>exact hb _ _ (KB b a) h
 case geq=>exact hb _ _ (by rw [KB];by_cases hh:a<b<;>simp [hh]<;>omega) h
 case eql=>exact hb _ _ (cH a b) h
 case neq=>exact hb _ _ (by rw [cH]) h
def aM (op:BinOp) (k:IntKind) (a n:Int):Option V:=match op with
 | .shl=>bif uA n 0 then none else CD k (k.wrap (a * 2 ^ (min n.toNat k.bits)))
 | .shr=>bif uA n 0 then none else CD k (a.fdiv (2 ^ (min n.toNat k.bits)))
 | _=>none
theorem ci {op:BinOp} {k:IntKind} {a n:Int} {x:V} (h:aM op k a n=some x):Got (bQ op k a n) x:=by
 have hv:∀ c:Int,(bif uA n 0 then none else CD k c)=some x->Got (some (R.ofIf (0<=n) (.pv (.num k c)))) x:=by
  intro c hc
  cases e:uA n 0 with
  | true=>rw [e] at hc;cases hc
  | false =>
   rw [e] at hc;rw [OQ hc];rw [KB] at e;exact⟨_,rfl,(show 0<=n by simpa using e),rfl,rfl,rfl⟩
 cases op<;>simp only [aM] at h<;>try cases h<;>done
 case shl=>exact hv _ h
 case shr=>exact hv _ h
def jL (k:TK) (op:BinOp) (x y:V) (yo:Operand):Option V:=match x,y with
 | .pv (.int a),.pv (.int b)=>bJ op a b
 | .pv (.num j a),.pv (.num j' b)=>bif VF j j' then zL op j a b else none
 | .pv (.num j a),.pv (.int n)=>aM op j a n
 | .pv (.str a),.pv (.str b)=>match op with
  | .eql=>some (bv (uE a b))
  | .neq=>some (bv (!uE a b))
  | _=>none
 | x,y=>match op with
  | .eql=>match vM k x y yo with
   | some b=>some (bv b)
   | none=>none
  | .neq=>match vM k x y yo with
   | some b=>some (bv (!b))
   | none=>none
  | _=>none
theorem ii {k:TK} {op:BinOp} {x y z:V} {yo:Operand} (h:jL k op x y yo=some z):Got (UI k op x y yo) z:=by
 have hb:∀ c:Bool,some (bv c)=some z->Got (OB c) z:=by
  intro c hc;cases hc;exact⟨_,rfl,trivial,rfl,rfl,rfl⟩
 unfold jL at h;split at h
 ·exact bi h
 ·rename_i j a j' b;have h1:=ri (SA h).1;replace h:=(SA h).2;subst h1;simp only [UI,if_true];exact ai h
 ·simp only [UI];exact ci h
 ·simp only [UI];split at h
  ·exact hb _ h
  ·exact hb _ h
  ·cases h
 ·rename_i hne hne2 hne4 hne3;have key:∀ b,vM k x y yo=some b->((op = .eql/\z=bv b)\/(op = .neq/\z=bv (!b)))->Got (UI k op x y yo) z:=by
   intro b hb2 hop;unfold UI;split
   ·rename_i a b';exact (hne a b' rfl rfl).elim
   ·rename_i j a j' b';exact (hne2 j a j' b' rfl rfl).elim
   ·rename_i j a n;exact (hne4 j a n rfl rfl).elim
   ·rename_i a b';exact (hne3 a b' rfl rfl).elim
   ·rcases hop with ⟨rfl,rfl⟩|⟨rfl,rfl⟩<;>simp only [hb2]<;>exact⟨_,rfl,trivial,rfl,rfl,rfl⟩
  split at h
  ·split at h
   ·rename_i b' hb';cases h;exact key b' hb' (.inl ⟨rfl,rfl⟩)
   ·cases h
  ·split at h
   ·rename_i b' hb';cases h;exact key b' hb' (.inr ⟨rfl,rfl⟩)
   ·cases h
  ·cases h
def eO:Bool->Bool->Bool
 | true,b=>b
 | false,true=>false
 | false,false=>true
theorem PQ {a b:Bool} (h:eO a b=true):a=b:=by cases a<;>cases b<;>first|rfl|cases h
def QQ (s:Bool) (ob:Nat->Option Ob) (m k v:V):Option RB:=match m with
 | .map n=>match wM k with
  | some a=>match ob n with
   | some (.smap s' es)=>bif eO s' s && eO a.kind s && v.one then some ⟨.undef,some (n,.smap s' (sD es a v)),false⟩ else none
   | _=>none
  | none=>none
 | _=>none
theorem SQ {s:Bool} {ob:Nat->Option Ob} {m k v:V} {r:RB} (h:QQ s ob m k v=some r):UF (qI s ob m k v) r/\r.new=false /\ ∃ n,(∃ o,r.wr=some (n,o))/\(ob n).isSome=true:=by
 unfold QQ at h;split at h
 ·rename_i n;split at h
  ·rename_i a ea;split at h
   ·rename_i s' es eo;have h1:=(SA h).1;cases (SA h).2;simp only [Bool.and_eq_true] at h1;refine⟨?_,rfl,n,⟨_,rfl⟩,by rw [eo];rfl⟩;simp only [qI,ea,eo];exact⟨_,rfl,⟨PQ h1.1.1,PQ h1.1.2,h1.2⟩,rfl,rfl,rfl⟩
   ·cases h
  ·cases h
 ·cases h
def GU (s ok:Bool) (z:PV) (ob:Nat->Option Ob) (m k:V):Option V:=match m with
 | .map n=>match wM k with
  | some a=>match ob n with
   | some (.smap s' es)=>bif eO s' s && eO a.kind s then (match FE es a,ok with
    | some x,true=>some (.tuple [x,.pv (.bool true)])
    | none,true=>some (.pv (.tuple [z,.bool false]))
    | some x,false=>some x
    | none,false=>some (.pv z)) else none
   | _=>none
  | none=>none
 | _=>none
theorem xi {s ok:Bool} {z:PV} {ob:Nat->Option Ob} {m k x:V} (h:GU s ok z ob m k=some x):Got (XI s ok z ob m k) x:=by
 unfold GU at h;split at h
 ·rename_i n;split at h
  ·rename_i a ea;split at h
   ·rename_i s' es eo;have h1:=(SA h).1;replace h:=(SA h).2;simp only [Bool.and_eq_true] at h1;simp only [XI,ea,eo];refine⟨_,rfl,⟨PQ h1.1,PQ h1.2⟩,?_,rfl,rfl⟩;cases hg:FE es a<;>cases ok<;>rw [hg] at h<;>cases h<;>rfl
   ·cases h
  ·cases h
 ·cases h
def HU:V->Option V
 | .pv (.str l)=>some (.pv (.int (.ofNat l.length)))
 | _=>none
theorem Ai {x y:V} (h:HU x=some y):Got (UT x) y:=by
 unfold HU at h;split at h
 ·cases h;exact⟨_,rfl,trivial,rfl,rfl,rfl⟩
 ·cases h
def IU (x i:V):Option V:=match x with
 | .pv (.str l)=>match i with
  | .pv (.int z)=>match QD z with
   | some k=>match PB l k with
    | some b=>some (.pv (.num .u8 (.ofNat b)))
    | none=>none
   | none=>none
  | _=>none
 | _=>none
theorem Bi {x i y:V} (h:IU x i=some y):Got (VT x i) y:=by
 unfold IU at h;split at h
 ·rename_i l;split at h
  ·rename_i z;split at h
   ·rename_i k ek;have hz:=fJ ek;subst hz;split at h
    ·rename_i b hb;cases h;rw [NG] at hb;have hlt:k<l.length:=(List.getElem?_eq_some_iff.1 hb).1;have hg:l.getD k 0=b:=by rw [List.getD_eq_getElem?_getD,hb];rfl
     refine⟨_,rfl,⟨by omega,by omega⟩,?_,rfl,rfl⟩;simp only [R.ofIf,Int.toNat_natCast,hg];rfl
    ·cases h
   ·cases h
  ·cases h
 ·cases h
def TQ (d:Nat):Option V->Option Nat
 | none=>some d
 | some (.pv (.int k))=>QD k
 | _=>none
theorem ZY {d n:Nat} {x:Option V} (h:TQ d x=some n):zI (d:Int) x=some (n:Int):=by
 unfold TQ at h;unfold zI;split at h
 ·cases h;rfl
 ·simp only [fJ h]
 ·cases h
def JU (x:V) (lo hi mx:Option V):Option V:=match x with
 | .pv (.str l)=>match mx with
  | none=>match TQ 0 lo,TQ l.length hi with
   | some a,some b=>bif Nat.ble a b && Nat.ble b l.length then (match tM (uJ l a) (b-a) with
    | some r=>some (.pv (.str r))
    | none=>none) else none
   | _,_=>none
  | some _=>none
 | _=>none
theorem Ci {x y:V} {lo hi mx:Option V} (h:JU x lo hi mx=some y):Got (fQ x lo hi mx) y:=by
 unfold JU at h;split at h
 ·rename_i l;split at h
  ·split at h
   ·rename_i a b ea eb;have h1:=(SA h).1;replace h:=(SA h).2;simp only [Bool.and_eq_true] at h1;have h2:=Nat.le_of_ble_eq_true h1.1;have h3:=Nat.le_of_ble_eq_true h1.2;split at h
    ·rename_i r hr;cases h;rw [IQ,HQ] at hr;split at hr
     ·cases hr;have ea':=ZY ea;have eb':=ZY eb;have ea'':zI 0 lo=some (a:Int):=ea';simp only [fQ,ea'',eb'];refine⟨_,rfl,⟨by omega,by omega,by omega⟩,?_,rfl,rfl⟩;have:((b:Int)-(a:Int)).toNat=b-a:=by omega
      simp [R.ofIf,this]
     ·cases hr
    ·cases h
   ·cases h
  ·cases h
 ·cases h
def UQ (nx:Nat):V->Option RB
 | .pv (.str l)=>some ⟨.loc nx 0,some (nx,.siter l 0),true⟩
 | _=>none
def KU (ob:Nat->Option Ob):V->Option RB
 | .loc n 0=>match ob n with
  | some (.siter l p)=>match PB l p with
   | some b=>bif Nat.blt b 128 then some ⟨.pv (.tuple [.bool true,.int (.ofNat p),.num .i32 (.ofNat b)]),some (n,.siter l (p+1)),false⟩ else none
   | none=>some ⟨.pv (.tuple [.bool false]),none,false⟩
  | _=>none
 | _=>none
theorem qZ {ob:Nat->Option Ob} {x:V} {r:RB} (h:KU ob x=some r):UF (uM ob x) r/\r.new=false /\ ∀ n o,r.wr=some (n,o)->(ob n).isSome=true:=by
 unfold KU at h;split at h
 ·rename_i n;split at h
  ·rename_i l p eo;rw [NG] at h;split at h
   ·rename_i b hb;have h1:=GE (SA h).1;cases (SA h).2;refine⟨?_,rfl,λ n' o e=>by cases e;rw [eo];rfl⟩;simp only [uM,eo,hb];exact⟨_,rfl,h1,rfl,rfl,rfl⟩
   ·rename_i hb;cases h;refine⟨?_,rfl,λ n' o e=>by cases e⟩;simp only [uM,eo,hb];exact⟨_,rfl,trivial,rfl,rfl,rfl⟩
  ·cases h
 ·cases h
def LU (T:Nat->Option TI) (s t:Nat) (x:V):Option V:=match T s with
 | some _=>match T t with
  | some ⟨.num k,_,_,_,_⟩=>match x with
   | .pv (.num _ n)=>CD k (k.wrap n)
   | .pv (.int n)=>CD k (k.wrap n)
   | _=>none
  | some ⟨.int,_,_,_,_⟩=>match x with
   | .pv (.num _ n)=>TF (IntKind.i64.wrap n)
   | .pv (.int n)=>TF (IntKind.i64.wrap n)
   | _=>none
  | _=>none
 | none=>none
def MU (T:Nat->Option TI) (s t:Nat) (x:V):Option V:=match T s with
 | some ⟨.str,_,_,_,_⟩=>match T t with
  | some ⟨.slice e,_,_,_,_⟩=>match x with
   | .pv (.str l)=>match T e with
    | some ⟨.num .u8,_,_,_,_⟩=>bif Nat.ble l.length maxLen then some (.pv (.slice (HG l))) else none
    | _=>none
   | _=>none
  | _=>none
 | _=>none
theorem zZ {x:Int} {v:V} (h:TF x=some v):v = .pv (.int x):=by
 unfold TF at h
 cases e:aA x with
 | true=>rw [e] at h;cases h;rfl
 | false=>rw [e] at h;cases h
theorem Ei {T:Nat->Option TI} {s t:Nat} {x y:V} : LU T s t x=some y->Got (match T s,T t,x with
  | some _,some ⟨.num k,_,_,_,_⟩,.pv (.num _ n)=>some (R.of (.pv (.num k (k.wrap n))))
  | some _,some ⟨.num k,_,_,_,_⟩,.pv (.int n)=>some (R.of (.pv (.num k (k.wrap n))))
  | some _,some ⟨.int,_,_,_,_⟩,.pv (.num _ n)=>some (R.of (.pv (.int (IntKind.i64.wrap n))))
  | some _,some ⟨.int,_,_,_,_⟩,.pv (.int n)=>some (R.of (.pv (.int (IntKind.i64.wrap n))))
  | some ⟨.str,_,_,_,_⟩,some ⟨.slice e,_,_,_,_⟩,.pv (.str l)=>match T e with
   | some ⟨.num .u8,_,_,_,_⟩=>some (R.ofIf (l.length<=maxLen) (.pv (.slice (HG l))))
   | _=>none
  | _,_,_=>none) y:=by
 intro h;unfold LU at h;split at h
 ·rename_i si es;split at h
  ·rename_i k a b c d et;split at h
   ·simp only [es,et];rw [OQ h];exact⟨_,rfl,trivial,rfl,rfl,rfl⟩
   ·simp only [es,et];rw [OQ h];exact⟨_,rfl,trivial,rfl,rfl,rfl⟩
   ·cases h
  ·rename_i a b c d et;split at h
   ·simp only [es,et];rw [zZ h];exact⟨_,rfl,trivial,rfl,rfl,rfl⟩
   ·simp only [es,et];rw [zZ h];exact⟨_,rfl,trivial,rfl,rfl,rfl⟩
   ·cases h
  ·cases h
 ·cases h
theorem Fi {T:Nat->Option TI} {s t:Nat} {x y:V} : MU T s t x=some y->Got (match T s,T t,x with
  | some _,some ⟨.num k,_,_,_,_⟩,.pv (.num _ n)=>some (R.of (.pv (.num k (k.wrap n))))
  | some _,some ⟨.num k,_,_,_,_⟩,.pv (.int n)=>some (R.of (.pv (.num k (k.wrap n))))
  | some _,some ⟨.int,_,_,_,_⟩,.pv (.num _ n)=>some (R.of (.pv (.int (IntKind.i64.wrap n))))
  | some _,some ⟨.int,_,_,_,_⟩,.pv (.int n)=>some (R.of (.pv (.int (IntKind.i64.wrap n))))
  | some ⟨.str,_,_,_,_⟩,some ⟨.slice e,_,_,_,_⟩,.pv (.str l)=>match T e with
   | some ⟨.num .u8,_,_,_,_⟩=>some (R.ofIf (l.length<=maxLen) (.pv (.slice (HG l))))
   | _=>none
  | _,_,_=>none) y:=by
 intro h;unfold MU at h;split at h
 ·rename_i es;split at h
  ·rename_i et;split at h
   ·split at h
    ·rename_i ee;simp only [es,et,ee];rename_i l _ _ _ _ _ _
     cases e:Nat.ble _ maxLen with
     | true=>rw [e] at h;cases h;exact⟨_,rfl,Nat.le_of_ble_eq_true e,rfl,rfl,rfl⟩
     | false=>rw [e] at h;cases h
    ·cases h
   ·cases h
  ·cases h
 ·cases h
def NU (ti:TI) (t:Nat) (ok:Bool) (x:V):Option V:=match x with
 | .pv (.iface t' p)=>bif Nat.beq t' t then (match ok with
   | true=>some (.pv (.tuple [p,.bool true]))
   | false=>some (.pv p))
  else (match ok with
   | true=>match yM ti with
    | some z=>some (.pv (.tuple [z,.bool false]))
    | none=>none
   | false=>none)
 | .pv .nilif=>match ok with
   | true=>match yM ti with
    | some z=>some (.pv (.tuple [z,.bool false]))
    | none=>none
   | false=>none
 | _=>none
theorem Gi {ti:TI} {t:Nat} {ok:Bool} {x y:V} (h:NU ti t ok x=some y):Got (dQ ti t ok x) y:=by
 unfold NU at h;unfold dQ;split at h
 ·rename_i t' p;simp only
  cases e:Nat.beq t' t with
  | true =>
   rw [e] at h;simp only [cond_true] at h;rw [if_pos (Nat.eq_of_beq_eq_true e)];cases ok<;>cases h<;>exact⟨_,rfl,trivial,rfl,rfl,rfl⟩
  | false =>
   rw [e] at h;simp only [cond_false] at h;have hne:¬ t'=t:=λ e'=>by rw [mE e'] at e;cases e
   rw [if_neg hne]
   cases ok with
   | false=>cases h
   | true =>
    simp only at h;split at h
    ·rename_i z ez;cases h;simp only [ez];exact⟨_,rfl,trivial,rfl,rfl,rfl⟩
    ·cases h
 ·cases ok with
  | false=>cases h
  | true =>
   simp only at h;split at h
   ·rename_i z ez;cases h;simp only [ez];exact⟨_,rfl,trivial,rfl,rfl,rfl⟩
   ·cases h
 ·cases h
def jZ (x:V):Option V:=match x with
 | .pv (.ptr cs)=>some (.pv (.ptr cs))
 | .pv (.nptr cs)=>some (.pv (.nptr cs))
 | .loc n off=>some (.loc n off)
 | .eloc n v i o=>some (.eloc n v i o)
 | _=>none
def vZ (T:Nat->Option TI) (t f:Nat) (x:V):Option V:=match T t with
 | some ⟨.struct fs _,_,_,_,_⟩=>match fs[f]? with
  | some (off,size)=>bif Nat.beq size 0 then none else VI x off
  | none=>none
 | _=>none
def wZ (T:Nat->Option TI) (t f:Nat) (x:V):Option V:=match T t with
 | some ⟨.struct fs pl,_,_,_,_⟩=>bif pl.elem f then (match fs[f]? with
  | some (off,_)=>(match x with
   | .pv (.agg cs)=>(match cs[off]? with|some c=>some (.pv c)|none=>none)
   | .agg cs=>cs[off]?
   | _=>none)
  | none=>none) else none
 | _=>none
def ro (x:Option V):Option RB:=match x with
 | some v=>some ⟨v,none,false⟩
 | none=>none
def bD (T:Nat->Option TI) (nx:Nat) (val:Operand->V) (ob:Nat->Option Ob) (dst:Option Nat) (op:Op):Option RB:=match op with
 | .move x=>rb (val x)
 | .assign x=>rb (val x)
 | .pick c a b=>match val c with
  | .pv (.bool true)=>rb (val a)
  | .pv (.bool false)=>rb (val b)
  | _=>none
 | .alloc t=>DU T nx t
 | .box _ x=>EU nx (val x)
 | .build t parts=>ro (FU T t (parts.toList.map λ p=>(p.1,val p.2)))
 | .makeFunc (.func f) first caps=>match first.toList with
  | []=>rb (.fn f (caps.toList.map val))
  | a::l=>match caps.toList with
   | []=>rb (.bfn f ((a::l).map val))
   | _::_=>none
 | .buildSlice t len parts=>match T t with
  | some ⟨.slice e,_,_,_,_⟩=>match T e with
   | some te=>match aO 0 (parts.toList.map λ p=>(p.1,val p.2)) with
    | some es=>cO e te nx len es
    | none=>none
   | none=>none
  | _=>none
 | .load t x=>match T t with
  | some ti=>ro (xU ti ob (val x))
  | none=>none
 | .store t x y=>match dst with
  | none=>match T t with
   | some ti=>ZK ti ob (val x) (val y)
   | none=>none
  | some _=>none
 | .nilCheck x=>ro (jZ (val x))
 | .binOp b t x y _=>match T t with
  | some ti=>ro (jL ti.k b (val x) (val y) y)
  | none=>none
 | .unOp .not _ x=>match val x with
  | .pv (.bool b)=>rb (bv (!b))
  | _=>none
 | .makeInterface t x=>match T t with
  | some ti=>match val x with
   | .pv p=>bif ti.k.isIface then none else rb (.pv (.iface t p))
   | _=>none
  | none=>none
 | .fieldAddr t x f=>ro (vZ T t f (val x))
 | .field t x f=>ro (wZ T t f (val x))
 | .indexAddr t x i=>ro (MQ T ob t (val x) (val i))
 | .extract x i=>ro (YY (val x) i)
 | .range t x=>match T t with
  | some ⟨.str,_,_,_,_⟩=>UQ nx (val x)
  | _=>none
 | .next x true=>KU ob (val x)
 | .index t x i=>match T t with
  | some ⟨.str,_,_,_,_⟩=>ro (IU (val x) (val i))
  | _=>none
 | .convert s t x=>ro (match LU T s t (val x) with
  | some y=>some y
  | none=>MU T s t (val x))
 | .typeAssert x _ t ok=>match T t with
  | some ti=>bif ti.k.isIface then none else ro (NU ti t ok (val x))
  | none=>none
 | .makeMap t none=>match T t with
  | some ⟨.smap _ _ s,_,_,_,_⟩=>some ⟨.map nx,some (nx,.smap s []),true⟩
  | _=>none
 | .mapUpdate t m k v=>match dst with
  | none=>match T t with
   | some ⟨.smap _ _ s,_,_,_,_⟩=>QQ s ob (val m) (val k) (val v)
   | _=>none
  | some _=>none
 | .insert t m k v=>match dst with
  | none=>match T t with
   | some ⟨.smap _ _ s,_,_,_,_⟩=>QQ s ob (val m) (val k) (val v)
   | _=>none
  | some _=>none
 | .lookup t m k ok=>match T t with
  | some ⟨.smap _ vt s,_,_,_,_⟩=>match T vt with
   | some tv=>match kM tv.zero with
    | some z=>ro (GU s ok z ob (val m) (val k))
    | none=>none
   | none=>none
  | _=>none
 | .slice t x lo hi mx=>match T t with
  | some ⟨.slice e,_,_,_,_⟩=>match T e with
   | some te=>ro (sO te ob (val x) (lo.map val) (hi.map val) (mx.map val))
   | none=>none
  | some ⟨.str,_,_,_,_⟩=>ro (JU (val x) (lo.map val) (hi.map val) (mx.map val))
  | _=>none
 | .call { callee:=.builtin .len,args,argTypes } => match argTypes.toList,args.toList with
  | [t],[x]=>match T t with
   | some ⟨.slice _,_,_,_,_⟩=>ro (AU ob (val x))
   | some ⟨.str,_,_,_,_⟩=>ro (HU (val x))
   | _=>none
  | _,_=>none
 | .call { callee:=.builtin .append,args,argTypes } => match argTypes.toList,args.toList with
  | [t,t'],[x,y]=>bif Nat.beq t t' then (match T t with
    | some ⟨.slice e,_,_,_,_⟩=>match T e with
     | some te=>qL e te ob nx (val x) (val y)
     | none=>none
    | _=>none) else none
  | _,_=>none
 | .call { callee:=.builtin .max,args,argTypes:=_ } => match args.toList with
  | [x,y]=>match val x,val y with
   | .pv (.int a),.pv (.int b)=>rb (.pv (.int (bif uA a b then b else a)))
   | _,_=>none
  | _=>none
 | _=>none
theorem QG {x:V} {r:RB} (h:rb x=some r) {f:Prop} : UF (some ⟨True,f,x,none,false⟩) r:=by
 cases h;exact⟨_,rfl,trivial,rfl,rfl,rfl⟩
theorem DD {o:Option V} {r:RB} (h:ro o=some r):∃ v,o=some v/\r=⟨v,none,false⟩:=by
 unfold ro at h;split at h
 ·cases h;exact⟨_,rfl,rfl⟩
 ·cases h
theorem kI {x:V} {r:RB} (h:rb x=some r) {nx:Nat} : r.new=true->∃ q,r.wr=some (nx,q):=by
 cases h;simp
theorem Hi {T:Nat->Option TI} {t:Nat} {ps:List (Nat × V)} {x:V} (h:FU T t ps=some x) :
  Got (match T t with
  | some ⟨.struct fs _,_,_,_,zc⟩=>(OF fs (xA zc) ps).map (λ cs=>R.of (LF cs))
  | some ⟨.array m e,_,_,_,zc⟩=>match T e with
   | some te=>(OF (mH te.size m 0) (xA zc) ps).map (λ cs=>R.of (LF cs))
   | none=>none
  | _=>none) x:=by
 unfold FU at h;split at h
 ·rename_i fs pl a b c zc et
  try simp only [et]
  split at h
  ·rename_i cs ec;cases h;rw [BU ec,oU];exact⟨_,rfl,trivial,rfl,rfl,rfl⟩
  ·cases h
 ·rename_i m e a b c zc et
  try simp only [et]
  split at h
  ·rename_i te ee
   try simp only [ee]
   split at h
   ·rename_i cs ec;cases h;rw [BU ec,oU];exact⟨_,rfl,trivial,rfl,rfl,rfl⟩
   ·cases h
  ·cases h
 ·cases h
theorem kZ {T:Nat->Option TI} {nx:Nat} {val:Operand->V} {ob:Nat->Option Ob} {dst:Option Nat} {op:Op} {r:RB} (h:bD T nx val ob dst op=some r) :
  ∃ note,UF (lA T note val ob dst op) r/\(r.new=true->∃ o,r.wr=some (nx,o)):=by
 unfold bD at h;split at h
 ·refine⟨.none,?_,kI h⟩;simp only [lA,WI];exact QG h
 ·refine⟨.none,?_,kI h⟩;simp only [lA,WI];exact QG h
 ·rename_i c a b;have key:∀ (bb:Bool),val c = .pv (.bool bb)->rb (bif bb then val a else val b)=some r->UF (lA T .none val ob dst (.pick c a b)) r:=by
   intro bb hc hr;simp only [lA,hc];cases bb<;>simp only [cond_true,cond_false] at hr
   ·split
    ·rename_i e1 e2 e3;rw [e3] at hr;cases e1;exact QG hr
    ·rename_i e1 _;cases e1
    ·exact QG hr
    ·rename_i h1 h2 h3;exact (h2 rfl).elim
   ·split
    ·rename_i e1 e2 e3;rw [e2] at hr;cases e1;exact QG hr
    ·exact QG hr
    ·rename_i e1 _;cases e1
    ·rename_i h1 h2 h3;exact (h1 rfl).elim
  split at h
  ·rename_i hc;exact⟨.none,key true hc h,kI h⟩
  ·rename_i hc;exact⟨.none,key false hc h,kI h⟩
  ·cases h
 ·rename_i t;unfold DU at h;split at h
  ·rename_i ti et;cases h;refine⟨.box nx,?_,λ _=>⟨_,rfl⟩⟩;simp only [lA,et];exact⟨_,rfl,trivial,rfl,rfl,rfl⟩
  ·cases h
 ·rename_i t x;unfold EU at h;split at h
  ·rename_i cs ec;obtain⟨h1,h⟩:=SA h;cases h;refine⟨.box nx,?_,λ _=>⟨_,rfl⟩⟩;simp only [lA,ec];rw [if_pos (lO h1)];exact⟨_,rfl,trivial,rfl,rfl,rfl⟩
  ·cases h
 ·rename_i t parts;obtain⟨v,hv,rfl⟩:=DD h;refine⟨.none,?_,by simp⟩;simp only [lA];exact (Hi hv).r
 ·rename_i f first caps
  split at h
  ·rename_i e;refine⟨.none,?_,kI h⟩;have e0:first.size=0:=by rw [<- Array.length_toList,e];rfl
   simp only [lA,e0,if_true];exact QG h
  ·rename_i a l e;split at h
   ·rename_i e';refine⟨.none,?_,kI h⟩;have e0:¬ first.size=0:=by rw [<- Array.length_toList,e];simp
    have e1:caps.size=0:=by rw [<- Array.length_toList,e'];rfl
    simp only [lA,e0,e1,if_true,if_false,e];exact QG h
   ·cases h
 ·rename_i t len parts;split at h
  ·rename_i e a b c d et;split at h
   ·rename_i te ee;split at h
    ·rename_i es ep;obtain⟨note,hr,hn⟩:=pi h;refine⟨note,?_,hn⟩;simp only [lA,et,ee,CU ep];exact hr
    ·cases h
   ·cases h
  ·cases h
 ·rename_i t x;split at h
  ·rename_i ti et;obtain⟨v,hv,rfl⟩:=DD h;refine⟨.none,?_,by simp⟩;simp only [lA,et];exact (di hv).r
  ·cases h
 ·rename_i t x y;split at h
  ·split at h
   ·rename_i ti et;refine⟨.none,?_,?_⟩
    ·simp only [lA,et];exact XY h
    ·obtain⟨q,_,_,_,_,_⟩:=XY h;unfold ZK at h;intro hn;exfalso;revert hn h;simp only [rO]
     repeat' (first|split|(intro h;cases h)|simp only [cond] )
     all_goals (intro h;first|(cases h;done)|(cases h;simp))
   ·cases h
  ·cases h
 ·obtain⟨v,hv,rfl⟩:=DD h;refine⟨.none,?_,by simp⟩;unfold jZ at hv;simp only [lA];split at hv<;>rename_i ev<;>cases hv<;>rw [ev]<;>exact⟨_,rfl,trivial,rfl,rfl,rfl⟩
 ·split at h
  ·rename_i ti et;obtain⟨v,hv,rfl⟩:=DD h;refine⟨.none,?_,by simp⟩;simp only [lA,et];exact (ii hv).r
  ·cases h
 ·split at h
  ·rename_i b eb;refine⟨.none,?_,kI h⟩;simp only [lA,eb,OB];exact QG h
  ·cases h
 ·split at h
  ·rename_i ti et;split at h
   ·rename_i p ep
    cases e:ti.k.isIface with
    | true=>rw [e] at h;cases h
    | false =>
     rw [e] at h;refine⟨.none,?_,kI h⟩;simp only [lA,et,ep,e];exact QG h
   ·cases h
  ·cases h
 ·obtain⟨v,hv,rfl⟩:=DD h;refine⟨.none,?_,by simp⟩;unfold vZ at hv;simp only [lA];split at hv
  ·rename_i fs pl a b c d et;split at hv
   ·rename_i off size ef
    cases e:Nat.beq size 0 with
    | true=>rw [e] at hv;cases hv
    | false =>
     rw [e] at hv;simp only [cond_false] at hv;have hs:¬ size=0:=λ e'=>by rw [mE e'] at e;cases e
     simp only [et,ef,hs,if_false,hv];exact⟨_,rfl,trivial,rfl,rfl,rfl⟩
   ·cases hv
  ·cases hv
 ·obtain⟨v,hv,rfl⟩:=DD h;refine⟨.none,?_,by simp⟩;unfold wZ at hv;simp only [lA];split at hv
  ·rename_i fs pl a b c d et
   cases e:pl.elem _ with
   | false=>rw [e] at hv;cases hv
   | true =>
    rw [e] at hv;simp only [cond_true] at hv;split at hv
    ·rename_i off size ef;simp only [et,ef,e,cond_true];split at hv
     ·split at hv
      ·rename_i ex _ c ec;cases hv;simp only [ex,ec,Option.map_some];exact⟨_,rfl,trivial,rfl,rfl,rfl⟩
      ·cases hv
     ·rename_i cs ex;simp only [ex,hv,Option.map_some];exact⟨_,rfl,trivial,rfl,rfl,rfl⟩
     ·cases hv
    ·cases hv
  ·cases hv
 ·obtain⟨v,hv,rfl⟩:=DD h;refine⟨.none,?_,by simp⟩;simp only [lA];exact (fi hv).r
 ·obtain⟨v,hv,rfl⟩:=DD h;refine⟨.none,?_,by simp⟩;unfold YY at hv;simp only [lA];simp only [NG] at hv;split at hv
  ·rename_i cs ev;split at hv
   ·rename_i c ec;cases hv;simp only [ev,ec];exact⟨_,rfl,trivial,rfl,rfl,rfl⟩
   ·cases hv
  ·rename_i cs ev;simp only [ev,hv];exact⟨_,rfl,trivial,rfl,rfl,rfl⟩
  ·cases hv
 ·rename_i t x;split at h
  ·rename_i a b c d et;refine⟨.siter nx,?_,?_⟩
   ·simp only [lA,et];unfold UQ at h;split at h
    ·rename_i l el;cases h;simp only [ST,el];exact⟨_,rfl,trivial,rfl,rfl,rfl⟩
    ·cases h
   ·intro _;unfold UQ at h;split at h
    ·cases h;exact⟨_,rfl⟩
    ·cases h
  ·cases h
 ·obtain⟨h1,h2,_⟩:=qZ h;refine⟨.none,?_,by rw [h2];simp⟩;simp only [lA];exact h1
 ·split at h
  ·rename_i a b c d et;obtain⟨v,hv,rfl⟩:=DD h;refine⟨.none,?_,by simp⟩;simp only [lA,et];exact (Bi hv).r
  ·cases h
 ·obtain⟨v,hv,rfl⟩:=DD h;refine⟨.none,?_,by simp⟩;simp only [lA];split at hv
  ·rename_i hv';cases hv;exact (Ei hv').r
  ·exact (Fi hv).r
 ·split at h
  ·rename_i ti et
   cases e:ti.k.isIface with
   | true=>rw [e] at h;cases h
   | false =>
    rw [e] at h;obtain⟨v,hv,rfl⟩:=DD h;refine⟨.none,?_,by simp⟩;simp only [lA,et,e];exact (Gi hv).r
  ·cases h
 ·split at h
  ·rename_i kt vt sk a b c d et;cases h;refine⟨.smap nx sk,?_,λ _=>⟨_,rfl⟩⟩;simp only [lA];exact⟨_,rfl,trivial,rfl,rfl,rfl⟩
  ·cases h
 ·split at h
  ·split at h
   ·rename_i kt vt sk a b c d et;obtain⟨h1,h2,_⟩:=SQ h;refine⟨.none,?_,by rw [h2];simp⟩;simp only [lA,et];exact h1
   ·cases h
  ·cases h
 ·split at h
  ·split at h
   ·rename_i kt vt sk a b c d et;obtain⟨h1,h2,_⟩:=SQ h;refine⟨.none,?_,by rw [h2];simp⟩;simp only [lA,et];exact h1
   ·cases h
  ·cases h
 ·split at h
  ·rename_i kt vt sk a b c d et;split at h
   ·rename_i tv ev;split at h
    ·rename_i z ez;obtain⟨v,hv,rfl⟩:=DD h;refine⟨.none,?_,by simp⟩;simp only [lA,et,ev,ez];exact (xi hv).r
    ·cases h
   ·cases h
  ·cases h
 ·split at h
  ·rename_i e a b c d et;split at h
   ·rename_i te ee;obtain⟨v,hv,rfl⟩:=DD h;refine⟨.none,?_,by simp⟩;simp only [lA,et,ee];exact (ni hv).r
   ·cases h
  ·rename_i a b c d et;obtain⟨v,hv,rfl⟩:=DD h;refine⟨.none,?_,by simp⟩;simp only [lA,et];exact (Ci hv).r
  ·cases h
 ·split at h
  ·rename_i t x et ex;split at h
   ·rename_i e a b c d ett;obtain⟨v,hv,rfl⟩:=DD h;refine⟨.none,?_,by simp⟩;simp only [lA,et,ex,ett];exact (li hv).r
   ·rename_i a b c d ett;obtain⟨v,hv,rfl⟩:=DD h;refine⟨.none,?_,by simp⟩;simp only [lA,et,ex,ett];exact (Ai hv).r
   ·cases h
  ·cases h
 ·split at h
  ·rename_i t t' x y et ex;have h1:=(SA h).1;replace h:=(SA h).2;have ht:=Nat.eq_of_beq_eq_true h1;subst ht;split at h
   ·rename_i e a b c d ett;split at h
    ·rename_i te ee;obtain⟨note,hr,hn⟩:=mi (xo:=x) h;refine⟨note,?_,hn⟩;simp only [lA,et,ex,ett,ee,if_true];exact hr
    ·cases h
   ·cases h
  ·cases h
 ·split at h
  ·rename_i x y ex;split at h
   ·rename_i a b ea eb;refine⟨.none,?_,kI h⟩;simp only [lA,ex,ea,eb];have:(if b > a then b else a)=bif uA a b then b else a:=by
     rw [KB];by_cases hh:a<b
     ·rw [if_pos (show b > a from hh),decide_eq_true hh];rfl
     ·rw [if_neg (show ¬ b > a from hh),decide_eq_false hh];rfl
    rw [this];exact QG h
   ·cases h
  ·cases h
 ·cases h
structure IS where
 sl:Tr V
 ob:Tr Ob
 nx:Nat
 dt:List Nat
inductive AE where
 | normal
 | exit (i:Nat)
 | ret
structure eB where
 x:V
 ch:List (Nat × Ob)
 nw:List (Nat × Ob)
 nx:Nat
structure Tc where
 wn:List Nat
 rd:List Nat
structure wB where
 T:Nat->Option TI
 gl:Nat->Option (List PV)
 F:Nat->Option Func
 intr:Nat->List V->Option V
def IS.val (gl:Nat->Option (List PV)) (s:IS):Operand->V
 | .tmp t=>match s.sl.get t with
  | some v=>v
  | none => .undef
 | .const v=>ZL v
 | .func f => .fn f []
 | .global g=>match gl g with
  | some cs => .pv (.ptr cs)
  | none => .undef
def putT (t:Tr V) (dst:Option Nat) (x:V):Tr V:=match dst with
 | none=>t
 | some d=>t.put d (some x)
def gJ (bs n:Nat) (l:List Nat):List Nat:=bif Nat.blt n bs then n::l else l
def IS.app (bs:Nat) (s:IS) (dst:Option Nat) (r:RB):IS:=match r.wr with
 | none=>⟨putT s.sl dst r.x,s.ob,s.nx,s.dt⟩
 | some (n,o)=>bif r.new then ⟨putT s.sl dst r.x,s.ob.put n (some o),Nat.succ s.nx,s.dt⟩ else ⟨putT s.sl dst r.x,s.ob.put n (some o),s.nx,gJ bs n s.dt⟩
def Ii:V->List Nat
 | .arr n _ _=>[n]
 | _=>[]
def VQ:V->List Nat
 | .arr n _ _=>[n]
 | .agg cs=>cs.flatMap Ii
 | _=>[]
def yI (bs:Nat) (s:IS) (n:Nat):IS:=bif Nat.blt n bs then s else (match s.ob.get n with
 | some (.arr ver _ _ es)=>match EE es with
  | some ps=>⟨s.sl.map (cC n ver ps),(s.ob.put n none).map (ZB n ver ps),s.nx,s.dt⟩
  | none=>s
 | _=>s)
def iO (bs:Nat):List Nat->IS->IS
 | [],s=>s
 | n::r,s=>iO bs r (yI bs s n)
def cM (bs:Nat):List Nat->IS->IS
 | [],s=>s
 | t::r,s=>cM bs r (match s.sl.get t with
  | some v=>iO bs (VQ v) s
  | none=>s)
def eM:List Operand->List Nat
 | []=>[]
 | .tmp t::r=>t::eM r
 | _::r=>eM r
def Ji:Op->List Nat
 | .call { callee:=.value _,args,.. } => eM args.toList
 | .call { callee:=.builtin .append,args,.. } => eM (args.toList.drop 1)
 | .buildSlice _ _ ps=>eM (ps.toList.map (·.2))
 | .makeInterface _ x=>eM [x]
 | _=>[]
def oO:List Oper->List Nat
 | []=>[]
 | o::r=>Ji o.op++oO r
def reach (nx:Nat) (ob:Tr Ob):Nat->List Nat->Tr Ob->List Nat->Option (Tr Ob × List Nat)
 | 0,_,_,_=>none
 | _+1,[],sub,l=>some (sub,l)
 | f+1,n::r,sub,l=>bif Nat.blt n nx then (match sub.get n with
  | some _=>reach nx ob f r sub l
  | none=>match ob.get n with
   | none=>reach nx ob f r sub l
   | some o=>reach nx ob f (o.names++r) (sub.put n (some o)) (n::l)) else none
def hJ (bs nx:Nat) (sub ob:Tr Ob):Nat->List Nat->Tr Ob->List (Nat × Ob)->Option (List (Nat × Ob))
 | 0,_,_,_=>none
 | _+1,[],_,l=>some l
 | f+1,n::r,seen,l=>bif Nat.blt n bs then (match sub.get n with
   | some _=>hJ bs nx sub ob f r seen l
   | none=>none) else match seen.get n with
  | some _=>hJ bs nx sub ob f r seen l
  | none=>match ob.get n with
   | none=>none
   | some o=>bif Nat.blt n nx then hJ bs nx sub ob f (o.names++r) (seen.put n (some o)) ((n,o)::l) else none
def vL:List Nat->Tr Ob->List Nat
 | [],_=>[]
 | n::r,seen=>match seen.get n with
  | some _=>vL r seen
  | none=>n::vL r (seen.put n (some (.box [])))
def WQ (ob:Tr Ob):List Nat->Option (List (Nat × Ob))
 | []=>some []
 | n::r=>match ob.get n with
  | some o=>match WQ ob r with
   | some l=>some ((n,o)::l)
   | none=>none
  | none=>none
def xO:List (Nat × Ob)->List Nat
 | []=>[]
 | (_,o)::r=>o.names++xO r
def AO (T:Nat->Option TI) (s:IS):ResultVar->Option V
 | .tmp t=>some (match s.sl.get t with|some v=>v|none => .undef)
 | .cell a t=>match T t,s.sl.get a with
  | some ti,some (.loc n off)=>match s.ob.get n with
   | some (.box cs)=>lH ti.isAgg ti.size (cs.drop off)
   | _=>none
  | _,_=>none
def XQ (T:Nat->Option TI) (s:IS):List ResultVar->Option (List V)
 | []=>some []
 | r::rs=>match AO T s r,XQ T s rs with
  | some x,some xs=>some (x::xs)
  | _,_=>none
def YQ (bs:Nat):List Nat->List Nat
 | []=>[]
 | n::r=>bif Nat.blt n bs then YQ bs r else n::YQ bs r
def lJ (T:Nat->Option TI) (bs:Nat):List ResultVar->IS->IS
 | [],s=>s
 | r::rs,s=>lJ T bs rs (match AO T s r with
  | some v=>iO bs (YQ bs (VQ v)) s
  | none=>s)
def mJ (T:Nat->Option TI) (bs:Nat) (sub:Tr Ob) (rs:List ResultVar) (s:IS):Option eB:=match XQ T s rs with
 | some xs=>match WQ s.ob (vL s.dt .nil) with
  | some ch=>match hJ bs s.nx sub s.ob 1000000 ((uO xs).names++xO ch) .nil [] with
   | some nw=>some ⟨uO xs,ch,nw,s.nx⟩
   | none=>none
  | none=>none
 | none=>none
def iM (T:Nat->Option TI) (bs:Nat) (sub:Tr Ob) (rs:List ResultVar):AE->IS->Option eB
 | .exit _,_=>none
 | _,s=>mJ T bs sub rs (lJ T bs rs s)
def nJ (bs:Nat):List (Nat × Ob)->List Nat->List Nat
 | [],l=>l
 | (n,_)::r,l=>nJ bs r (gJ bs n l)
def HE:List (Nat × Ob)->Tr Ob->Tr Ob
 | [],t=>t
 | (n,o)::r,t=>HE r (t.put n (some o))
def mF:Nat->List V->Tr V->Tr V
 | _,[],t=>t
 | k,x::xs,t=>mF (Nat.succ k) xs (t.put k (some x))
abbrev BO:=Nat->Nat->Code->IS->(AE->IS->Option eB)->Option eB
abbrev Call:=Nat->List V->IS->Option (eB × List Nat)
def oM (ev:wB) (run:BO) (fn:Func) (c:Code) (args:List V) (nx:Nat) (sub:Tr Ob):Option eB :=
 run fn.ntmps nx c ⟨mF 0 args .nil,sub,nx,[]⟩ (iM ev.T nx sub fn.results.toList)
def ZQ (bs:Nat) (s:IS) (dst:Option Nat) (r:eB):IS:=⟨putT s.sl dst r.x,HE r.nw (HE r.ch s.ob),r.nx,nJ bs r.ch s.dt⟩
def xM:V:=.pv (.tuple [])
def OU (nt:Nat):Option Nat->Bool
 | some d=>Nat.blt d nt
 | none=>true
def callR (bs:Nat) (s:IS) (dst:Option Nat):Option (eB × List Nat)->Option (IS × Tc)
 | some (r,ks)=>some (ZQ bs s dst r,⟨r.ch.map (·.1)++r.nw.map (·.1),ks⟩)
 | none=>none
def wL (ev:wB) (call:Call) (bs:Nat) (o:Oper) (s:IS):Option (IS × Tc):=match JG (s.val ev.gl) o.op with
 | some (f,args)=>callR bs s o.dst (call f args s)
 | none=>match bD ev.T s.nx (s.val ev.gl) s.ob.get o.dst o.op with
  | some r=>some (s.app bs o.dst r,⟨match r.wr with|some (n,_)=>[n]|none=>[],fF (s.val ev.gl) o.op⟩)
  | none=>none
def PU (all:List Oper) (s:IS) (j:Nat):V:=match all[j]? with
 | some o=>match o.dst with
  | some d=>match s.sl.get d with
   | some v=>v
   | none => .undef
  | none => .undef
 | none => .undef
def QU (ops:Array Oper) (o1 o2:Oper):Bool :=
 (match o1.dst with|some d=>(o2.looksAt ops).contains d || o2.dst == some d|none=>false) ||
 (match o2.dst with|some d=>(o1.looksAt ops).contains d|none=>false)
def RU (ops:List Oper):Bool :=
 (List.range ops.length).all λ j=>match ops[j]? with
  | some oj=>(zJ oj).all (λ i=>decide (i<j)) && (List.range j).all λ i=>match ops[i]? with
   | some oi => !QU ops.toArray oi oj || ((dE ops []).getD j 0).testBit i
   | none=>false
  | none=>false
def CO (a b:Tc):Bool:=a.wn.all (λ n => !CC b.rd n && !CC b.wn n) && b.wn.all (λ n => !CC a.rd n)
def AM:List Tc->Bool
 | []=>true
 | t::r=>match t.wn with
  | []=>AM r
  | _::_=>false
def qR (ops:List Oper) (tr:List Tc):Bool :=
 (List.range ops.length).all λ j=>match tr[j]? with
  | some b=>(List.range j).all λ i=>match tr[i]? with
   | some a=>CO a b || ((dE ops []).getD j 0).testBit i
   | none=>false
  | none=>false
def DO (bs:Nat) (l:List Nat) (s:IS):IS:=bif Nat.beq s.nx bs then s else cM bs l s
theorem SU:∀ {cs:List V} {ps:List PV},rD cs=some ps->cs=xA ps
 | [],ps,h=>by cases h;rfl
 | c::cs,ps,h=>by
  unfold rD at h;split at h
  ·rename_i p ps' hp hps;cases h;have:=SU hps;subst this;cases c<;>simp only [V.un] at hp<;>cases hp;rfl
  ·cases h
theorem yZ:∀ {es:List (List V)} {ps:List (List PV)},EE es=some ps->es=vA ps
 | [],ps,h=>by cases h;rfl
 | e::es,ps,h=>by
  unfold EE at h;split at h
  ·rename_i p ps' hp hps;cases h;have h1:=yZ hps;have h2:=SU hp;subst h1 h2;rfl
  ·cases h
structure Rel (s:IS) (σ:St):Prop where
 sl:∀ t,IA σ.slots t=(match s.sl.get t with|some v=>v|none => .undef)
 ob:∀ n,jA σ.objs n=s.ob.get n
 us:∀ n∈σ.used,n<s.nx
structure Inv (bs:Nat) (sub:Tr Ob) (s:IS):Prop where
 le:bs<=s.nx
 same:∀ n,n<bs->n ∉ s.dt->s.ob.get n=sub.get n
 old:∀ n,n<bs->(s.ob.get n).isSome=true->(sub.get n).isSome=true
 names:∀ n o,sub.get n=some o->n<bs /\ ∀ k∈o.names,k<bs
 dts:∀ n∈s.dt,n<bs
theorem Rel.val {s:IS} {σ:St} (h:Rel s σ) (gl:Nat->Option (List PV)):σ.val gl=s.val gl:=by
 funext x
 cases x with
 | tmp t=>exact h.sl t
 | const v=>rfl
 | func f=>rfl
 | global g=>rfl
theorem Rel.obf {s:IS} {σ:St} (h:Rel s σ):jA σ.objs=s.ob.get:=funext h.ob
def Wk (σ σ':St):Prop:=∀ C E a w,Ga C E σ a w->∃ E',Ga C E' σ' a w
theorem Wk.refl (σ:St):Wk σ σ:=λ _ E _ _ h=>⟨E,h⟩
theorem Wk.trans {a b c:St} (h:Wk a b) (h':Wk b c):Wk a c:=λ C E x w hG=>by
 obtain⟨E',h1⟩:=h C E x w hG;exact h' C E' x w h1
theorem AWP.wk {X:PA} {c:Code} {σ σ':St} {Q:AB->St->Prop} (hw:Wk σ σ') (h:AWP X c σ' Q):AWP X c σ Q:=by
 intro C E a w hC hG;obtain⟨E',h'⟩:=hw C E a w hG;exact h C E' a w hC h'
theorem AWP.post {X:PA} {c:Code} {σ:St} {Q Q':AB->St->Prop} (h:AWP X c σ Q) (hq:∀ ae σ',Q ae σ'->(∃ σ'',Wk σ' σ''/\Q' ae σ'') /\ ∀ p,ae ≠ .panic p):AWP X c σ Q':=by
 intro C E a w hC hG;refine wp_mono (h C E a w hC hG) ?_
 rintro e a' w' ⟨E',σ',ae,hG',hr,hqq⟩
 obtain⟨⟨σ'',hw,hq'⟩,hp⟩:=hq ae σ' hqq;obtain⟨E'',hG''⟩:=hw C E' a' w' hG';refine⟨E'',σ'',ae,hG'',?_,hq'⟩
 cases ae with
 | panic p=>exact absurd rfl (hp p)
 | _=>exact hr
theorem Ki {n ver:Nat} {ps:List (List PV)} : ∀ {x:V},n ∉ x.names->tD n ver ps x=x:=by
 intro x h;cases x<;>simp only [tD];rename_i m v l;rw [if_neg]
 rintro⟨rfl,_⟩
 exact h (by simp [V.names])
theorem uZ {n ver:Nat} {ps:List (List PV)} : ∀ {cs:List V},n ∉ EA cs->BC n ver ps cs=cs
 | [],_=>rfl
 | c::cs,h=>by
  simp only [EA,List.mem_append,not_or] at h;simp only [BC];rw [Ki h.1,uZ h.2]
theorem Li {n ver:Nat} {ps:List (List PV)} {o:Ob} (h:n ∉ o.names):ZB n ver ps o=o:=by
 cases o with
 | box cs=>simp only [ZB];rw [uZ h]
 | _=>rfl
theorem TU {bs:Nat} {sub:Tr Ob} {s:IS} (hI:Inv bs sub s) (n:Nat):Inv bs sub (yI bs s n):=by
 unfold yI
 cases e:Nat.blt n bs with
 | true=>exact hI
 | false =>
  simp only [cond_false];rw [OG] at e;have hn:¬ n<bs:=of_decide_eq_false e;split
  ·rename_i ver sz ty es ho;split
   ·rename_i ps hps;have hget:∀ m,((s.ob.put n none).map (ZB n ver ps)).get m=if m=n then none else (s.ob.get m).map (ZB n ver ps):=by
     intro m;rw [Tr.get_map,Tr.get_put];split<;>rfl
    refine⟨hI.le,?_,?_,hI.names,hI.dts⟩
    ·intro m hm hd;show ((s.ob.put n none).map (ZB n ver ps)).get m=_;rw [hget m,if_neg (by omega),hI.same m hm hd]
     cases q:sub.get m with
     | none=>rfl
     | some o =>
      simp only [Option.map_some];rw [Li];intro hk;exact hn ((hI.names m o q).2 n hk)
    ·intro m hm hs;have hs:(((s.ob.put n none).map (ZB n ver ps)).get m).isSome=true:=hs;rw [hget m,if_neg (by omega)] at hs;exact hI.old m hm (by simpa using hs)
   ·exact hI
  ·exact hI
theorem UU {bs:Nat} {sub:Tr Ob} : ∀ (l:List Nat) {s:IS},Inv bs sub s->Inv bs sub (iO bs l s)
 | [],_,hI=>hI
 | n::r,_,hI=>UU r (TU hI n)
theorem VU {bs:Nat} {sub:Tr Ob} : ∀ (l:List Nat) {s:IS},Inv bs sub s->Inv bs sub (cM bs l s)
 | [],_,hI=>hI
 | t::r,s,hI=>by
  unfold cM;split
  ·exact VU r (UU _ hI)
  ·exact VU r hI
theorem EO {T:Nat->Option TI} {bs:Nat} {sub:Tr Ob} : ∀ (l:List ResultVar) {s:IS},Inv bs sub s->Inv bs sub (lJ T bs l s)
 | [],_,hI=>hI
 | t::r,s,hI=>by
  unfold lJ;split
  ·exact EO r (UU _ hI)
  ·exact EO r hI
theorem WU {bs:Nat} {s:IS} {σ:St} (hR:Rel s σ) (n:Nat):∃ σ',Wk σ σ'/\Rel (yI bs s n) σ':=by
 have hid:∃ σ',Wk σ σ'/\Rel s σ':=⟨σ,Wk.refl σ,hR⟩;unfold yI
 cases e:Nat.blt n bs with
 | true=>exact hid
 | false =>
  simp only [cond_false];split
  ·rename_i ver sz ty es ho;split
   ·rename_i ps hps;have hes:=yZ hps;subst hes;have ho':jA σ.objs n=some (.arr ver sz ty (vA ps)):=(hR.ob n).trans ho;refine⟨σ.frz n ver ps,λ C E a w hG=>hG.frz ho',⟨?_,?_,hR.us⟩⟩
    ·intro t;simp only [St.frz,rU,hR.sl,Tr.get_map];cases s.sl.get t<;>rfl
    ·intro m;simp only [St.frz,pM,hR.ob,Tr.get_map,Tr.get_put];split<;>rfl
   ·exact hid
  ·exact hid
theorem XU {bs:Nat} : ∀ (l:List Nat) {s:IS} {σ:St},Rel s σ->∃ σ',Wk σ σ'/\Rel (iO bs l s) σ'
 | [],s,σ,hR=>⟨σ,Wk.refl σ,hR⟩
 | n::r,s,σ,hR=>by
  obtain⟨σ1,h1,h2⟩:=WU (bs:=bs) hR n;obtain⟨σ2,h4,h5⟩:=XU r h2;exact⟨σ2,h1.trans h4,h5⟩
theorem YU {bs:Nat} : ∀ (l:List Nat) {s:IS} {σ:St},Rel s σ->∃ σ',Wk σ σ'/\Rel (cM bs l s) σ'
 | [],s,σ,hR=>⟨σ,Wk.refl σ,hR⟩
 | t::r,s,σ,hR=>by
  unfold cM;split
  ·rename_i v hv;obtain⟨σ1,h1,h2⟩:=XU (bs:=bs) (VQ v) hR;obtain⟨σ2,h4,h5⟩:=YU r h2;exact⟨σ2,h1.trans h4,h5⟩
  ·exact YU r hR
theorem ZU {T:Nat->Option TI} {bs:Nat} : ∀ (l:List ResultVar) {s:IS} {σ:St},Rel s σ->∃ σ',Wk σ σ'/\Rel (lJ T bs l s) σ'
 | [],s,σ,hR=>⟨σ,Wk.refl σ,hR⟩
 | t::r,s,σ,hR=>by
  unfold lJ;split
  ·rename_i v hv;obtain⟨σ1,h1,h2⟩:=XU (bs:=bs) (YQ bs (VQ v)) hR;obtain⟨σ2,h4,h5⟩:=ZU r h2;exact⟨σ2,h1.trans h4,h5⟩
  ·exact ZU r hR
structure qV (nx:Nat) (ob:Tr Ob) (todo:List Nat) (sub:Tr Ob) (l:List Nat):Prop where
 get:∀ n o,sub.get n=some o->ob.get n=some o/\n<nx/\n∈l /\ ∀ k∈o.names,k<nx\/k∈todo
 mem:∀ n∈l,(sub.get n).isSome=true
theorem zR {nx:Nat} {ob:Tr Ob} : ∀ (f:Nat) (todo:List Nat) (sub:Tr Ob) (l:List Nat) {sub':Tr Ob} {l':List Nat},reach nx ob f todo sub l=some (sub',l')->qV nx ob todo sub l->qV nx ob [] sub' l' /\ ∀ k∈todo,k<nx
 | 0,_,_,_,_,_,h,_=>by cases h
 | f+1,[],sub,l,_,_,h,hr=>by cases h;exact⟨hr,by simp⟩
 | f+1,n::r,sub,l,sub',l',h,hr=>by
  unfold reach at h;obtain⟨h1,h⟩:=SA h;have hn:=GE h1;have hdrop:qV nx ob r sub l:=⟨λ m o hm=>⟨(hr.get m o hm).1,(hr.get m o hm).2.1,(hr.get m o hm).2.2.1,λ k hk=>by
   rcases (hr.get m o hm).2.2.2 k hk with h2|h2
   ·exact .inl h2
   ·rcases List.mem_cons.1 h2 with rfl|h2
    ·exact .inl hn
    ·exact .inr h2⟩,hr.mem⟩
  split at h
  ·obtain⟨h3,h4⟩:=zR f r sub l h hdrop;exact⟨h3,λ k hk=>by rcases List.mem_cons.1 hk with rfl|hk<;>first|exact hn|exact h4 k hk⟩
  ·split at h
   ·obtain⟨h3,h4⟩:=zR f r sub l h hdrop;exact⟨h3,λ k hk=>by rcases List.mem_cons.1 hk with rfl|hk<;>first|exact hn|exact h4 k hk⟩
   ·rename_i hs o ho;obtain⟨h3,h4⟩:=zR f (o.names++r) (sub.put n (some o)) (n::l) h (by
     refine⟨λ m q hm => ?_,λ m hm => ?_⟩
     ·rw [Tr.get_put] at hm;split at hm
      ·rename_i e;cases hm;subst e;exact⟨ho,hn,by simp,λ k hk => .inr (by simp [hk])⟩
      ·obtain⟨a,b,c,d⟩:=hdrop.get m q hm;exact⟨a,b,by simp [c],λ k hk=>by rcases d k hk with h5|h5<;>first|exact .inl h5|exact .inr (by simp [h5])⟩
     ·rw [Tr.get_put];split
      ·rfl
      ·rename_i e;rcases List.mem_cons.1 hm with h5|h5
       ·exact absurd h5 e
       ·exact hr.mem m h5)
    exact⟨h3,λ k hk=>by rcases List.mem_cons.1 hk with rfl|hk<;>first|exact hn|exact h4 k (by simp [hk])⟩
structure zV (bs nx:Nat) (sub ob:Tr Ob) (todo:List Nat) (seen:Tr Ob) (l:List (Nat × Ob)):Prop where
 ent:∀ n o,(n,o)∈l->bs<=n/\n<nx/\ob.get n=some o /\ ∀ k∈o.names,(sub.get k).isSome=true\/k∈yA l\/k∈todo
 seen:∀ n,(seen.get n).isSome=true->n∈yA l
theorem jV {bs nx:Nat} {sub ob:Tr Ob} : ∀ (f:Nat) (todo:List Nat) (seen:Tr Ob) (l:List (Nat × Ob)) {l':List (Nat × Ob)},hJ bs nx sub ob f todo seen l=some l'->zV bs nx sub ob todo seen l ->
  (∃ seen',zV bs nx sub ob [] seen' l')/\(∀ k∈todo,(sub.get k).isSome=true\/k∈yA l') /\ ∀ k∈yA l,k∈yA l'
 | 0,_,_,_,_,h,_=>by cases h
 | f+1,[],seen,l,_,h,hr=>by cases h;exact⟨⟨seen,hr⟩,by simp,λ k hk=>hk⟩
 | f+1,n::r,seen,l,l',h,hr=>by
  unfold hJ at h;have hskip:((sub.get n).isSome=true\/n∈yA l)->hJ bs nx sub ob f r seen l=some l'->(∃ seen',zV bs nx sub ob [] seen' l')/\(∀ k∈n::r,(sub.get k).isSome=true\/k∈yA l') /\ ∀ k∈yA l,k∈yA l':=by
   intro hn h;obtain⟨h1,h2,h3⟩:=jV f r seen l h ⟨λ m o hm=>⟨(hr.ent m o hm).1,(hr.ent m o hm).2.1,(hr.ent m o hm).2.2.1,λ k hk=>by
    rcases (hr.ent m o hm).2.2.2 k hk with h4|h4|h4
    ·exact .inl h4
    ·exact .inr (.inl h4)
    ·rcases List.mem_cons.1 h4 with rfl|h4
     ·rcases hn with hn|hn
      ·exact .inl hn
      ·exact .inr (.inl hn)
     ·exact .inr (.inr h4)⟩,hr.seen⟩
   refine⟨h1,λ k hk => ?_,h3⟩;rcases List.mem_cons.1 hk with rfl|hk
   ·rcases hn with hn|hn
    ·exact .inl hn
    ·exact .inr (h3 _ hn)
   ·exact h2 k hk
  cases e:Nat.blt n bs with
  | true =>
   rw [e] at h;simp only [cond_true] at h;split at h
   ·rename_i o ho;exact hskip (.inl (by rw [ho];rfl)) h
   ·cases h
  | false =>
   rw [e] at h;simp only [cond_false] at h;rw [OG] at e;have hnb:¬ n<bs:=of_decide_eq_false e;split at h
   ·rename_i o ho;exact hskip (.inr (hr.seen n (by rw [ho];rfl))) h
   ·split at h
    ·cases h
    ·rename_i hs o ho;obtain⟨h1,h⟩:=SA h;have hn:=GE h1;obtain⟨h2,h3,h4⟩:=jV f (o.names++r) (seen.put n (some o)) ((n,o)::l) h (by
      refine⟨λ m q hm => ?_,λ m hm => ?_⟩
      ·rcases List.mem_cons.1 hm with e1|e1
       ·cases e1;exact⟨by omega,hn,ho,λ k hk => .inr (.inr (by simp [hk]))⟩
       ·obtain⟨a,b,c,d⟩:=hr.ent m q e1;refine⟨a,b,c,λ k hk => ?_⟩;rcases d k hk with h5|h5|h5
        ·exact .inl h5
        ·exact .inr (.inl (by simp only [yA,List.map_cons,List.mem_cons];exact .inr h5))
        ·rcases List.mem_cons.1 h5 with rfl|h5
         ·exact .inr (.inl (by simp [yA]))
         ·exact .inr (.inr (by simp [h5]))
      ·rw [Tr.get_put] at hm;simp only [yA,List.map_cons,List.mem_cons];by_cases e1:m=n
       ·exact .inl e1
       ·rw [if_neg e1] at hm;exact .inr (hr.seen m hm))
     refine⟨h2,λ k hk => ?_,λ k hk=>h4 k (by simp only [yA,List.map_cons,List.mem_cons];exact .inr hk)⟩;rcases List.mem_cons.1 hk with rfl|hk
     ·exact .inr (h4 _ (by simp [yA]))
     ·exact h3 k (by simp [hk])
theorem GO:∀ {l u:List Nat},(∀ n∈l,n∈u)->vJ l u
 | [],_,_=>trivial
 | n::r,u,h=>⟨h n (by simp),GO λ m hm=>h m (by simp [hm])⟩
theorem jR:∀ {l u:List (Nat × Ob)},(∀ p∈l,jA u p.1=some p.2)->MC l u
 | [],_,_=>trivial
 | (n,o)::r,u,h=>⟨h (n,o) (by simp),jR λ m hm=>h m (by simp [hm])⟩
theorem mem_mentO {l:List (Nat × Ob)} {n:Nat} : n∈aC l ↔ ∃ p∈l,n∈p.2.names:=by
 induction l with
 | nil=>simp [aC]
 | cons p r ih=>obtain⟨k,o⟩:=p;simp [aC,ih]
theorem mem_namesOb {l:List (Nat × Ob)} {n:Nat} : n∈fE l↔n∈yA l\/n∈aC l:=by
 induction l with
 | nil=>simp [fE,yA,aC]
 | cons p r ih =>
  obtain⟨k,o⟩:=p;have hk:yA ((k,o)::r)=k::yA r:=rfl;simp only [fE,aC,List.mem_cons,List.mem_append,ih,hk]
  grind
theorem nE (a b:List (Nat × Ob)):yA (a++b)=yA a++yA b:=by simp [yA]
theorem keysO_mem {l:List (Nat × Ob)} {n:Nat} : n∈yA l ↔ ∃ o,(n,o)∈l:=by
 simp only [yA,List.mem_map];constructor
 ·rintro⟨⟨k,o⟩,h,rfl⟩;exact⟨o,h⟩
 ·rintro⟨o,h⟩;exact⟨(n,o),h,rfl⟩
theorem pJ {l:List (Nat × Ob)} {n:Nat} {o:Ob} (h:jA l n=some o):(n,o)∈l:=by
 induction l with
 | nil=>cases h
 | cons p r ih =>
  obtain⟨k,x⟩:=p;simp only [jA] at h;split at h
  ·rename_i e;cases h;subst e;simp
  ·exact List.mem_cons_of_mem _ (ih h)
theorem bZ {l:List (Nat × Ob)} {n:Nat} (h:n ∉ yA l):jA l n=none:=by
 cases e:jA l n with
 | none=>rfl
 | some o=>exact absurd (VC e) h
theorem dZ {l:List (Nat × Ob)} {G:Nat->Option Ob} (h:∀ n o,(n,o)∈l->G n=some o) (n:Nat):(n∈yA l->jA l n=G n):=by
 intro hn;obtain⟨o,ho⟩:=nH hn;rw [ho,h n o (pJ ho)]
def pick (sub:Tr Ob) (l:List Nat):List (Nat × Ob):=l.filterMap λ n=>(sub.get n).map λ o=>(n,o)
theorem mem_pick {sub:Tr Ob} {l:List Nat} {n:Nat} {o:Ob} : (n,o)∈pick sub l↔n∈l/\sub.get n=some o:=by
 simp only [pick,List.mem_filterMap,Option.map_eq_some_iff,Prod.mk.injEq];constructor
 ·rintro⟨m,hm,q,hq,rfl,rfl⟩;exact⟨hm,hq⟩
 ·rintro⟨h1,h2⟩;exact⟨n,h1,o,h2,rfl,rfl⟩
theorem vV:∀ (l:List Nat) (seen:Tr Ob) (n:Nat),n∈l->(seen.get n).isSome=true\/n∈vL l seen
 | [],_,_,h=>by cases h
 | m::r,seen,n,h=>by
  unfold vL;rcases List.mem_cons.1 h with rfl|h
  ·cases e:seen.get n with
   | some o=>exact .inl rfl
   | none=>exact .inr (by simp)
  ·cases e:seen.get m with
   | some o=>exact vV r seen n h
   | none =>
    simp only;rcases vV r (seen.put m (some (.box []))) n h with h1|h1
    ·rw [Tr.get_put] at h1;by_cases e1:n=m
     ·exact .inr (by simp [e1])
     ·rw [if_neg e1] at h1;exact .inl h1
    ·exact .inr (by simp [h1])
theorem kV:∀ (l:List Nat) (seen:Tr Ob) (n:Nat),n∈vL l seen->n∈l
 | [],_,_,h=>by cases h
 | m::r,seen,n,h=>by
  unfold vL at h;split at h
  ·exact List.mem_cons_of_mem _ (kV r seen n h)
  ·rcases List.mem_cons.1 h with rfl|h
   ·simp
   ·exact List.mem_cons_of_mem _ (kV r _ n h)
theorem fZ {ob:Tr Ob} : ∀ {l:List Nat} {ch:List (Nat × Ob)},WQ ob l=some ch->yA ch=l /\ ∀ n o,(n,o)∈ch->ob.get n=some o
 | [],ch,h=>by cases h;exact⟨rfl,by simp⟩
 | m::r,ch,h=>by
  unfold WQ at h;split at h
  ·rename_i o ho;split at h
   ·rename_i l hl;cases h;obtain⟨h1,h2⟩:=fZ hl;refine⟨by simp [yA] at h1 ⊢;exact h1,λ n q hm => ?_⟩;rcases List.mem_cons.1 hm with e|hm
    ·cases e;exact ho
    ·exact h2 n q hm
   ·cases h
  ·cases h
theorem mem_chNames {l:List (Nat × Ob)} {n:Nat} : n∈xO l↔n∈aC l:=by
 induction l with
 | nil=>simp [xO,aC]
 | cons p r ih=>obtain⟨k,o⟩:=p;simp [xO,aC,ih]
def AE.x:AE->AB
 | .normal => .normal
 | .exit i => .exit i
 | .ret => .ret
def KQ (k:AE->IS->Option eB) (r:eB) (bs:Nat) (sub:Tr Ob):AB->St->Prop:=λ ae σ' => ∃ e s',ae=AE.x e/\Rel s' σ'/\Inv bs sub s'/\k e s'=some r
structure Good (ev:wB) (P:Program) (run:BO):Prop where
 syn:∀ (nt bs:Nat) (c:Code) (s:IS) (k:AE->IS->Option eB) (r:eB),run nt bs c s k=some r->∀ (sub:Tr Ob),Inv bs sub s->∃ e s',Inv bs sub s'/\k e s'=some r
 awp:∀ (nt bs:Nat) (c:Code) (s:IS) (k:AE->IS->Option eB) (r:eB),run nt bs c s k=some r ->
  ∀ (X:PA),X.P=P->X.T=ev.T->X.gl=ev.gl->X.nt=nt->(∀ n∈X.given,n<bs)->∀ (sub:Tr Ob) (σ:St),Rel s σ->Inv bs sub s->AWP X c σ (KQ k r bs sub)
structure rJ (ev:wB) (P:Program):Prop where
 T:xB P ev.T
 F : ∀ f fn, ev.F f = some fn -> P.funcs[f]? = some fn /\ (fn.name == "runtime.NumGoroutine") = false
 intr:∀ f args x,ev.intr f args=some x->AC P ev.gl f args [] (.ret x) []
 mix:P.follows .mixedOrders=true
theorem Mi {X:PA} {T:Nat->Option TI} (hT:X.T=T) {s:IS} {σ:St} (hR:Rel s σ) (v:ResultVar):AO T s v=wJ X σ v:=by
 cases v with
 | tmp t=>simp only [AO,wJ,hR.sl];all_goals (cases s.sl.get t<;>rfl)
 | cell a t =>
  simp only [AO,wJ,hR.sl,hT]
  cases s.sl.get a with
  | none=>cases T t<;>rfl
  | some v =>
   cases T t with
   | none=>rfl
   | some ti =>
    cases v<;>try rfl
    simp only [hR.ob];rfl
theorem gZ {X:PA} {T:Nat->Option TI} (hT:X.T=T) {s:IS} {σ:St} (hR:Rel s σ):∀ (l:List ResultVar),XQ T s l=jI X σ l
 | []=>rfl
 | r::rs=>by
  simp only [XQ,jI];rw [Mi hT hR,gZ hT hR rs];cases wJ X σ r<;>cases jI X σ rs<;>rfl
theorem lZ:∀ (xs:List V) (k:Nat) (t:Tr V) (i:Nat),(mF k xs t).get i=if k<=i/\i<k+xs.length then xs[i-k]? else t.get i
 | [],k,t,i=>by
  have:¬ (k<=i/\i<k+0):=by omega
  simp [mF];omega
 | x::xs,k,t,i=>by
  simp only [mF];rw [lZ xs (k+1)];rw [Tr.get_put];simp only [List.length_cons];by_cases h:k+1<=i/\i<k+1+xs.length
  ·rw [if_pos h,if_pos (by omega)];have:i-k=(i-(k+1))+1:=by omega
   rw [this];rfl
  ·rw [if_neg h];by_cases e:i=k
   ·subst e;rw [if_pos rfl,if_pos (by omega)];simp
   ·rw [if_neg e,if_neg (by omega)]
structure Called (P:Program) (gl:Nat->Option (List PV)) (s:IS) (f:Nat) (args:List V) (r:eB) (ks:List Nat) (ro o1:List (Nat × Ob)):Prop where
 ac:AC P gl f args (ro++o1) (.ret r.x) (ro++(r.ch++r.nw))
 apart:∀ n∈yA ro,n ∉ yA o1/\n ∉ yA (r.ch++r.nw)
 subs:∀ p∈ro++o1,s.ob.get p.1=some p.2
 kss:∀ n∈yA ro++yA o1,n∈ks
 inch:∀ n∈yA o1,n∈yA r.ch
 gfn:∃ G:Nat->Option Ob,∀ n o,(n,o)∈r.ch++r.nw->G n=some o
 chs:∀ n∈yA r.ch,n<s.nx/\(s.ob.get n).isSome=true/\n∈yA o1
 nws:∀ n∈yA r.nw,s.nx<=n/\n<r.nx
 le:s.nx<=r.nx
 all:∀ n∈ks,n∈yA (ro++o1)
theorem vR {ev:wB} {P:Program} {run:BO} (hg:Good ev P run) (he:rJ ev P) {f:Nat} {fn:Func} {c:Code} (hf:ev.F f=some fn) (hb:fn.body=some c) {args:List V} (hal:args.length<=fn.ntmps) {s:IS} {sub:Tr Ob} {ks:List Nat}
  (hrc:reach s.nx s.ob 1000000 (EA args) .nil []=some (sub,ks)) {r:eB} (hr:oM ev run fn c args s.nx sub=some r):∃ ro o1,Called P ev.gl s f args r ks ro o1:=by
 obtain⟨hrd,hargs⟩:=zR _ _ _ _ hrc ⟨λ n o h=>(by cases h),(by simp)⟩;obtain⟨hPf,hname⟩:=he.F f fn hf
 -- the objects that are given
 have hroD:∀ n,n∈yA (pick sub (ks.filter λ n => !CC (yA r.ch) n))↔(sub.get n).isSome=true/\n ∉ yA r.ch:=by
  intro n;rw [keysO_mem];constructor
  ·rintro⟨o,h⟩
   obtain⟨h1,h2⟩:=mem_pick.1 h;refine⟨by rw [h2];rfl,λ hc => ?_⟩;rw [List.mem_filter,(SF _ _).2 hc] at h1;simp at h1
  ·rintro⟨h1,h2⟩
   obtain⟨o,ho⟩:=Option.isSome_iff_exists.1 h1;refine⟨o,mem_pick.2 ⟨List.mem_filter.2 ⟨(hrd.get n o ho).2.2.1,?_⟩,ho⟩⟩
   cases e:CC (yA r.ch) n with
   | false=>rfl
   | true=>exact absurd ((SF _ _).1 e) h2
 have ho1D:∀ n,n∈yA (pick sub (ks.filter λ n=>CC (yA r.ch) n))↔(sub.get n).isSome=true/\n∈yA r.ch:=by
  intro n;rw [keysO_mem];constructor
  ·rintro⟨o,h⟩
   obtain⟨h1,h2⟩:=mem_pick.1 h;exact⟨by rw [h2];rfl,(SF _ _).1 (List.mem_filter.1 h1).2⟩
  ·rintro⟨h1,h2⟩
   obtain⟨o,ho⟩:=Option.isSome_iff_exists.1 h1;exact⟨o,mem_pick.2 ⟨List.mem_filter.2 ⟨(hrd.get n o ho).2.2.1,(SF _ _).2 h2⟩,ho⟩⟩
 generalize hro:pick sub (ks.filter λ n => !CC (yA r.ch) n)=ro at hroD;generalize ho1:pick sub (ks.filter λ n=>CC (yA r.ch) n)=o1 at ho1D;have hent:∀ n o,(n,o)∈ro++o1->sub.get n=some o:=by
  intro n o h;rcases List.mem_append.1 h with h|h
  ·rw [<- hro] at h;exact (mem_pick.1 h).2
  ·rw [<- ho1] at h;exact (mem_pick.1 h).2
 have hkey:∀ n,n∈yA (ro++o1)↔(sub.get n).isSome=true:=by
  intro n;rw [nE,List.mem_append,hroD,ho1D];by_cases h:n∈yA r.ch<;>simp [h]
 have hget:∀ n,jA (ro++o1) n=sub.get n:=by
  intro n;by_cases h:n∈yA (ro++o1)
  ·exact dZ hent n h
  ·rw [bZ h];rw [hkey] at h
   cases e:sub.get n with
   | none=>rfl
   | some o=>rw [e] at h;exact absurd rfl h
 generalize hms:((EA args++aC (ro++o1)).filter λ n => !CC (yA (ro++o1)) n)=ms;have hmsD:∀ n,n∈ms↔(n∈EA args\/n∈aC (ro++o1))/\n ∉ yA (ro++o1):=by
  intro n;rw [<- hms,List.mem_filter,List.mem_append]
  cases e:CC (yA (ro++o1)) n with
  | true=>have:=(SF _ _).1 e;simp [this]
  | false =>
   have:n ∉ yA (ro++o1):=λ h=>by rw [(SF _ _).2 h] at e;cases e
   simp [this]
 have hsubN:∀ n o,sub.get n=some o->n<s.nx /\ ∀ k∈o.names,k<s.nx:=by
  intro n o h;obtain⟨_,h1,_,h2⟩:=hrd.get n o h;exact⟨h1,λ k hk=>by rcases h2 k hk with h3|h3<;>first|exact h3|cases h3⟩
 have hmsL:∀ n∈ms,n<s.nx:=by
  intro n hn;obtain⟨h1,_⟩:=(hmsD n).1 hn;rcases h1 with h1|h1
  ·exact hargs n h1
  ·obtain⟨p,hp,hn'⟩:=mem_mentO.1 h1;exact (hsubN p.1 p.2 (hent p.1 p.2 hp)).2 n hn'
 let X:PA:=⟨P,ev.T,ev.gl,[],fn.ntmps,yA (ro++o1)++ms,he.T,he.mix⟩;have hR0:Rel ⟨mF 0 args .nil,sub,s.nx,[]⟩ ⟨LG 0 args,ro++o1,yA (ro++o1)++ms⟩:=by
  refine⟨λ t => ?_,hget,λ n hn => ?_⟩
  ·simp only;rw [pU,lZ];simp only [Nat.zero_le,if_true,Nat.sub_zero,true_and,Nat.zero_add,Tr.get_nil];by_cases h:t<args.length
   ·rw [if_pos h];simp [List.getD,List.getElem?_eq_getElem h]
   ·rw [if_neg h];simp [List.getD,List.getElem?_eq_none (by omega:args.length<=t)]
  ·rcases List.mem_append.1 hn with hn|hn
   ·obtain⟨o,ho⟩:=Option.isSome_iff_exists.1 ((hkey n).1 hn);exact (hsubN n o ho).1
   ·exact hmsL n hn
 have hI0:Inv s.nx sub ⟨mF 0 args .nil,sub,s.nx,[]⟩:=⟨Nat.le_refl _,λ _ _ _=>rfl,λ _ _ h=>h,hsubN,by simp⟩;have hA:=hg.awp fn.ntmps s.nx c _ _ r hr X rfl rfl rfl rfl hR0.us sub _ hR0 hI0
 -- the end
 have hend:∀ ae σ',KQ (iM ev.T s.nx sub fn.results.toList) r s.nx sub ae σ'->(∃ σ'',Wk σ' σ''/\((ae = .normal\/ae = .ret)/\mM X σ'' fn.results.toList (.ret r.x)/\(∃ s'',Rel s'' σ''/\Inv s.nx sub s''/\mJ ev.T s.nx sub fn.results.toList s''=some r))) /\ ∀ p,ae ≠ .panic p:=by
  rintro ae σ' ⟨e,s',rfl,hR',hI',hk⟩
  have hfin:mJ ev.T s.nx sub fn.results.toList (lJ ev.T s.nx fn.results.toList s')=some r->∃ σ'',Wk σ' σ''/\(mM X σ'' fn.results.toList (.ret r.x)/\(∃ s'',Rel s'' σ''/\Inv s.nx sub s''/\mJ ev.T s.nx sub fn.results.toList s''=some r)):=by
   intro hk;obtain⟨σ'',h1,h2⟩:=ZU (T:=ev.T) (bs:=s.nx) fn.results.toList hR';have h3:=EO (T:=ev.T) fn.results.toList hI';refine⟨σ'',h1,?_,_,h2,h3,hk⟩;unfold mJ at hk;split at hk
   ·rename_i xs hxs;rw [gZ (X:=X) rfl h2] at hxs;split at hk
    ·split at hk
     ·cases hk;simp only [mM,CQ,hxs,Option.map_some]
     ·cases hk
    ·cases hk
   ·cases hk
  cases e with
  | exit i=>cases hk
  | normal =>
   obtain⟨σ'',h1,h2⟩:=hfin hk;exact⟨⟨σ'',h1,.inl rfl,h2⟩,by simp [AE.x]⟩
  | ret =>
   obtain⟨σ'',h1,h2⟩:=hfin hk;exact⟨⟨σ'',h1,.inr rfl,h2⟩,by simp [AE.x]⟩
 -- what the last state says of the result; it does not depend on the world
 have hlast:∀ s'',Inv s.nx sub s''->mJ ev.T s.nx sub fn.results.toList s''=some r ->
   (∀ n∈yA r.ch,n∈s''.dt)/\(∀ n∈s''.dt,n∈yA r.ch)/\(∀ n o,(n,o)∈r.ch++r.nw->s''.ob.get n=some o)/\(∀ n∈yA r.nw,s.nx<=n/\n<r.nx)/\s.nx<=r.nx /\
   ∀ k,k∈r.x.names\/k∈aC (r.ch++r.nw)->(sub.get k).isSome=true\/k∈yA r.nw:=by
  intro s'' hI'' hk;unfold mJ at hk;split at hk
  ·rename_i xs hxs;split at hk
   ·rename_i ch hch;split at hk
    ·rename_i nw hnw;cases hk;obtain⟨hck,hce⟩:=fZ hch;obtain⟨⟨seen',hN⟩,hT1,_⟩:=jV _ _ _ _ hnw ⟨(by simp),(by intro n h;cases h)⟩;refine⟨λ n hn => ?_,λ n hn => ?_,λ n o hm => ?_,λ n hn => ?_,hI''.le,λ k hk => ?_⟩
     ·rw [hck] at hn;exact kV _ _ n hn
     ·rw [hck];rcases vV s''.dt .nil n hn with h|h
      ·cases h
      ·exact h
     ·rcases List.mem_append.1 hm with hm|hm
      ·exact hce n o hm
      ·exact (hN.ent n o hm).2.2.1
     ·obtain⟨o,ho⟩:=keysO_mem.1 hn;exact⟨(hN.ent n o ho).1,(hN.ent n o ho).2.1⟩
     ·rcases hk with hk|hk
      ·exact hT1 k (by simp [hk])
      ·obtain⟨p,hp,hkp⟩:=mem_mentO.1 hk;rcases List.mem_append.1 hp with hp|hp
       ·exact hT1 k (by rw [List.mem_append];exact .inr (mem_chNames.2 (mem_mentO.2 ⟨p,hp,hkp⟩)))
       ·rcases (hN.ent p.1 p.2 hp).2.2.2 k hkp with h|h|h
        ·exact .inl h
        ·exact .inr h
        ·cases h
    ·cases hk
   ·cases hk
  ·cases hk
 obtain⟨e0,s0,hI1,hk1⟩:=hg.syn fn.ntmps s.nx c _ _ r hr sub hI0;have hk2:mJ ev.T s.nx sub fn.results.toList (lJ ev.T s.nx fn.results.toList s0)=some r:=by
  cases e0 with
  | exit i=>cases hk1
  | normal=>exact hk1
  | ret=>exact hk1
 obtain⟨l1,l2,l3,l4,l5,l6⟩:=hlast _ (EO (T:=ev.T) fn.results.toList hI1) hk2;have hI2:=EO (T:=ev.T) (bs:=s.nx) fn.results.toList hI1;have hchsub:∀ n∈yA r.ch,(sub.get n).isSome=true:=by
  intro n hn;obtain⟨o,ho⟩:=keysO_mem.1 hn;have h1:=l3 n o (by simp [ho]);refine hI2.old n ?_ (by rw [h1];rfl);exact hI2.dts n (l1 n hn)
 have hro':∀ n∈yA ro,n ∉ yA o1/\n ∉ yA (r.ch++r.nw):=by
  intro n hn;obtain⟨h1,h2⟩:=(hroD n).1 hn;refine⟨λ h=>h2 ((ho1D n).1 h).2,λ h => ?_⟩;rw [nE,List.mem_append] at h;rcases h with h|h
  ·exact h2 h
  ·obtain⟨o,ho⟩:=Option.isSome_iff_exists.1 h1;have:=(hsubN n o ho).1;have:=(l4 n h).1;omega
 refine⟨ro,o1,⟨?_,hro',?_,?_,λ n hn=>((ho1D n).1 hn).2,⟨_,l3⟩,?_,l4,l5,λ n hn=>(hkey n).2 (hrd.mem n hn)⟩⟩
 ·refine AC.of_body (X:=X) he.T hPf hb hname rfl (ms:=ms) rfl hal (GO λ n hn => ?_) (λ n hn=>((hmsD n).1 hn).2) (λ n hn h => ?_) (GO λ n hn => ?_) (GO λ n hn => ?_) ?_
  ·rw [bE,List.mem_append];exact ((hmsD n).1 hn).1
  ·rw [nE,List.mem_append,nE,List.mem_append] at h;have h0:=((hmsD n).1 hn).2;rw [nE,List.mem_append] at h0;rcases h with h|h|h
   ·exact h0 (.inl h)
   ·exact h0 (.inr ((ho1D n).2 ⟨hchsub n h,h⟩))
   ·have:=(l4 n h).1;have:=hmsL n hn;omega
  ·rw [List.mem_append] at hn ⊢;by_cases hk:n∈yA (ro++o1)
   ·exact .inl hk
   ·refine .inr ((hmsD n).2 ⟨?_,hk⟩);rcases hn with hn|hn
    ·exact .inl hn
    ·rcases mem_namesOb.1 hn with h|h
     ·exact absurd h hk
     ·exact .inr h
  ·rw [List.mem_append] at hn;simp only [List.mem_append];have hme:n∈r.x.names\/n∈aC (r.ch++r.nw)->(n∈yA (ro++o1)\/n∈ms)\/n∈yA (ro++(r.ch++r.nw)):=by
    intro h;rcases l6 n h with h|h
    ·exact .inl (.inl ((hkey n).2 h))
    ·refine .inr ?_;rw [nE,nE,List.mem_append,List.mem_append];exact .inr (.inr h)
   rcases hn with hn|hn
   ·exact hme (.inl hn)
   ·rcases mem_namesOb.1 hn with h|h
    ·exact .inr h
    ·obtain⟨p,hp,hkp⟩:=mem_mentO.1 h;rcases List.mem_append.1 hp with hp|hp
     ·by_cases hk:n∈yA (ro++o1)
      ·exact .inl (.inl hk)
      ·exact .inl (.inr ((hmsD n).2 ⟨.inr (mem_mentO.2 ⟨p,by simp [hp],hkp⟩),hk⟩))
     ·exact hme (.inr (mem_mentO.2 ⟨p,hp,hkp⟩))
  ·refine AWP.post hA λ ae σ' hq => ?_
   obtain⟨⟨σ'',h1,h2,h3,s'',h4,h5,h6⟩,h7⟩:=hend ae σ' hq;refine⟨⟨σ'',h1,?_⟩,h7⟩;obtain⟨m1,m2,m3,_⟩:=hlast s'' h5 h6;have hsub:MC (ro++(r.ch++r.nw)) σ''.objs:=by
    refine jR λ p hp => ?_
    rw [h4.ob];rcases List.mem_append.1 hp with hp|hp
    ·have h8:=(hroD p.1).1 (keysO_mem.2 ⟨p.2,hp⟩);have h9:=hent p.1 p.2 (by simp [hp]);rw [h5.same p.1 (hsubN p.1 p.2 h9).1 (λ hd=>h8.2 (m2 p.1 hd))];exact h9
    ·exact m3 p.1 p.2 hp
   rcases h2 with rfl|rfl
   ·exact⟨h3,hsub⟩
   ·exact⟨h3,hsub⟩
 ·intro p hp;exact (hrd.get p.1 p.2 (hent p.1 p.2 hp)).1
 ·intro n hn;rw [<- nE] at hn;obtain⟨o,ho⟩:=Option.isSome_iff_exists.1 ((hkey n).1 hn);exact (hrd.get n o ho).2.2.1
 ·intro n hn;have h1:=hchsub n hn;obtain⟨o,ho⟩:=Option.isSome_iff_exists.1 h1;refine⟨(hsubN n o ho).1,?_,(ho1D n).2 ⟨h1,hn⟩⟩;rw [(hrd.get n o ho).1];rfl
theorem Ni {o:Option V} {r:RB} (h:ro o=some r):r.wr=none:=by
 obtain⟨v,_,rfl⟩:=DD h;rfl
theorem Oi {x:V} {r:RB} (h:rb x=some r):r.wr=none:=by cases h;rfl
theorem Pi {ti:TI} {ob:Nat->Option Ob} {x y:V} {r:RB} (h:ZK ti ob x y=some r) {n:Nat} {o:Ob} (hw:r.wr=some (n,o)):(ob n).isSome=true:=by
 unfold ZK at h;split at h
 ·cases h
 ·replace h:=(SA h).2;replace h:=(SA h).2;split at h
  ·split at h
   ·rename_i eo;split at h
    ·cases h;cases hw;rw [eo];rfl
    ·cases h
   ·cases h
  ·split at h
   ·rename_i eo;replace h:=(SA h).2;replace h:=(SA h).2;split at h
    ·cases h;cases hw;rw [eo];rfl
    ·cases h
   ·cases h
  ·obtain⟨_,_,_,_,_,_,rfl⟩:=WY h;cases hw
  ·cases h
theorem Qi {e:Nat} {te:TI} {ob:Nat->Option Ob} {nx:Nat} {x y:V} {r:RB} (h:qL e te ob nx x y=some r) {n:Nat} {o:Ob} (hw:r.wr=some (n,o)) (hn:r.new=false):(ob n).isSome=true:=by
 unfold qL at h;split at h
 ·split at h
  ·rename_i eo ey;replace h:=(SA h).2;cases h;cases hw;rw [eo];rfl
  ·cases h
 ·split at h
  ·replace h:=(SA h).2;cases h;cases hw
  ·cases h
 ·split at h
  ·replace h:=(SA h).2;cases h;cases hn
  ·cases h
 ·cases h
theorem Ri {e:Nat} {te:TI} {nx len:Nat} {es:List (List V)} {r:RB} (h:cO e te nx len es=some r) {n:Nat} {o:Ob} (hw:r.wr=some (n,o)) (hn:r.new=false):False:=by
 unfold cO at h;replace h:=(SA h).2;split at h
 ·cases h;cases hw
 ·cases h;cases hn
theorem Si {T:Nat->Option TI} {nx:Nat} {val:Operand->V} {ob:Nat->Option Ob} {dst:Option Nat} {op:Op} {r:RB} (h:bD T nx val ob dst op=some r) {n:Nat} {o:Ob} (hw:r.wr=some (n,o)) (hn:r.new=false):(ob n).isSome=true:=by
 have h1:∀ {x:V},rb x=some r->(ob n).isSome=true:=λ h=>by rw [Oi h] at hw;cases hw
 have h2:∀ {x:Option V},ro x=some r->(ob n).isSome=true:=λ h=>by rw [Ni h] at hw;cases hw
 unfold bD at h;split at h
 ·exact h1 h
 ·exact h1 h
 ·split at h
  ·exact h1 h
  ·exact h1 h
  ·cases h
 ·unfold DU at h;split at h
  ·cases h;cases hn
  ·cases h
 ·unfold EU at h;split at h
  ·replace h:=(SA h).2;cases h;cases hn
  ·cases h
 ·exact h2 h
 ·split at h
  ·exact h1 h
  ·split at h
   ·exact h1 h
   ·cases h
 ·split at h
  ·split at h
   ·split at h
    ·exact (Ri h hw hn).elim
    ·cases h
   ·cases h
  ·cases h
 ·split at h
  ·exact h2 h
  ·cases h
 ·split at h
  ·split at h
   ·exact Pi h hw
   ·cases h
  ·cases h
 ·exact h2 h
 ·split at h
  ·exact h2 h
  ·cases h
 ·split at h
  ·exact h1 h
  ·cases h
 ·split at h
  ·split at h
   ·rename_i ti et _ p ep
    cases e:ti.k.isIface with
    | true=>rw [e] at h;cases h
    | false=>rw [e] at h;exact h1 h
   ·cases h
  ·cases h
 ·exact h2 h
 ·exact h2 h
 ·exact h2 h
 ·exact h2 h
 ·split at h
  ·unfold UQ at h;split at h
   ·cases h;cases hn
   ·cases h
  ·cases h
 ·exact (qZ h).2.2 n o hw
 ·split at h
  ·exact h2 h
  ·cases h
 ·exact h2 h
 ·split at h
  ·rename_i ti et
   cases e:ti.k.isIface with
   | true=>rw [e] at h;cases h
   | false=>rw [e] at h;exact h2 h
  ·cases h
 ·split at h
  ·cases h;cases hn
  ·cases h
 ·split at h
  ·split at h
   ·obtain⟨_,_,n',⟨o',ho'⟩,hs⟩:=SQ h;rw [ho'] at hw;cases hw;exact hs
   ·cases h
  ·cases h
 ·split at h
  ·split at h
   ·obtain⟨_,_,n',⟨o',ho'⟩,hs⟩:=SQ h;rw [ho'] at hw;cases hw;exact hs
   ·cases h
  ·cases h
 ·split at h
  ·split at h
   ·split at h
    ·exact h2 h
    ·cases h
   ·cases h
  ·cases h
 ·split at h
  ·split at h
   ·exact h2 h
   ·cases h
  ·exact h2 h
  ·cases h
 ·split at h
  ·split at h
   ·exact h2 h
   ·exact h2 h
   ·cases h
  ·cases h
 ·split at h
  ·replace h:=(SA h).2;split at h
   ·split at h
    ·exact Qi h hw hn
    ·cases h
   ·cases h
  ·cases h
 ·split at h
  ·split at h
   ·exact h1 h
   ·cases h
  ·cases h
 ·cases h
theorem mZ {bs n m:Nat} {l:List Nat} (h:m∈gJ bs n l):(m=n/\n<bs)\/m∈l:=by
 unfold gJ at h
 cases e:Nat.blt n bs with
 | true=>rw [e] at h;rcases List.mem_cons.1 h with h|h<;>first|exact .inl ⟨h,GE e⟩|exact .inr h
 | false=>rw [e] at h;exact .inr h
theorem nZ {bs n m:Nat} {l:List Nat} (h:m∈l):m∈gJ bs n l:=by
 unfold gJ;cases Nat.blt n bs
 ·exact h
 ·exact List.mem_cons_of_mem _ h
theorem pZ {bs n:Nat} {l:List Nat} (h:n<bs):n∈gJ bs n l:=by
 unfold gJ;rw [OG,decide_eq_true h];simp
theorem Inv.slot {bs:Nat} {sub:Tr Ob} {s:IS} (h:Inv bs sub s) (t:Tr V):Inv bs sub ⟨t,s.ob,s.nx,s.dt⟩:=⟨h.le,h.same,h.old,h.names,h.dts⟩
theorem rZ {bs:Nat} {sub:Tr Ob} {s:IS} (h:Inv bs sub s) {r:RB} (hn:r.new=true) (hnx:∃ o,r.wr=some (s.nx,o)) (d:Option Nat):Inv bs sub (s.app bs d r):=by
 obtain⟨o,hw⟩:=hnx;unfold IS.app;rw [hw,hn];refine⟨Nat.le_succ_of_le h.le,λ m hm hd => ?_,λ m hm hs => ?_,h.names,h.dts⟩
 ·have:=h.le;show (s.ob.put s.nx (some o)).get m=_;rw [Tr.get_put,if_neg (by omega)];exact h.same m hm hd
 ·have:=h.le;have hs:((s.ob.put s.nx (some o)).get m).isSome=true:=hs;rw [Tr.get_put,if_neg (by omega)] at hs;exact h.old m hm hs
theorem Ti {bs:Nat} {sub:Tr Ob} {s:IS} (h:Inv bs sub s) {T:Nat->Option TI} {val:Operand->V} {dst:Option Nat} {op:Op} {r:RB} (hr:bD T s.nx val s.ob.get dst op=some r) (d:Option Nat):Inv bs sub (s.app bs d r):=by
 unfold IS.app
 cases hw:r.wr with
 | none=>exact h.slot _
 | some p =>
  obtain⟨n,o⟩:=p
  cases hn:r.new with
  | true =>
   obtain⟨note,_,hnx⟩:=kZ hr;have:=rZ h hn (hnx hn) d;unfold IS.app at this;rwa [hw,hn] at this
  | false =>
   have hsome:=Si hr hw hn;refine⟨h.le,λ m hm hd => ?_,λ m hm hs => ?_,h.names,λ m hm => ?_⟩
   ·show (s.ob.put n (some o)).get m=_;have hne:m≠n:=by rintro rfl;exact hd (pZ hm)
    rw [Tr.get_put,if_neg hne];exact h.same m hm (λ hm'=>hd (nZ hm'))
   ·have hs:((s.ob.put n (some o)).get m).isSome=true:=hs;rw [Tr.get_put] at hs;by_cases e:m=n
    ·subst e;exact h.old m hm hsome
    ·rw [if_neg e] at hs;exact h.old m hm hs
   ·rcases mZ hm with ⟨rfl,h1⟩|h1
    ·exact h1
    ·exact h.dts m h1
theorem Ui (l:List (Nat × Ob)) (n m:Nat) (o:Ob):jA (QF l [(n,some o)]) m=if m=n then some o else jA l m:=by
 simp only [QF,uU];exact BD l n m o
theorem yV {s:IS} {σ:St} (h:Rel s σ) (d:Option Nat) (x:V) (t:Nat):IA (tC d x σ.slots) t=(match (putT s.sl d x).get t with|some v=>v|none => .undef):=by
 rw [XK]
 cases d with
 | none=>simp only [putT];exact h.sl t
 | some d =>
  simp only [putT,Tr.get_put];by_cases e:d=t
  ·subst e;simp
  ·have e':¬ t=d:=λ h=>e h.symm
   rw [if_neg (by simpa using e),if_neg e'];exact h.sl t
theorem uV:∀ (l:List (Nat × Ob)) (t:Tr Ob) (G:Nat->Option Ob),(∀ n o,(n,o)∈l->G n=some o)->∀ n,(HE l t).get n=if n∈yA l then G n else t.get n
 | [],t,G,_,n=>by simp [HE,yA]
 | (k,o)::r,t,G,h,n=>by
  simp only [HE];rw [uV r _ G (λ n q hq=>h n q (by simp [hq])),Tr.get_put];have hk:yA ((k,o)::r)=k::yA r:=rfl;rw [hk];by_cases h1:n∈yA r
  ·rw [if_pos h1,if_pos (by simp [h1])]
  ·rw [if_neg h1];by_cases e:n=k
   ·subst e;rw [if_pos rfl,if_pos (by simp),h n o (by simp)]
   ·rw [if_neg e,if_neg (by simp [e,h1])]
theorem sZ {bs m:Nat} : ∀ {l:List (Nat × Ob)} {d:List Nat},m∈nJ bs l d->(m∈yA l/\m<bs)\/m∈d
 | [],d,h => .inr h
 | (n,o)::r,d,h=>by
  simp only [nJ] at h;have hk:yA ((n,o)::r)=n::yA r:=rfl;rcases sZ h with h|h
  ·exact .inl ⟨by rw [hk];simp [h.1],h.2⟩
  ·rcases mZ h with ⟨rfl,h⟩|h
   ·exact .inl ⟨by rw [hk];simp,h⟩
   ·exact .inr h
theorem bV {bs m:Nat} : ∀ {l:List (Nat × Ob)} {d:List Nat},m∈d->m∈nJ bs l d
 | [],d,h=>h
 | (n,o)::r,d,h=>by simp only [nJ];exact bV (nZ h)
theorem tZ {bs m:Nat} (hm:m<bs):∀ {l:List (Nat × Ob)} {d:List Nat},m∈yA l->m∈nJ bs l d
 | [],d,h=>by simp [yA] at h
 | (n,o)::r,d,h=>by
  simp only [nJ];have hk:yA ((n,o)::r)=n::yA r:=rfl;rw [hk] at h;rcases List.mem_cons.1 h with rfl|h
  ·exact bV (pZ hm)
  ·exact tZ hm h
section
variable {P:Program} {gl:Nat->Option (List PV)} {s:IS} {f:Nat} {args:List V} {r:eB} {ks:List Nat} {o1 ro:List (Nat × Ob)}
theorem Called.get (h:Called P gl s f args r ks ro o1) (t:Tr Ob):∃ G:Nat->Option Ob,(∀ n,(HE r.nw (HE r.ch t)).get n=if n∈yA (r.ch++r.nw) then G n else t.get n) /\ ∀ n,jA (r.ch++r.nw) n=if n∈yA (r.ch++r.nw) then G n else none:=by
 obtain⟨G,hG⟩:=h.gfn;refine⟨G,λ n => ?_,λ n => ?_⟩
 ·have hk:n∈yA (r.ch++r.nw)↔n∈yA r.ch\/n∈yA r.nw:=by rw [nE,List.mem_append]
  rw [uV r.nw _ G (λ n o ho=>hG n o (by simp [ho])),uV r.ch _ G (λ n o ho=>hG n o (by simp [ho]))];by_cases h1:n∈yA r.nw
  ·rw [if_pos h1,if_pos (hk.2 (.inr h1))]
  ·rw [if_neg h1];by_cases h2:n∈yA r.ch
   ·rw [if_pos h2,if_pos (hk.2 (.inl h2))]
   ·rw [if_neg h2,if_neg (λ h=>by rcases hk.1 h with h|h<;>contradiction)]
 ·by_cases h1:n∈yA (r.ch++r.nw)
  ·rw [if_pos h1];exact dZ hG n h1
  ·rw [if_neg h1];exact bZ h1
theorem Called.inv (h:Called P gl s f args r ks ro o1) {bs:Nat} {sub:Tr Ob} (hI:Inv bs sub s) (d:Option Nat):Inv bs sub (ZQ bs s d r):=by
 obtain⟨G,hG,_⟩:=h.get s.ob;have:=hI.le;have:=h.le;refine⟨by show bs<=r.nx;omega,λ m hm hd => ?_,λ m hm hs => ?_,hI.names,λ m hm => ?_⟩
 ·show (HE r.nw (HE r.ch s.ob)).get m=_;rw [hG,if_neg]
  ·exact hI.same m hm (λ hm'=>hd (bV hm'))
  ·rw [nE,List.mem_append]
   rintro (h1|h1)
   ·exact hd (tZ hm h1)
   ·have:=(h.nws m h1).1;omega
 ·have hs:((HE r.nw (HE r.ch s.ob)).get m).isSome=true:=hs;rw [hG] at hs;split at hs
  ·rename_i h1;rw [nE,List.mem_append] at h1;rcases h1 with h1|h1
   ·exact hI.old m hm (h.chs m h1).2.1
   ·have:=(h.nws m h1).1;omega
  ·exact hI.old m hm hs
 ·rcases sZ hm with h1|h1
  ·exact h1.2
  ·exact hI.dts m h1
theorem Called.rel (h:Called P gl s f args r ks ro o1) {σ:St} (hR:Rel s σ) (bs:Nat) (d:Option Nat):Rel (ZQ bs s d r) (σ.eff d (WK r.x ro o1 (r.ch++r.nw))):=by
 obtain⟨G,hG,hG'⟩:=h.get s.ob;refine⟨λ t=>yV hR d r.x t,λ n => ?_,λ n hn => ?_⟩
 ·show jA (QF σ.objs (pH o1 (r.ch++r.nw))) n=(HE r.nw (HE r.ch s.ob)).get n;rw [ZI,hG,hG'];by_cases h1:n∈yA (r.ch++r.nw)
  ·rw [if_pos h1,if_pos h1];have h2:=nH h1;obtain⟨o,ho⟩:=h2;rw [hG',if_pos h1] at ho;rw [ho]
  ·rw [if_neg h1,if_neg h1];simp only;rw [if_neg]
   ·exact hR.ob n
   ·intro h2;exact h1 (by rw [nE];simp [h.inch n h2])
 ·have hn:n∈(yA (r.ch++r.nw)).filter (λ n=>(jA o1 n).isNone)++σ.used:=hn;show n<r.nx;have hle:=h.le;rcases List.mem_append.1 hn with hn|hn
  ·obtain⟨h1,h2⟩:=List.mem_filter.1 hn;rw [nE,List.mem_append] at h1;rcases h1 with h1|h1
   ·have:=(h.chs n h1).1;omega
   ·exact (h.nws n h1).2
  ·have:=hR.us n hn;omega
theorem Called.op (h:Called P gl s f args r ks ro o1) {X:PA} (hP:X.P=P) (hgl:X.gl=gl) {σ:St} (hR:Rel s σ) {o:Oper} (hf:JG (σ.val X.gl) o.op=some (f,args)):OpW X o σ (WK r.x ro o1 (r.ch++r.nw)):=by
 subst hP hgl;refine OpW.callR f args ro o1 r.x (r.ch++r.nw) hf h.ac h.apart (jR λ p hp => ?_) (λ n hn hu => ?_)
 ·rw [hR.ob];exact h.subs p hp
 ·have hn:n∈(yA (r.ch++r.nw)).filter (λ n=>(jA o1 n).isNone):=hn;obtain⟨h1,h2⟩:=List.mem_filter.1 hn;rw [nE,List.mem_append] at h1;have:=hR.us n hu;rcases h1 with h1|h1
  ·obtain⟨q,hq⟩:=nH (h.chs n h1).2.2;rw [hq] at h2;cases h2
  ·have:=(h.nws n h1).1;omega
end
def HO (ev:wB) (P:Program) (call:Call):Prop:=∀ (f:Nat) (args:List V) (s:IS) (r:eB) (ks:List Nat),call f args s=some (r,ks)->∃ ro o1,Called P ev.gl s f args r ks ro o1
def uI (e:Eff) (tc:Tc):Prop:=(∀ n∈e.wn,n∈tc.wn) /\ ∀ n∈e.rd,n∈tc.rd
section
variable {ev:wB} {P:Program} {call:Call}
theorem Vi (hg:HO ev P call) {bs:Nat} {o:Oper} {s s1:IS} {tc:Tc} (h:wL ev call bs o s=some (s1,tc)) {sub:Tr Ob} (hI:Inv bs sub s):Inv bs sub s1:=by
 unfold wL at h;split at h
 ·unfold callR at h;split at h
  ·rename_i r ks hc;cases h;obtain⟨ro,o1,hC⟩:=hg _ _ _ _ _ hc;exact hC.inv hI _
  ·cases h
 ·split at h
  ·rename_i r hr;cases h;exact Ti hI hr _
  ·cases h
theorem aZ {bs:Nat} {o:Oper} {s:IS} {r:RB} {note:LC} (hG:UF (lA ev.T note (s.val ev.gl) s.ob.get o.dst o.op) r) (hnx:r.new=true->∃ o',r.wr=some (s.nx,o')) {X:PA} (hXT:X.T=ev.T) (hgl:X.gl=ev.gl) {σ:St} (hR:Rel s σ) :
  ∃ e,OpW X o σ e/\Rel (s.app bs o.dst r) (σ.eff o.dst e)/\uI e ⟨match r.wr with|some (n,_)=>[n]|none=>[],fF (s.val ev.gl) o.op⟩:=by
 obtain⟨q,hq,hc,hx,hw,hn⟩:=hG;have hval:=hR.val ev.gl;have hOW:OpW X o σ (q.eff (fF (σ.val X.gl) o.op)):=by
  refine .step note q ?_ hc λ n hnn => ?_
  ·rw [hgl,hXT,hval,hR.obf];exact hq
  ·simp only [R.eff,hw,hn] at hnn
   cases hwr:r.wr with
   | none=>rw [hwr] at hnn;simp at hnn
   | some p =>
    obtain⟨m,ob⟩:=p;rw [hwr] at hnn
    cases hnw:r.new with
    | false=>rw [hnw] at hnn;simp at hnn
    | true =>
     rw [hnw] at hnn;obtain⟨o',ho'⟩:=hnx hnw;rw [hwr] at ho';cases ho';simp at hnn;subst hnn;intro hu;exact absurd (hR.us _ hu) (Nat.lt_irrefl _)
 refine⟨_,hOW,?_,?_,?_⟩
 ·-- the state
  refine⟨λ t => ?_,λ n => ?_,λ n hnn => ?_⟩
  ·have:IA (tC o.dst q.out σ.slots) t=_:=yV hR o.dst q.out t;rw [hx] at this;show IA (tC o.dst q.out σ.slots) t=_;rw [hx,this];unfold IS.app
   cases r.wr with
   | none=>rfl
   | some p=>cases r.new<;>rfl
  ·show jA (QF σ.objs (match q.wr with|some (n,o)=>[(n,some o)]|none=>[])) n=_;rw [hw];unfold IS.app
   cases hwr:r.wr with
   | none=>exact hR.ob n
   | some p =>
    obtain⟨m,ob⟩:=p;simp only;rw [Ui,hR.ob];cases r.new<;>exact (Tr.get_put _ _ _ _).symm
  ·have hnn:n∈(match q.wr,q.new with|some (n,_),true=>[n]|_,_=>[])++σ.used:=hnn;rw [hw,hn] at hnn;unfold IS.app
   cases hwr:r.wr with
   | none=>rw [hwr] at hnn;simp at hnn;exact hR.us n hnn
   | some p =>
    obtain⟨m,ob⟩:=p;rw [hwr] at hnn
    cases hnw:r.new with
    | false=>rw [hnw] at hnn;simp at hnn;exact hR.us n hnn
    | true =>
     rw [hnw] at hnn;obtain⟨o',ho'⟩:=hnx hnw;rw [hwr] at ho';cases ho';simp at hnn;show n<Nat.succ s.nx;rcases hnn with h1|h1
     ·subst h1;exact Nat.lt_succ_self _
     ·exact Nat.lt_succ_of_lt (hR.us n h1)
 ·intro n hnn;simp only [Eff.wn,R.eff,hw] at hnn
  cases hwr:r.wr with
  | none=>rw [hwr] at hnn;simp at hnn
  | some p =>
   obtain⟨m,ob⟩:=p;rw [hwr] at hnn;simpa using hnn
 ·intro n hnn;have hnn:n∈fF (σ.val X.gl) o.op:=hnn;rw [hgl,hval] at hnn;exact hnn
theorem Wi (hg:HO ev P call) {bs:Nat} {o:Oper} {s s1:IS} {tc:Tc} (h:wL ev call bs o s=some (s1,tc)) {X:PA} (hP:X.P=P) (hXT:X.T=ev.T) (hgl:X.gl=ev.gl) {σ:St} (hR:Rel s σ) :
  ∃ e,OpW X o σ e/\Rel s1 (σ.eff o.dst e)/\uI e tc:=by
 unfold wL at h;split at h
 ·rename_i f args hf;unfold callR at h;split at h
  ·rename_i r ks hc;cases h;obtain⟨ro,o1,hC⟩:=hg _ _ _ _ _ hc;refine⟨_,hC.op hP hgl hR (by rw [hR.val,hgl];exact hf),hC.rel hR bs _,λ n hn => ?_,λ n hn => ?_⟩
   ·have hn:n∈(pH o1 (r.ch++r.nw)).map (·.1):=hn;simp only [pH,List.map_append,List.map_map,List.mem_append] at hn ⊢;rcases hn with hn|hn
    ·obtain⟨m,hm,rfl⟩:=List.mem_map.1 hn;have:=hC.inch m (List.mem_filter.1 hm).1;exact .inl this
    ·obtain⟨p,hp,rfl⟩:=List.mem_map.1 hn;rw [List.mem_reverse,List.mem_append] at hp;rcases hp with hp|hp
     ·exact .inl (List.mem_map.2 ⟨p,hp,rfl⟩)
     ·exact .inr (List.mem_map.2 ⟨p,hp,rfl⟩)
   ·exact hC.kss n hn
  ·cases h
 ·rename_i hf;split at h
  ·rename_i r hr;cases h;obtain⟨note,hG,hnx⟩:=kZ hr;exact aZ hG hnx hXT hgl hR
  ·cases h
end
end Go.Lg
