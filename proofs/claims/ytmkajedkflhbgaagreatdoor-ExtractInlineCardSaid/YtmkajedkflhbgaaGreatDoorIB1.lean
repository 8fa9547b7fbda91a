/- The engine that computes runs; no conditions. -/
import Derived.Test.YtmkajedkflhbgaaGreatDoorIA4
set_option linter.all false
namespace Go.Lg
inductive Tr (α:Type) where
 | nil
 | node (l:Tr α) (v:Option α) (r:Tr α)
theorem vE {a b:Nat} (h:a=b):Nat.beq a b=true:=by subst h;exact Nat.beq_refl a
theorem fL {a b:Nat} (h:a≠b):Nat.beq a b=false:=by
 cases e:Nat.beq a b with
 | false=>rfl
 | true=>exact absurd (Nat.eq_of_beq_eq_true e) h
def Tr.get {α:Type} : Tr α->Nat->Option α
 | .nil,_=>none
 | .node l v r,i=>bif Nat.beq i 0 then v else bif Nat.beq (Nat.mod i 2) 1 then l.get (Nat.div i 2) else r.get (Nat.pred (Nat.div i 2))
def Tr.putF {α:Type} : Nat->Tr α->Nat->Option α->Tr α
 | 0,t,_,_=>t
 | f+1,.nil,i,x=>bif Nat.beq i 0 then .node .nil x .nil else bif Nat.beq (Nat.mod i 2) 1 then .node (Tr.putF f .nil (Nat.div i 2) x) none .nil else .node .nil none (Tr.putF f .nil (Nat.pred (Nat.div i 2)) x)
 | f+1,.node l v r,i,x=>bif Nat.beq i 0 then .node l x r else bif Nat.beq (Nat.mod i 2) 1 then .node (Tr.putF f l (Nat.div i 2) x) v r else .node l v (Tr.putF f r (Nat.pred (Nat.div i 2)) x)
def Tr.put {α:Type} (t:Tr α) (i:Nat) (x:Option α):Tr α:=Tr.putF (Nat.succ i) t i x
def Tr.map {α β:Type} (f:α->β):Tr α->Tr β
 | .nil => .nil
 | .node l v r => .node (l.map f) (v.map f) (r.map f)
theorem Tr.get_nil {α:Type} (i:Nat):(Tr.nil:Tr α).get i=none:=rfl
theorem Tr.get_node {α:Type} (l:Tr α) (v:Option α) (r:Tr α) (i:Nat):(Tr.node l v r).get i=if i=0 then v else if i % 2=1 then l.get (i / 2) else r.get (i / 2-1):=by
 show (bif Nat.beq i 0 then v else bif Nat.beq (Nat.mod i 2) 1 then l.get (Nat.div i 2) else r.get (Nat.pred (Nat.div i 2)))=_;by_cases h:i=0
 ·subst h;rfl
 ·rw [if_neg h,fL h];simp only [cond_false];by_cases h1:i % 2=1
  ·rw [if_pos h1,show Nat.beq (Nat.mod i 2) 1=true from vE h1];rfl
  ·rw [if_neg h1,show Nat.beq (Nat.mod i 2) 1=false from fL h1];rfl
theorem Tr.get_putF {α:Type} : ∀ (f:Nat) (t:Tr α) (i:Nat) (x:Option α) (j:Nat),i<f->(Tr.putF f t i x).get j=if j=i then x else t.get j
 | 0,_,_,_,_,h=>absurd h (Nat.not_lt_zero _)
 | f+1,t,i,x,j,h=>by
  have key:∀ (l:Tr α) (v:Option α) (r:Tr α),
    (bif Nat.beq i 0 then Tr.node l x r else bif Nat.beq (Nat.mod i 2) 1 then .node (Tr.putF f l (Nat.div i 2) x) v r else .node l v (Tr.putF f r (Nat.pred (Nat.div i 2)) x)).get j=if j=i then x else (Tr.node l v r).get j:=by
   intro l v r;by_cases h0:i=0
   ·subst h0;show (Tr.node l x r).get j=_;rw [Tr.get_node,Tr.get_node];by_cases hj:j=0
    ·simp [hj]
    ·simp [hj]
   ·rw [show Nat.beq i 0=false from fL h0];simp only [cond_false];by_cases h1:i % 2=1
    ·rw [show Nat.beq (Nat.mod i 2) 1=true from vE h1];simp only [cond_true];rw [Tr.get_node,Tr.get_node];have ih:=Tr.get_putF f l (i / 2) x (j / 2) (by omega);by_cases hj:j=0
     ·subst hj;rw [if_pos rfl,if_pos rfl,if_neg (by omega)]
     ·rw [if_neg hj,if_neg hj];by_cases h2:j % 2=1
      ·rw [if_pos h2,if_pos h2];refine ih.trans ?_;by_cases e:j=i
       ·rw [if_pos e,if_pos (by rw [e])]
       ·rw [if_neg e,if_neg (by omega)]
      ·rw [if_neg h2,if_neg h2,if_neg (by intro e;subst e;exact h2 h1)]
    ·rw [show Nat.beq (Nat.mod i 2) 1=false from fL h1];simp only [cond_false];rw [Tr.get_node,Tr.get_node];have ih:=Tr.get_putF f r (i / 2-1) x (j / 2-1) (by omega);by_cases hj:j=0
     ·subst hj;rw [if_pos rfl,if_pos rfl,if_neg (by omega)]
     ·rw [if_neg hj,if_neg hj];by_cases h2:j % 2=1
      ·rw [if_pos h2,if_pos h2,if_neg (by intro e;subst e;exact h1 h2)]
      ·rw [if_neg h2,if_neg h2];refine ih.trans ?_;by_cases e:j=i
       ·rw [if_pos e,if_pos (by rw [e])]
       ·rw [if_neg e,if_neg (by omega)]
  cases t with
  | nil =>
   have:=key .nil none .nil;simp only [Tr.get_node,Tr.get_nil,ite_self] at this ⊢;exact this
  | node l v r=>exact key l v r
theorem Tr.get_put {α:Type} (t:Tr α) (i:Nat) (x:Option α) (j:Nat):(t.put i x).get j=if j=i then x else t.get j:=Tr.get_putF _ t i x j (Nat.lt_succ_self i)
theorem Tr.get_map {α β:Type} (f:α->β):∀ (t:Tr α) (i:Nat),(t.map f).get i=(t.get i).map f
 | .nil,_=>rfl
 | .node l v r,i=>by
  show (Tr.node (l.map f) (v.map f) (r.map f)).get i=_;rw [Tr.get_node,Tr.get_node];split
  ·rfl
  ·split
   ·exact Tr.get_map f l _
   ·exact Tr.get_map f r _
def AJ {α:Type} : List α->Nat->List α
 | [],_=>[]
 | a::l,n=>match n with
  | 0=>a::l
  | m+1=>AJ l m
theorem ZQ {α:Type} : ∀ (l:List α) (n:Nat),AJ l n=l.drop n
 | [],n=>by simp [AJ]
 | a::l,0=>rfl
 | a::l,n+1=>by simp only [AJ,List.drop_succ_cons];exact ZQ l n
def HM {α:Type} : List α->Nat->Option (List α)
 | [],n=>match n with
  | 0=>some []
  | _+1=>none
 | a::l,n=>match n with
  | 0=>some []
  | m+1=>match HM l m with
   | some r=>some (a::r)
   | none=>none
theorem qR {α:Type} : ∀ (l:List α) (n:Nat),HM l n=if n<=l.length then some (l.take n) else none
 | [],0=>rfl
 | [],n+1=>rfl
 | a::l,0=>rfl
 | a::l,n+1=>by
  simp only [HM,qR l n,List.length_cons,Nat.add_le_add_iff_right];by_cases h:n<=l.length
  ·rw [if_pos h,if_pos h];rfl
  ·rw [if_neg h,if_neg h]
def QB {α:Type} : List α->Nat->Option α
 | [],_=>none
 | a::l,n=>match n with
  | 0=>some a
  | m+1=>QB l m
theorem BG {α:Type} : ∀ (l:List α) (n:Nat),QB l n=l[n]?
 | [],n=>by simp [QB]
 | a::l,0=>rfl
 | a::l,n+1=>by simp only [QB,List.getElem?_cons_succ];exact BG l n
def dH {α:Type} : List α->Nat->List α->Option (List α)
 | cs,0,[]=>some cs
 | [],0,_::_=>none
 | _::cs,0,y::ys=>match dH cs 0 ys with
  | some r=>some (y::r)
  | none=>none
 | [],_+1,_=>none
 | c::cs,n+1,ys=>match dH cs n ys with
  | some r=>some (c::r)
  | none=>none
theorem zR {α:Type} : ∀ (cs:List α) (n:Nat) (ys r:List α),dH cs n ys=some r->n+ys.length<=cs.length/\r=cs.take n++ys++cs.drop (n+ys.length)
 | cs,0,[],r,h=>by simp only [dH,Option.some.injEq] at h;subst h;simp
 | [],0,_::_,r,h=>by simp [dH] at h
 | c::cs,0,y::ys,r,h=>by
  simp only [dH] at h;split at h
  ·rename_i r' hr;cases h;obtain⟨h1,h2⟩:=zR cs 0 ys r' hr;subst h2;refine⟨by simp at h1 ⊢;omega,by simp⟩
  ·cases h
 | [],n+1,ys,r,h=>by simp [dH] at h
 | c::cs,n+1,ys,r,h=>by
  simp only [dH] at h;split at h
  ·rename_i r' hr;cases h;obtain⟨h1,h2⟩:=zR cs n ys r' hr;subst h2;refine⟨by simp;omega,?_⟩;rw [show n+1+ys.length=(n+ys.length)+1 by omega];simp
  ·cases h
structure RB where
 x:V
 wr:Option (Nat × Ob)
 new:Bool
def rb (x:V):Option RB:=some ⟨x,none,false⟩
def oC:List Nat->Nat->Bool
 | [],_=>false
 | k::r,n=>bif Nat.beq k n then true else oC r n
theorem EF:∀ (l:List Nat) (n:Nat),oC l n=true↔n∈l
 | [],n=>by simp [oC]
 | k::r,n=>by
  unfold oC;by_cases h:k=n
  ·rw [vE h];simp [h]
  ·rw [fL h];simp only [cond_false,List.mem_cons];rw [EF r n];constructor
   ·exact .inr
   ·rintro (h1|h1)
    ·exact absurd h1.symm h
    ·exact h1
def rA:Int->Bool
 | .ofNat n=>Nat.ble n 9223372036854775807
 | .negSucc n=>Nat.ble n 9223372036854775807
theorem Kj {x:Int} (h:rA x=true):zL x:=by
 unfold zL
 cases x with
 | ofNat n=>have:=Nat.le_of_ble_eq_true h;constructor<;>simp only [Int.ofNat_eq_natCast]<;>omega
 | negSucc n=>have:=Nat.le_of_ble_eq_true h;constructor<;>omega
def kA:Int->Int->Bool
 | .ofNat m,.ofNat n=>Nat.blt m n
 | .negSucc m,.negSucc n=>Nat.blt n m
 | .negSucc _,.ofNat _=>true
 | .ofNat _,.negSucc _=>false
theorem CG (m n:Nat):Nat.blt m n=decide (m<n):=by
 cases e:Nat.blt m n with
 | true=>have:m+1<=n:=Nat.le_of_ble_eq_true e;exact (decide_eq_true (by omega)).symm
 | false =>
  refine (decide_eq_false λ h => ?_).symm;have:Nat.ble (m+1) n=true:=Nat.ble_eq_true_of_le (by omega);have e':Nat.ble (m+1) n=false:=e;rw [e'] at this;cases this
theorem KB (a b:Int):kA a b=decide (a<b):=by
 cases a<;>cases b<;>simp only [kA]
 ·rw [CG];simp
 ·refine (decide_eq_false ?_).symm;simp only [Int.ofNat_eq_natCast];omega
 ·refine (decide_eq_true ?_).symm;simp only [Int.ofNat_eq_natCast];omega
 ·rw [CG];simp only [decide_eq_decide];omega
def lB:Int->Int->Bool
 | .ofNat m,.ofNat n=>Nat.beq m n
 | .negSucc m,.negSucc n=>Nat.beq m n
 | _,_=>false
theorem YZ (m n:Nat):Nat.beq m n=decide (m=n):=by
 by_cases h:m=n
 ·rw [vE h];simp [h]
 ·rw [fL h];simp [h]
theorem fH (a b:Int):lB a b=decide (a=b):=by
 cases a<;>cases b<;>simp only [lB]
 ·rw [YZ];simp only [Int.ofNat_eq_natCast,decide_eq_decide];omega
 ·exact (decide_eq_false (by simp)).symm
 ·exact (decide_eq_false (by simp)).symm
 ·rw [YZ];simp
def Got (o:Option R) (x:V):Prop:=∃ q,o=some q/\q.cond/\q.out=x/\q.wr=none/\q.new=false
def bv (b:Bool):V:=.pv (.bool b)
def FF (x:Int):Option V:=bif rA x then some (.pv (.int x)) else none
def BJ (op:BinOp) (a b:Int):Option V:=match op with
 | .add=>FF (a+b)
 | .sub=>FF (a-b)
 | .mul=>FF (a * b)
 | .rem=>bif lB b 0 then none else some (.pv (.int (a.tmod b)))
 | .lss=>some (bv (kA a b))
 | .leq=>some (bv (!kA b a))
 | .gtr=>some (bv (kA b a))
 | .geq=>some (bv (!kA a b))
 | .eql=>some (bv (lB a b))
 | .neq=>some (bv (!lB a b))
 | _=>none
theorem Lj {op:BinOp} {a b:Int} {x:V} (h:BJ op a b=some x):Got (xQ op a b) x:=by
 have hv:∀ c:Int,FF c=some x->Got (some (R.ofIf (zL c) (.pv (.int c)))) x:=by
  intro c hc;unfold FF at hc
  cases e:rA c with
  | true=>rw [e] at hc;cases hc;exact⟨_,rfl,Kj e,rfl,rfl,rfl⟩
  | false=>rw [e] at hc;cases hc
 have hb:∀ c d:Bool,c=d->some (bv c)=some x->Got (PB d) x:=by
  intro c d e hc;subst e;cases hc;exact⟨_,rfl,trivial,rfl,rfl,rfl⟩
 cases op<;>simp only [BJ] at h<;>try cases h<;>done
 case add=>exact hv _ h
 case sub=>exact hv _ h
 case mul=>exact hv _ h
 case rem =>
  cases e:lB b 0 with
  | true=>rw [e] at h;cases h
  | false =>
   rw [e] at h;cases h;rw [fH] at e;exact⟨_,rfl,(show b≠0 by simpa using e),rfl,rfl,rfl⟩
 case lss=>exact hb _ _ (KB a b) h
 case leq=>exact hb _ _ (by rw [KB];by_cases hh:b<a<;>simp [hh]<;>omega) h
 case gtr=>exact hb _ _ (KB b a) h
 case geq=>exact hb _ _ (by rw [KB];by_cases hh:a<b<;>simp [hh]<;>omega) h
 case eql=>exact hb _ _ (fH a b) h
 case neq=>exact hb _ _ (by rw [fH]) h
def LB (n:Nat):List (List PV)->Bool
 | []=>true
 | y::r=>bif Nat.beq y.length n then LB n r else false
theorem gL {n:Nat} : ∀ {l:List (List PV)},LB n l=true->∀ y∈l,y.length=n
 | [],_,_,h=>by cases h
 | y::r,h,z,hz=>by
  unfold LB at h
  cases e:Nat.beq y.length n with
  | false=>rw [e] at h;cases h
  | true =>
   rw [e] at h;rcases List.mem_cons.1 hz with rfl|hz
   ·exact Nat.eq_of_beq_eq_true e
   ·exact gL h z hz
def bC (n:Nat):List (List V)->Bool
 | []=>true
 | y::r=>bif Nat.beq y.length n then bC n r else false
theorem xO {n:Nat} : ∀ {l:List (List V)},bC n l=true->∀ y∈l,y.length=n
 | [],_,_,h=>by cases h
 | y::r,h,z,hz=>by
  unfold bC at h
  cases e:Nat.beq y.length n with
  | false=>rw [e] at h;cases h
  | true =>
   rw [e] at h;rcases List.mem_cons.1 hz with rfl|hz
   ·exact Nat.eq_of_beq_eq_true e
   ·exact xO h z hz
def CJ:List V->Bool
 | []=>true
 | y::r=>bif y.one then CJ r else false
theorem AO:∀ {l:List V},CJ l=true->l.all V.one=true
 | [],_=>rfl
 | y::r,h=>by
  unfold CJ at h
  cases e:y.one with
  | false=>rw [e] at h;cases h
  | true=>rw [e] at h;simp only [List.all_cons,e,Bool.true_and];exact AO h
def SB:List (List V)->Bool
 | []=>true
 | y::r=>bif CJ y then SB r else false
theorem BO:∀ {l:List (List V)},SB l=true->∀ y∈l,y.all V.one=true
 | [],_,_,h=>by cases h
 | y::r,h,z,hz=>by
  unfold SB at h
  cases e:CJ y with
  | false=>rw [e] at h;cases h
  | true =>
   rw [e] at h;rcases List.mem_cons.1 hz with rfl|hz
   ·exact AO e
   ·exact BO h z hz
def jR (agg:Bool) (n:Nat) (cs:List PV):Option V:=match agg with
 | true=>match HM cs n with
  | some l=>some (.pv (.agg l))
  | none=>none
 | false=>match cs with
  | c::_=>some (.pv c)
  | []=>none
theorem ZZ {agg:Bool} {n:Nat} {cs:List PV} {x:V} (h:jR agg n cs=some x):Got (pM agg n cs) x:=by
 unfold jR at h;unfold pM
 cases agg with
 | true =>
  simp only [qR] at h;by_cases e:n<=cs.length
  ·rw [if_pos e] at h;cases h;exact⟨_,rfl,e,rfl,rfl,rfl⟩
  ·rw [if_neg e] at h;cases h
 | false =>
  cases cs with
  | nil=>cases h
  | cons c cs=>cases h;exact⟨_,rfl,trivial,rfl,rfl,rfl⟩
def CO:List V->Option (List PV)
 | []=>some []
 | c::cs=>match c with
  | .pv p=>match CO cs with
   | some r=>some (p::r)
   | none=>none
  | _=>none
theorem qV:∀ (l:List V),CO l=nD l
 | []=>rfl
 | c::cs=>by
  cases c<;>simp only [CO,nD,V.un,qV cs]
  all_goals cases nD cs<;>rfl
def DO (cs:List V):V:=match CO cs with
 | some ps => .pv (.agg ps)
 | none => .agg cs
theorem jV (cs:List V):DO cs=xF cs:=by unfold DO xF;rw [qV];cases nD cs<;>rfl
def EO (agg:Bool) (n:Nat) (cs:List V):Option V:=match agg with
 | true=>match HM cs n with
  | some l=>some (DO l)
  | none=>none
 | false=>match cs with
  | c::_=>some c
  | []=>none
theorem za (agg:Bool) (n:Nat) (cs:List V):EO agg n cs=jH agg n cs:=by
 unfold EO jH
 cases agg with
 | true =>
  simp only [if_true,qR,jV];by_cases e:n<=cs.length
  ·rw [if_pos e,if_pos e]
  ·rw [if_neg e,if_neg e]
 | false=>rfl
def vV (ti:TI) (ob:Nat->Option Ob) (x:V):Option V:=match x with
 | .pv (.ptr cs)=>jR ti.isAgg ti.size cs
 | .pv (.nptr cs)=>jR ti.isAgg ti.size cs
 | .loc n off=>match ob n with
  | some (.box cs)=>EO ti.isAgg ti.size (AJ cs off)
  | _=>none
 | .eloc n ver i off=>match ob n with
  | some (.arr ver' _ _ es)=>match QB es i with
   | some e=>bif Nat.beq ver ver' then EO ti.isAgg ti.size (AJ e off) else none
   | none=>none
  | _=>none
 | _=>none
theorem Mj {ti:TI} {ob:Nat->Option Ob} {x y:V} (h:vV ti ob x=some y):Got (jL ti ob x) y:=by
 unfold vV at h;unfold jL;split at h
 ·exact ZZ h
 ·exact ZZ h
 ·rename_i n off;simp only;split at h
  ·rename_i cs e;rw [za,ZQ] at h;simp only [e,h];exact⟨_,rfl,trivial,rfl,rfl,rfl⟩
  ·cases h
 ·rename_i n ver i off;simp only;split at h
  ·rename_i ver' sz ty es e;rw [BG] at h;split at h
   ·rename_i el he
    cases ev:Nat.beq ver ver' with
    | false=>rw [ev] at h;cases h
    | true =>
     rw [ev] at h;simp only [cond_true] at h;rw [za,ZQ] at h;simp only [e,he,h];exact⟨_,rfl,Nat.eq_of_beq_eq_true ev,rfl,rfl,rfl⟩
   ·cases h
  ·cases h
 ·cases h
def vF (o:Option R) (r:RB):Prop:=∃ q,o=some q/\q.cond/\q.out=r.x/\q.wr=r.wr/\q.new=r.new
theorem Got.r {o:Option R} {x:V} (h:Got o x):vF o ⟨x,none,false⟩:=h
theorem RA {α:Type} {c:Bool} {a:Option α} {x:α} (h:(bif c then a else none)=some x):c=true/\a=some x:=by
 cases c with
 | true=>exact⟨rfl,h⟩
 | false=>cases h
theorem ND {m n:Nat} (h:Nat.blt m n=true):m<n:=by rw [CG] at h;exact of_decide_eq_true h
def GO (q:PV) (y:V):Option RB:=match q with
 | .nptr cs=>match cs with
  | c::_=>match c with
   | .flg p=>match y with
    | .pv z=>match z with
     | .bool b=>bif (bif b then p else true) then some ⟨.undef,none,false⟩ else none
     | _=>none
    | _=>none
   | _=>none
  | []=>none
 | _=>none
theorem va {q:PV} {y:V} {r:RB} (h:GO q y=some r):∃ p l b,q = .nptr (.flg p::l)/\y = .pv (.bool b)/\(b=true->p=true)/\r=⟨.undef,none,false⟩:=by
 unfold GO at h;split at h
 ·split at h
  ·split at h
   ·split at h
    ·split at h
     ·rename_i b;obtain⟨hb,h⟩:=RA h;cases h;exact⟨_,_,b,rfl,rfl,λ e=>by subst e;exact hb,rfl⟩
     ·cases h
    ·cases h
   ·cases h
  ·cases h
 ·cases h
def lL (ti:TI) (ob:Nat->Option Ob) (x y:V):Option RB:=match YE y with
 | none=>none
 | some ys=>bif Nat.beq ys.length ti.size then (bif CJ ys then (match x with
  | .loc n off=>match ob n with
   | some (.box cs)=>match dH cs off ys with
    | some r=>some ⟨.undef,some (n,.box r),false⟩
    | none=>none
   | _=>none
  | .eloc n ver i off=>match ob n with
   | some (.arr ver' sz ty es)=>bif Nat.beq ver ver' then (bif Nat.ble (off+ys.length) sz then (match QB es i with
    | some e=>some ⟨.undef,some (n,.arr ver' sz ty (es.set i (qD e off ys))),false⟩
    | none=>none) else none) else none
   | _=>none
  | .pv q=>GO q y
  | _=>none) else none) else none
theorem ya {ti:TI} {ob:Nat->Option Ob} {x y:V} {r:RB} (h:lL ti ob x y=some r):vF (vL ti ob x y) r:=by
 unfold lL at h;unfold vL;split at h
 ·cases h
 ·rename_i ys ey;have h1:=(RA h).1;replace h:=(RA h).2;have h3:=(RA h).1;replace h:=(RA h).2;have h1:=Nat.eq_of_beq_eq_true h1;simp only [ey];split at h
  ·rename_i n off;split at h
   ·rename_i cs eo;split at h
    ·rename_i q hq;cases h;obtain⟨h2,h4⟩:=zR cs off ys q hq;simp only [eo];exact⟨_,rfl,⟨h1,h2,AO h3⟩,rfl,by rw [h4];rfl,rfl⟩
    ·cases h
   ·cases h
  ·rename_i n ver i off;split at h
   ·rename_i ver' sz ty es eo;have h2:=(RA h).1;replace h:=(RA h).2;have h4:=(RA h).1;replace h:=(RA h).2;split at h
    ·rename_i e he;cases h;rw [BG] at he;have hlt:i<es.length:=(List.getElem?_eq_some_iff.1 he).1;have hg:es.getD i []=e:=by rw [List.getD_eq_getElem?_getD,he];rfl
     simp only [eo];exact⟨_,rfl,⟨Nat.eq_of_beq_eq_true h2,hlt,h1,Nat.le_of_ble_eq_true h4,AO h3⟩,rfl,by rw [hg],rfl⟩
    ·cases h
   ·cases h
  ·rename_i q;obtain⟨p,l,b,rfl,rfl,hb,rfl⟩:=va h;refine⟨_,rfl,⟨?_,hb⟩,rfl,rfl,rfl⟩;cases ey;exact h1.symm
  ·cases h
def OD:Int->Option Nat
 | .ofNat n=>some n
 | .negSucc _=>none
theorem DJ {i:Int} {n:Nat} (h:OD i=some n):i=n:=by
 cases i with
 | ofNat k=>simp only [OD,Option.some.injEq] at h;subst h;rfl
 | negSucc k=>cases h
def vR (T:Nat->Option TI) (ob:Nat->Option Ob) (t:Nat) (x i:V):Option V:=match i with
 | .pv (.int z)=>match OD z with
  | some k=>match T t with
   | some ⟨.slice e,_,_,_,_⟩=>match T e with
    | some te=>match x with
     | .pv (.slice es)=>match QB es k with
      | some e=>bif LB te.size es then some (.pv (.ptr e)) else none
      | none=>none
     | .arr n ver len=>match ob n with
      | some (.arr ver' sz _ es)=>bif Nat.beq ver ver' then (bif Nat.blt k len then (bif Nat.beq sz te.size then (bif Nat.ble len es.length then some (.eloc n ver k 0) else none) else none) else none) else none
      | _=>none
     | _=>none
    | none=>none
   | some ⟨.array m e,_,_,_,_⟩=>match T e with
    | some te=>bif Nat.blt k m then lJ x (k * te.size) else none
    | none=>none
   | _=>none
  | none=>none
 | _=>none
theorem Nj {T:Nat->Option TI} {ob:Nat->Option Ob} {t:Nat} {x i y:V} (h:vR T ob t x i=some y):Got (wL T ob t x i) y:=by
 unfold vR at h;unfold wL;split at h
 ·rename_i z;split at h
  ·rename_i k ek;have hz:=DJ ek;subst hz;simp only [Int.toNat_natCast];split at h
   ·rename_i e a b c d et;simp only [et];split at h
    ·rename_i te ete;simp only [ete];split at h
     ·rename_i es;split at h
      ·rename_i e' he;obtain⟨h2,h⟩:=RA h;cases h;rw [BG] at he;have hlt:k<es.length:=(List.getElem?_eq_some_iff.1 he).1;have hg:es.getD k []=e':=by rw [List.getD_eq_getElem?_getD,he];rfl
       refine⟨_,rfl,?_,by rw [hg];rfl,rfl,rfl⟩;exact⟨by omega,by omega,gL h2⟩
      ·cases h
     ·rename_i n ver len;split at h
      ·rename_i ver' sz ty es eo;obtain⟨h1,h⟩:=RA h;obtain⟨h2,h⟩:=RA h;obtain⟨h3,h⟩:=RA h;obtain⟨h4,h⟩:=RA h;cases h;simp only [eo];refine⟨_,rfl,?_,rfl,rfl,rfl⟩;exact⟨Nat.eq_of_beq_eq_true h1,by omega,by have:=ND h2;omega,Nat.eq_of_beq_eq_true h3,Nat.le_of_ble_eq_true h4⟩
      ·cases h
     ·cases h
    ·cases h
   ·rename_i m e a b c d et;simp only [et];split at h
    ·rename_i te ete;obtain⟨h1,h⟩:=RA h;simp only [ete,h];refine⟨_,rfl,?_,rfl,rfl,rfl⟩;exact⟨by omega,by have:=ND h1;omega⟩
    ·cases h
   ·cases h
  ·cases h
 ·cases h
def kV (ob:Nat->Option Ob) (x:V):Option V:=match x with
 | .pv (.slice es)=>some (.pv (.int (.ofNat es.length)))
 | .pv .nils=>some (.pv (.int 0))
 | .gsl _ _ es=>some (.pv (.int (.ofNat es.length)))
 | .arr n ver len=>match ob n with
  | some (.arr ver' _ _ _)=>bif Nat.beq ver ver' then some (.pv (.int (.ofNat len))) else none
  | _=>none
 | _=>none
theorem Oj {ob:Nat->Option Ob} {x y:V} (h:kV ob x=some y):Got (kL ob x) y:=by
 unfold kV at h;unfold kL;split at h
 ·cases h;exact⟨_,rfl,trivial,rfl,rfl,rfl⟩
 ·cases h;exact⟨_,rfl,trivial,rfl,rfl,rfl⟩
 ·cases h;exact⟨_,rfl,trivial,rfl,rfl,rfl⟩
 ·split at h
  ·rename_i ver' sz ty es eo;obtain⟨h1,h⟩:=RA h;cases h;simp only [eo];exact⟨_,rfl,Nat.eq_of_beq_eq_true h1,rfl,rfl,rfl⟩
  ·cases h
 ·cases h
def gI (e:Nat) (te:TI) (ob:Nat->Option Ob) (nx:Nat) (x y:V):Option RB:=match x with
 | .arr n ver len=>match ob n,cG y with
  | some (.arr ver' sz ty es),some ys=>bif Nat.beq ver ver' && Nat.ble len es.length && Nat.beq ty e && Nat.beq sz te.size && Nat.blt 0 sz && bC sz ys && SB ys && Nat.ble (len+ys.length) maxLen && Nat.ble ((len+ys.length) * te.bytes) 140737488355328 then
    some ⟨.arr n (ver+1) (len+ys.length),some (n,.arr (ver+1) sz ty (es.take len++ys)),false⟩ else none
  | _,_=>none
 | .gsl n ver _=>match ob n with
  | some (.grow ver' sz ty es)=>match y with
   | .pv (.slice ys)=>bif Nat.beq ver ver' && Nat.beq ty e && Nat.beq sz te.size && Nat.blt 0 sz && LB sz ys && SB (vA ys) && Nat.ble (es.length+ys.length) maxLen && Nat.ble ((es.length+ys.length) * te.bytes) 140737488355328 then
    some ⟨.gsl n (ver+1) (es++ys),some (n,.grow (ver+1) sz ty (es++ys)),false⟩ else none
   | _=>none
  | _=>none
 | .fsl es=>match y with
  | .pv (.slice (y::ys))=>bif LB te.size es && LB te.size (y::ys) && Nat.blt 0 te.size && Nat.ble (es.length+(y::ys).length) maxLen && Nat.ble ((es.length+(y::ys).length) * te.bytes) 140737488355328 then
    some ⟨.pv (.slice (es++y::ys)),none,false⟩ else none
  | _=>none
 | .pv .nils=>match cG y with
  | some ys=>bif Nat.blt 0 te.size && bC te.size ys && SB ys && Nat.ble ys.length maxLen && Nat.ble (ys.length * te.bytes) 140737488355328 then
    some ⟨.arr nx 1 ys.length,some (nx,.arr 1 te.size e ys),true⟩ else none
  | none=>none
 | _=>none
theorem Pj {e:Nat} {te:TI} {ob:Nat->Option Ob} {nx:Nat} {xo:Operand} {x y:V} {r:RB} (h:gI e te ob nx x y=some r) :
  ∃ note,vF (eG e te ob note xo x y) r/\(r.new=true->∃ o,r.wr=some (nx,o)):=by
 unfold gI at h;split at h
 ·rename_i n ver len;split at h
  ·rename_i ver' sz ty es ys eo ey;obtain⟨h1,h⟩:=RA h;cases h;simp only [Bool.and_eq_true] at h1;obtain⟨⟨⟨⟨⟨⟨⟨⟨a1,a2⟩,a3⟩,a4⟩,a5⟩,a6⟩,a7⟩,a8⟩,a9⟩:=h1;refine⟨.none,?_,by simp⟩;simp only [eG,eo,ey];exact⟨_,rfl,⟨Nat.eq_of_beq_eq_true a1,Nat.le_of_ble_eq_true a2,Nat.eq_of_beq_eq_true a3,Nat.eq_of_beq_eq_true a4,ND a5,xO a6,BO a7,Nat.le_of_ble_eq_true a8,Nat.le_of_ble_eq_true a9⟩,rfl,rfl,rfl⟩
  ·cases h
 ·rename_i n ver es0;split at h
  ·rename_i ver' sz ty es eo;split at h
   ·rename_i ys;obtain⟨h1,h⟩:=RA h;cases h;simp only [Bool.and_eq_true] at h1;obtain⟨⟨⟨⟨⟨⟨⟨a1,a2⟩,a3⟩,a4⟩,a5⟩,a6⟩,a7⟩,a8⟩:=h1;refine⟨.none,?_,by simp⟩;simp only [eG,eo];exact⟨_,rfl,⟨⟨Nat.eq_of_beq_eq_true a1,Nat.eq_of_beq_eq_true a2,Nat.eq_of_beq_eq_true a3,ND a4⟩,gL a5,BO a6,Nat.le_of_ble_eq_true a7,Nat.le_of_ble_eq_true a8⟩,rfl,rfl,rfl⟩
   ·cases h
  ·cases h
 ·rename_i es;split at h
  ·rename_i y ys;obtain⟨h1,h⟩:=RA h;cases h;simp only [Bool.and_eq_true] at h1;obtain⟨⟨⟨⟨a1,a2⟩,a3⟩,a4⟩,a5⟩:=h1;refine⟨.none,?_,by simp⟩;simp only [eG];exact⟨_,rfl,⟨gL a1,gL a2,ND a3,by simp,Nat.le_of_ble_eq_true a4,Nat.le_of_ble_eq_true a5⟩,rfl,rfl,rfl⟩
  ·cases h
 ·split at h
  ·rename_i ys ey;obtain⟨h1,h⟩:=RA h;cases h;simp only [Bool.and_eq_true] at h1;obtain⟨⟨⟨⟨a1,a2⟩,a3⟩,a4⟩,a5⟩:=h1;refine⟨.arr nx te.size e,?_,λ _=>⟨_,rfl⟩⟩;simp only [eG,ey];exact⟨_,rfl,⟨by first|rfl|trivial,by first|rfl|trivial,ND a1,xO a2,BO a3,Nat.le_of_ble_eq_true a4,Nat.le_of_ble_eq_true a5⟩,rfl,rfl,rfl⟩
  ·cases h
 ·cases h
def HO (te:TI) (ob:Nat->Option Ob) (x:V) (lo hi mx:Option V):Option V:=match x,lo,hi,mx with
 | .pv (.slice es),some (.pv (.int l)),none,none=>match OD l with
  | some k=>bif Nat.ble k es.length && LB te.size es then some (.pv (.slice (es.drop k))) else none
  | none=>none
 | .pv (.slice es),none,some (.pv (.int h)),none=>match OD h with
  | some k=>bif Nat.ble k es.length then some (.pv (.slice (es.take k))) else none
  | none=>none
 | .arr n ver len,none,some (.pv (.int h)),none=>match OD h,ob n with
  | some k,some (.arr ver' _ _ _)=>bif Nat.beq ver ver' && Nat.ble k len then some (.arr n ver k) else none
  | _,_=>none
 | .pv (.slice es),none,some (.pv (.int h)),some (.pv (.int m))=>match OD h,OD m with
  | some k,some l=>bif Nat.beq k es.length && Nat.beq l es.length then some (.fsl es) else none
  | _,_=>none
 | .pv .nils,lo,hi,mx=>bif vI lo && vI hi && vI mx && (!mx.isSome || hi.isSome) then some (.pv .nils) else none
 | _,_,_,_=>none
theorem Qj {te:TI} {ob:Nat->Option Ob} {x y:V} {lo hi mx:Option V} (h:HO te ob x lo hi mx=some y):Got (yL te ob x lo hi mx) y:=by
 unfold HO at h;unfold yL;split at h
 ·split at h
  ·rename_i k ek;have hz:=DJ ek;subst hz;obtain⟨h1,h⟩:=RA h;cases h;simp only [Bool.and_eq_true] at h1;have h2:=Nat.le_of_ble_eq_true h1.1;refine⟨_,rfl,?_,by simp [R.ofIf],rfl,rfl⟩;exact⟨by omega,by omega,gL h1.2⟩
  ·cases h
 ·split at h
  ·rename_i k ek;have hz:=DJ ek;subst hz;obtain⟨h1,h⟩:=RA h;cases h;have h2:=Nat.le_of_ble_eq_true h1;refine⟨_,rfl,?_,by simp [R.ofIf],rfl,rfl⟩;exact⟨by omega,by omega⟩
  ·cases h
 ·split at h
  ·rename_i k ver' sz ty es ek eo;have hz:=DJ ek;subst hz;obtain⟨h1,h⟩:=RA h;cases h;simp only [Bool.and_eq_true] at h1;have h2:=Nat.le_of_ble_eq_true h1.2;simp only [eo];refine⟨_,rfl,?_,by simp [R.ofIf],rfl,rfl⟩;exact⟨Nat.eq_of_beq_eq_true h1.1,by omega,by omega⟩
  ·cases h
 ·split at h
  ·rename_i k l ek el;have hz:=DJ ek;have hz':=DJ el;subst hz hz';obtain⟨h1,h⟩:=RA h;cases h;simp only [Bool.and_eq_true] at h1;have h2:=Nat.eq_of_beq_eq_true h1.1;have h3:=Nat.eq_of_beq_eq_true h1.2;refine⟨_,rfl,?_,rfl,rfl,rfl⟩;exact⟨by omega,by omega⟩
  ·cases h
 ·obtain⟨h1,h⟩:=RA h;cases h;simp only [h1,cond_true];exact⟨_,rfl,trivial,rfl,rfl,rfl⟩
 ·cases h
def JO (fs:List (Nat × Nat)) (cells:List V):List (Nat × V)->Option (List V)
 | []=>some cells
 | (i,x)::rest=>match QB fs i with
  | some (off,size)=>match YE x with
   | some ys=>bif Nat.beq ys.length size then (match dH cells off ys with
    | some r=>JO fs r rest
    | none=>none) else none
   | none=>none
  | none=>none
theorem yV {fs:List (Nat × Nat)} : ∀ {l:List (Nat × V)} {cells cs:List V},JO fs cells l=some cs->AF fs cells l=some cs
 | [],_,_,h=>h
 | (i,x)::rest,cells,cs,h=>by
  unfold JO at h;unfold AF;rw [BG] at h;split at h
  ·rename_i off size ei;split at h
   ·rename_i ys ex;obtain⟨h1,h⟩:=RA h;have h1:=Nat.eq_of_beq_eq_true h1;split at h
    ·rename_i r hr;obtain⟨h2,h3⟩:=zR cells off ys r hr;simp only [ei,ex];rw [if_pos ⟨h1,by omega⟩];have:qD cells off ys=r:=by rw [h3];rfl
     rw [this];exact yV h
    ·cases h
   ·cases h
  ·cases h
def KO:Nat->List (Nat × V)->Option (List (List V))
 | _,[]=>some []
 | k,(i,x)::rest=>bif Nat.beq i k then (match YE x with
   | some cs=>match KO (Nat.succ k) rest with
    | some es=>some (cs::es)
    | none=>none
   | none=>none) else none
theorem uV:∀ {l:List (Nat × V)} {k:Nat} {es:List (List V)},KO k l=some es->qL k l=some es
 | [],_,_,h=>h
 | (i,x)::rest,k,es,h=>by
  unfold KO at h;unfold qL;obtain⟨h1,h⟩:=RA h;rw [if_pos (Nat.eq_of_beq_eq_true h1)];split at h
  ·rename_i cs ec;split at h
   ·rename_i es' ee;cases h;simp only [ec,uV ee]
   ·cases h
  ·cases h
def LO (e:Nat) (te:TI) (nx len:Nat) (es:List (List V)):Option RB :=
 bif Nat.beq es.length len && Nat.ble len 16777216 && Nat.ble (len * te.size) 16777216 && bC te.size es then (match cE es with
  | some ps=>some ⟨.pv (.slice ps),none,false⟩
  | none=>some ⟨.arr nx 0 len,some (nx,.arr 0 te.size e es),true⟩) else none
theorem Rj {e:Nat} {te:TI} {nx len:Nat} {es:List (List V)} {r:RB} (h:LO e te nx len es=some r):∃ note,vF (eU e te note len es) r/\(r.new=true->∃ o,r.wr=some (nx,o)):=by
 unfold LO at h;obtain⟨h1,h⟩:=RA h;simp only [Bool.and_eq_true] at h1;obtain⟨⟨⟨a1,a2⟩,a3⟩,a4⟩:=h1;have hc:=And.intro (Nat.eq_of_beq_eq_true a1) (And.intro (Nat.le_of_ble_eq_true a2) (And.intro (Nat.le_of_ble_eq_true a3) (xO a4)));split at h
 ·rename_i ps ep;cases h;refine⟨.none,⟨_,rfl,hc,?_,rfl,rfl⟩,by simp⟩;simp [R.ofIf,rM,ep]
 ·cases h;exact⟨.arr nx te.size e,⟨_,rfl,⟨hc,rfl,rfl⟩,rfl,rfl,rfl⟩,λ _=>⟨_,rfl⟩⟩
def bV (T:Nat->Option TI) (nx t:Nat):Option RB:=match T t with
 | some ti=>some ⟨.loc nx 0,some (nx,.box (oA ti.zc)),true⟩
 | none=>none
def dV (nx:Nat) (x:V):Option RB:=match YE x with
 | some cs=>bif CJ cs then some ⟨.loc nx 0,some (nx,.box cs),true⟩ else none
 | none=>none
def fV (T:Nat->Option TI) (t:Nat) (ps:List (Nat × V)):Option V:=match T t with
 | some ⟨.struct fs _,_,_,_,zc⟩=>match JO fs (oA zc) ps with
  | some cs=>some (DO cs)
  | none=>none
 | some ⟨.array m e,_,_,_,zc⟩=>match T e with
  | some te=>match JO (vH te.size m 0) (oA zc) ps with
   | some cs=>some (DO cs)
   | none=>none
  | none=>none
 | _=>none
def ua (x:V) (i:Nat):Option V:=match x with
 | .pv (.tuple cs)=>match QB cs i with
  | some c=>some (.pv c)
  | none=>none
 | .tuple cs=>QB cs i
 | _=>none
def GF:IntKind->IntKind->Bool
 | .u8,.u8=>true
 | .u32,.u32=>true
 | .i32,.i32=>true
 | _,_=>false
theorem Sj {a b:IntKind} (h:GF a b=true):a=b:=by cases a<;>cases b<;>first|rfl|cases h
def wR (x:Int):Option Int:=bif rA x then some x else none
def xD (k:IntKind) (x:Int):Option V:=match wR x with
 | some y=>some (.pv (.num k y))
 | none=>none
theorem kR {k:IntKind} {x:Int} {v:V} (h:xD k x=some v):v = .pv (.num k x):=by
 unfold xD wR at h
 cases e:rA x with
 | true=>rw [e] at h;cases h;rfl
 | false=>rw [e] at h;cases h
def mL (op:BinOp) (k:IntKind) (a b:Int):Option V:=match op with
 | .add=>xD k (k.wrap (a+b))
 | .sub=>xD k (k.wrap (a-b))
 | .and=>xD k (HA .and k a b)
 | .or=>xD k (HA .or k a b)
 | .andNot=>xD k (HA .andNot k a b)
 | .lss=>some (bv (kA a b))
 | .leq=>some (bv (!kA b a))
 | .gtr=>some (bv (kA b a))
 | .geq=>some (bv (!kA a b))
 | .eql=>some (bv (lB a b))
 | .neq=>some (bv (!lB a b))
 | _=>none
theorem Tj {op:BinOp} {k:IntKind} {a b:Int} {x:V} (h:mL op k a b=some x):Got (AQ op k a b) x:=by
 have hb:∀ c d:Bool,c=d->some (bv c)=some x->Got (PB d) x:=by
  intro c d e hc;subst e;cases hc;exact⟨_,rfl,trivial,rfl,rfl,rfl⟩
 have hv:∀ c:Int,xD k c=some x->Got (some (R.of (.pv (.num k c)))) x:=by
  intro c hc;rw [kR hc];exact⟨_,rfl,trivial,rfl,rfl,rfl⟩
 cases op<;>simp only [mL] at h<;>try cases h<;>done
 case add=>exact hv _ h
 case sub=>exact hv _ h
 case and=>exact hv _ h
 case or=>exact hv _ h
 case andNot=>exact hv _ h
 case lss=>exact hb _ _ (KB a b) h
 case leq=>exact hb _ _ (by rw [KB];by_cases hh:b<a<;>simp [hh]<;>omega) h
 case gtr=>exact hb _ _ (KB b a) h
 case geq=>exact hb _ _ (by rw [KB];by_cases hh:a<b<;>simp [hh]<;>omega) h
 case eql=>exact hb _ _ (fH a b) h
 case neq=>exact hb _ _ (by rw [fH]) h
def IM (op:BinOp) (k:IntKind) (a n:Int):Option V:=match op with
 | .shl=>bif kA n 0 then none else xD k (k.wrap (a * 2 ^ (min n.toNat k.bits)))
 | .shr=>bif kA n 0 then none else xD k (a.fdiv (2 ^ (min n.toNat k.bits)))
 | _=>none
theorem Uj {op:BinOp} {k:IntKind} {a n:Int} {x:V} (h:IM op k a n=some x):Got (BQ op k a n) x:=by
 have hv:∀ c:Int,(bif kA n 0 then none else xD k c)=some x->Got (some (R.ofIf (0<=n) (.pv (.num k c)))) x:=by
  intro c hc
  cases e:kA n 0 with
  | true=>rw [e] at hc;cases hc
  | false =>
   rw [e] at hc;rw [kR hc];rw [KB] at e;exact⟨_,rfl,(show 0<=n by simpa using e),rfl,rfl,rfl⟩
 cases op<;>simp only [IM] at h<;>try cases h<;>done
 case shl=>exact hv _ h
 case shr=>exact hv _ h
def nL (k:TK) (op:BinOp) (x y:V) (yo:Operand):Option V:=match x,y with
 | .pv (.int a),.pv (.int b)=>BJ op a b
 | .pv (.num j a),.pv (.num j' b)=>bif GF j j' then mL op j a b else none
 | .pv (.num j a),.pv (.int n)=>IM op j a n
 | .pv (.str a),.pv (.str b)=>match op with
  | .eql=>some (bv (oD a b))
  | .neq=>some (bv (!oD a b))
  | _=>none
 | x,y=>match op with
  | .eql=>match sM k x y yo with
   | some b=>some (bv b)
   | none=>none
  | .neq=>match sM k x y yo with
   | some b=>some (bv (!b))
   | none=>none
  | _=>none
theorem Vj {k:TK} {op:BinOp} {x y z:V} {yo:Operand} (h:nL k op x y yo=some z):Got (hJ k op x y yo) z:=by
 have hb:∀ c:Bool,some (bv c)=some z->Got (PB c) z:=by
  intro c hc;cases hc;exact⟨_,rfl,trivial,rfl,rfl,rfl⟩
 unfold nL at h;split at h
 ·exact Lj h
 ·rename_i j a j' b;have h1:=Sj (RA h).1;replace h:=(RA h).2;subst h1;simp only [hJ,if_true];exact Tj h
 ·simp only [hJ];exact Uj h
 ·simp only [hJ];split at h
  ·exact hb _ h
  ·exact hb _ h
  ·cases h
 ·rename_i hne hne2 hne4 hne3;have key:∀ b,sM k x y yo=some b->((op = .eql/\z=bv b)\/(op = .neq/\z=bv (!b)))->Got (hJ k op x y yo) z:=by
   intro b hb2 hop;unfold hJ;split
   ·rename_i a b';exact (hne a b' rfl rfl).elim
   ·rename_i j a j' b';exact (hne2 j a j' b' rfl rfl).elim
   ·rename_i j a n;exact (hne4 j a n rfl rfl).elim
   ·rename_i a b';exact (hne3 a b' rfl rfl).elim
   ·rcases hop with ⟨rfl,rfl⟩|⟨rfl,rfl⟩<;>simp only [hb2]<;>exact⟨_,rfl,trivial,rfl,rfl,rfl⟩
  split at h
  ·split at h
   ·rename_i b' hb';cases h;exact key b' hb' (.inl ⟨rfl,rfl⟩)
   ·cases h
  ·split at h
   ·rename_i b' hb';cases h;exact key b' hb' (.inr ⟨rfl,rfl⟩)
   ·cases h
  ·cases h
def MO:Bool->Bool->Bool
 | true,b=>b
 | false,true=>false
 | false,false=>true
theorem yR {a b:Bool} (h:MO a b=true):a=b:=by cases a<;>cases b<;>first|rfl|cases h
def uR (s:Bool) (ob:Nat->Option Ob) (m k v:V):Option RB:=match m with
 | .map n=>match tM k with
  | some a=>match ob n with
   | some (.smap s' es)=>bif MO s' s && MO a.kind s then some ⟨.undef,some (n,.smap s' (HC es a v)),false⟩ else none
   | _=>none
  | none=>none
 | _=>none
theorem bR {s:Bool} {ob:Nat->Option Ob} {m k v:V} {r:RB} (h:uR s ob m k v=some r):vF (wI s ob m k v) r/\r.new=false /\ ∃ n,(∃ o,r.wr=some (n,o))/\(ob n).isSome=true:=by
 unfold uR at h;split at h
 ·rename_i n;split at h
  ·rename_i a ea;split at h
   ·rename_i s' es eo;have h1:=(RA h).1;cases (RA h).2;simp only [Bool.and_eq_true] at h1;refine⟨?_,rfl,n,⟨_,rfl⟩,by rw [eo];rfl⟩;simp only [wI,ea,eo];exact⟨_,rfl,⟨yR h1.1,yR h1.2⟩,rfl,rfl,rfl⟩
   ·cases h
  ·cases h
 ·cases h
def NO (s ok:Bool) (z:PV) (ob:Nat->Option Ob) (m k:V):Option V:=match m with
 | .map n=>match tM k with
  | some a=>match ob n with
   | some (.smap s' es)=>bif MO s' s && MO a.kind s then (match GC es a,ok with
    | some x,true=>some (.tuple [x,.pv (.bool true)])
    | none,true=>some (.pv (.tuple [z,.bool false]))
    | some x,false=>some x
    | none,false=>some (.pv z)) else none
   | _=>none
  | none=>none
 | _=>none
theorem Wj {s ok:Bool} {z:PV} {ob:Nat->Option Ob} {m k x:V} (h:NO s ok z ob m k=some x):Got (nJ s ok z ob m k) x:=by
 unfold NO at h;split at h
 ·rename_i n;split at h
  ·rename_i a ea;split at h
   ·rename_i s' es eo;have h1:=(RA h).1;replace h:=(RA h).2;simp only [Bool.and_eq_true] at h1;simp only [nJ,ea,eo];refine⟨_,rfl,⟨yR h1.1,yR h1.2⟩,?_,rfl,rfl⟩;cases hg:GC es a<;>cases ok<;>rw [hg] at h<;>cases h<;>rfl
   ·cases h
  ·cases h
 ·cases h
def gV:V->Option V
 | .pv (.str l)=>some (.pv (.int (.ofNat l.length)))
 | _=>none
theorem Xj {x y:V} (h:gV x=some y):Got (oU x) y:=by
 unfold gV at h;split at h
 ·cases h;exact⟨_,rfl,trivial,rfl,rfl,rfl⟩
 ·cases h
def lV (x i:V):Option V:=match x with
 | .pv (.str l)=>match i with
  | .pv (.int z)=>match OD z with
   | some k=>match QB l k with
    | some b=>some (.pv (.num .u8 (.ofNat b)))
    | none=>none
   | none=>none
  | _=>none
 | _=>none
theorem Yj {x i y:V} (h:lV x i=some y):Got (xU x i) y:=by
 unfold lV at h;split at h
 ·rename_i l;split at h
  ·rename_i z;split at h
   ·rename_i k ek;have hz:=DJ ek;subst hz;split at h
    ·rename_i b hb;cases h;rw [BG] at hb;have hlt:k<l.length:=(List.getElem?_eq_some_iff.1 hb).1;have hg:l.getD k 0=b:=by rw [List.getD_eq_getElem?_getD,hb];rfl
     refine⟨_,rfl,⟨by omega,by omega⟩,?_,rfl,rfl⟩;simp only [R.ofIf,Int.toNat_natCast,hg];rfl
    ·cases h
   ·cases h
  ·cases h
 ·cases h
def dR (d:Nat):Option V->Option Nat
 | none=>some d
 | some (.pv (.int k))=>OD k
 | _=>none
theorem ba {d n:Nat} {x:Option V} (h:dR d x=some n):uI (d:Int) x=some (n:Int):=by
 unfold dR at h;unfold uI;split at h
 ·cases h;rfl
 ·simp only [DJ h]
 ·cases h
def mV (x:V) (lo hi mx:Option V):Option V:=match x with
 | .pv (.str l)=>match mx with
  | none=>match dR 0 lo,dR l.length hi with
   | some a,some b=>bif Nat.ble a b && Nat.ble b l.length then (match HM (AJ l a) (b-a) with
    | some r=>some (.pv (.str r))
    | none=>none) else none
   | _,_=>none
  | some _=>none
 | _=>none
theorem Zj {x y:V} {lo hi mx:Option V} (h:mV x lo hi mx=some y):Got (DQ x lo hi mx) y:=by
 unfold mV at h;split at h
 ·rename_i l;split at h
  ·split at h
   ·rename_i a b ea eb;have h1:=(RA h).1;replace h:=(RA h).2;simp only [Bool.and_eq_true] at h1;have h2:=Nat.le_of_ble_eq_true h1.1;have h3:=Nat.le_of_ble_eq_true h1.2;split at h
    ·rename_i r hr;cases h;rw [qR,ZQ] at hr;split at hr
     ·cases hr;have ea':=ba ea;have eb':=ba eb;have ea'':uI 0 lo=some (a:Int):=ea';simp only [DQ,ea'',eb'];refine⟨_,rfl,⟨by omega,by omega,by omega⟩,?_,rfl,rfl⟩;have:((b:Int)-(a:Int)).toNat=b-a:=by omega
      simp [R.ofIf,this]
     ·cases hr
    ·cases h
   ·cases h
  ·cases h
 ·cases h
def fR (nx:Nat):V->Option RB
 | .pv (.str l)=>some ⟨.loc nx 0,some (nx,.siter l 0),true⟩
 | _=>none
def nV (ob:Nat->Option Ob):V->Option RB
 | .loc n 0=>match ob n with
  | some (.siter l p)=>match QB l p with
   | some b=>bif Nat.blt b 128 then some ⟨.pv (.tuple [.bool true,.int (.ofNat p),.num .i32 (.ofNat b)]),some (n,.siter l (p+1)),false⟩ else none
   | none=>some ⟨.pv (.tuple [.bool false]),none,false⟩
  | _=>none
 | _=>none
theorem da {ob:Nat->Option Ob} {x:V} {r:RB} (h:nV ob x=some r):vF (aM ob x) r/\r.new=false /\ ∀ n o,r.wr=some (n,o)->(ob n).isSome=true:=by
 unfold nV at h;split at h
 ·rename_i n;split at h
  ·rename_i l p eo;rw [BG] at h;split at h
   ·rename_i b hb;have h1:=ND (RA h).1;cases (RA h).2;refine⟨?_,rfl,λ n' o e=>by cases e;rw [eo];rfl⟩;simp only [aM,eo,hb];exact⟨_,rfl,h1,rfl,rfl,rfl⟩
   ·rename_i hb;cases h;refine⟨?_,rfl,λ n' o e=>by cases e⟩;simp only [aM,eo,hb];exact⟨_,rfl,trivial,rfl,rfl,rfl⟩
  ·cases h
 ·cases h
def OO (T:Nat->Option TI) (s t:Nat) (x:V):Option V:=match T s with
 | some _=>match T t with
  | some ⟨.num k,_,_,_,_⟩=>match x with
   | .pv (.num _ n)=>xD k (k.wrap n)
   | .pv (.int n)=>xD k (k.wrap n)
   | _=>none
  | some ⟨.int,_,_,_,_⟩=>match x with
   | .pv (.num _ n)=>FF (IntKind.i64.wrap n)
   | .pv (.int n)=>FF (IntKind.i64.wrap n)
   | _=>none
  | _=>none
 | none=>none
def PO (T:Nat->Option TI) (s t:Nat) (x:V):Option V:=match T s with
 | some ⟨.slice e,_,_,_,_⟩=>match T t with
  | some ⟨.str,_,_,_,_⟩=>match x with
   | .pv (.slice es)=>match T e with
    | some ⟨.num .u8,_,_,_,_⟩=>match yI es with
     | some (b::l)=>some (.pv (.str (b::l)))
     | _=>none
    | _=>none
   | _=>none
  | _=>none
 | _=>none
theorem la {x:Int} {v:V} (h:FF x=some v):v = .pv (.int x):=by
 unfold FF at h
 cases e:rA x with
 | true=>rw [e] at h;cases h;rfl
 | false=>rw [e] at h;cases h
theorem qk {T:Nat->Option TI} {s t:Nat} {x y:V} : OO T s t x=some y->Got (match T s,T t,x with
  | some _,some ⟨.num k,_,_,_,_⟩,.pv (.num _ n)=>some (R.of (.pv (.num k (k.wrap n))))
  | some _,some ⟨.num k,_,_,_,_⟩,.pv (.int n)=>some (R.of (.pv (.num k (k.wrap n))))
  | some _,some ⟨.int,_,_,_,_⟩,.pv (.num _ n)=>some (R.of (.pv (.int (IntKind.i64.wrap n))))
  | some _,some ⟨.int,_,_,_,_⟩,.pv (.int n)=>some (R.of (.pv (.int (IntKind.i64.wrap n))))
  | some ⟨.slice e,_,_,_,_⟩,some ⟨.str,_,_,_,_⟩,.pv (.slice es)=>match T e,yI es with
   | some ⟨.num .u8,_,_,_,_⟩,some (b::l)=>some (R.of (.pv (.str (b::l))))
   | _,_=>none
  | _,_,_=>none) y:=by
 intro h;unfold OO at h;split at h
 ·rename_i si es;split at h
  ·rename_i k a b c d et;split at h
   ·simp only [es,et];rw [kR h];exact⟨_,rfl,trivial,rfl,rfl,rfl⟩
   ·simp only [es,et];rw [kR h];exact⟨_,rfl,trivial,rfl,rfl,rfl⟩
   ·cases h
  ·rename_i a b c d et;split at h
   ·simp only [es,et];rw [la h];exact⟨_,rfl,trivial,rfl,rfl,rfl⟩
   ·simp only [es,et];rw [la h];exact⟨_,rfl,trivial,rfl,rfl,rfl⟩
   ·cases h
  ·cases h
 ·cases h
theorem zk {T:Nat->Option TI} {s t:Nat} {x y:V} : PO T s t x=some y->Got (match T s,T t,x with
  | some _,some ⟨.num k,_,_,_,_⟩,.pv (.num _ n)=>some (R.of (.pv (.num k (k.wrap n))))
  | some _,some ⟨.num k,_,_,_,_⟩,.pv (.int n)=>some (R.of (.pv (.num k (k.wrap n))))
  | some _,some ⟨.int,_,_,_,_⟩,.pv (.num _ n)=>some (R.of (.pv (.int (IntKind.i64.wrap n))))
  | some _,some ⟨.int,_,_,_,_⟩,.pv (.int n)=>some (R.of (.pv (.int (IntKind.i64.wrap n))))
  | some ⟨.slice e,_,_,_,_⟩,some ⟨.str,_,_,_,_⟩,.pv (.slice es)=>match T e,yI es with
   | some ⟨.num .u8,_,_,_,_⟩,some (b::l)=>some (R.of (.pv (.str (b::l))))
   | _,_=>none
  | _,_,_=>none) y:=by
 intro h;unfold PO at h;split at h
 ·rename_i es;split at h
  ·rename_i et;split at h
   ·split at h
    ·rename_i ee;split at h
     ·rename_i el;cases h;simp only [es,et,ee,el];exact⟨_,rfl,trivial,rfl,rfl,rfl⟩
     ·cases h
    ·cases h
   ·cases h
  ·cases h
 ·cases h
def pV (ti:TI) (t:Nat) (ok:Bool) (x:V):Option V:=match x with
 | .pv (.iface t' p)=>bif Nat.beq t' t then (match ok with
   | true=>some (.pv (.tuple [p,.bool true]))
   | false=>some (.pv p))
  else (match ok with
   | true=>match kI ti with
    | some z=>some (.pv (.tuple [z,.bool false]))
    | none=>none
   | false=>none)
 | .pv .nilif=>match ok with
   | true=>match kI ti with
    | some z=>some (.pv (.tuple [z,.bool false]))
    | none=>none
   | false=>none
 | _=>none
theorem jk {ti:TI} {t:Nat} {ok:Bool} {x y:V} (h:pV ti t ok x=some y):Got (CQ ti t ok x) y:=by
 unfold pV at h;unfold CQ;split at h
 ·rename_i t' p;simp only
  cases e:Nat.beq t' t with
  | true =>
   rw [e] at h;simp only [cond_true] at h;rw [if_pos (Nat.eq_of_beq_eq_true e)];cases ok<;>cases h<;>exact⟨_,rfl,trivial,rfl,rfl,rfl⟩
  | false =>
   rw [e] at h;simp only [cond_false] at h;have hne:¬ t'=t:=λ e'=>by rw [vE e'] at e;cases e
   rw [if_neg hne]
   cases ok with
   | false=>cases h
   | true =>
    simp only at h;split at h
    ·rename_i z ez;cases h;simp only [ez];exact⟨_,rfl,trivial,rfl,rfl,rfl⟩
    ·cases h
 ·cases ok with
  | false=>cases h
  | true =>
   simp only at h;split at h
   ·rename_i z ez;cases h;simp only [ez];exact⟨_,rfl,trivial,rfl,rfl,rfl⟩
   ·cases h
 ·cases h
def ma (x:V):Option V:=match x with
 | .pv (.ptr cs)=>some (.pv (.ptr cs))
 | .pv (.nptr cs)=>some (.pv (.nptr cs))
 | .loc n off=>some (.loc n off)
 | .eloc n v i o=>some (.eloc n v i o)
 | _=>none
def na (T:Nat->Option TI) (t f:Nat) (x:V):Option V:=match T t with
 | some ⟨.struct fs _,_,_,_,_⟩=>match fs[f]? with
  | some (off,size)=>bif Nat.beq size 0 then none else lJ x off
  | none=>none
 | _=>none
def pa (T:Nat->Option TI) (t f:Nat) (x:V):Option V:=match T t with
 | some ⟨.struct fs pl,_,_,_,_⟩=>bif pl.elem f then (match fs[f]? with
  | some (off,_)=>(match x with
   | .pv (.agg cs)=>(match cs[off]? with|some c=>some (.pv c)|none=>none)
   | .agg cs=>cs[off]?
   | _=>none)
  | none=>none) else none
 | _=>none
def ro (x:Option V):Option RB:=match x with
 | some v=>some ⟨v,none,false⟩
 | none=>none
def KC (T:Nat->Option TI) (nx:Nat) (val:Operand->V) (ob:Nat->Option Ob) (dst:Option Nat) (op:Op):Option RB:=match op with
 | .move x=>rb (val x)
 | .assign x=>rb (val x)
 | .pick c a b=>match val c with
  | .pv (.bool true)=>rb (val a)
  | .pv (.bool false)=>rb (val b)
  | _=>none
 | .alloc t=>bV T nx t
 | .box _ x=>dV nx (val x)
 | .build t parts=>ro (fV T t (parts.toList.map λ p=>(p.1,val p.2)))
 | .makeFunc (.func f) first caps=>match first.toList with
  | []=>rb (.fn f (caps.toList.map val))
  | a::l=>match caps.toList with
   | []=>rb (.bfn f ((a::l).map val))
   | _::_=>none
 | .buildSlice t len parts=>match T t with
  | some ⟨.slice e,_,_,_,_⟩=>match T e with
   | some te=>match KO 0 (parts.toList.map λ p=>(p.1,val p.2)) with
    | some es=>LO e te nx len es
    | none=>none
   | none=>none
  | _=>none
 | .load t x=>match T t with
  | some ti=>ro (vV ti ob (val x))
  | none=>none
 | .store t x y=>match dst with
  | none=>match T t with
   | some ti=>lL ti ob (val x) (val y)
   | none=>none
  | some _=>none
 | .nilCheck x=>ro (ma (val x))
 | .binOp b t x y _=>match T t with
  | some ti=>ro (nL ti.k b (val x) (val y) y)
  | none=>none
 | .unOp .not _ x=>match val x with
  | .pv (.bool b)=>rb (bv (!b))
  | _=>none
 | .makeInterface t x=>match T t with
  | some ti=>match val x with
   | .pv p=>bif ti.k.isIface then none else rb (.pv (.iface t p))
   | _=>none
  | none=>none
 | .fieldAddr t x f=>ro (na T t f (val x))
 | .field t x f=>ro (pa T t f (val x))
 | .indexAddr t x i=>ro (vR T ob t (val x) (val i))
 | .extract x i=>ro (ua (val x) i)
 | .range t x=>match T t with
  | some ⟨.str,_,_,_,_⟩=>fR nx (val x)
  | _=>none
 | .next x true=>nV ob (val x)
 | .index t x i=>match T t with
  | some ⟨.str,_,_,_,_⟩=>ro (lV (val x) (val i))
  | _=>none
 | .convert s t x=>ro (match OO T s t (val x) with
  | some y=>some y
  | none=>PO T s t (val x))
 | .typeAssert x _ t ok=>match T t with
  | some ti=>bif ti.k.isIface then none else ro (pV ti t ok (val x))
  | none=>none
 | .makeMap t none=>match T t with
  | some ⟨.smap _ _ s,_,_,_,_⟩=>some ⟨.map nx,some (nx,.smap s []),true⟩
  | _=>none
 | .mapUpdate t m k v=>match dst with
  | none=>match T t with
   | some ⟨.smap _ _ s,_,_,_,_⟩=>uR s ob (val m) (val k) (val v)
   | _=>none
  | some _=>none
 | .insert t m k v=>match dst with
  | none=>match T t with
   | some ⟨.smap _ _ s,_,_,_,_⟩=>uR s ob (val m) (val k) (val v)
   | _=>none
  | some _=>none
 | .lookup t m k ok=>match T t with
  | some ⟨.smap _ vt s,_,_,_,_⟩=>match T vt with
   | some tv=>match kI tv with
    | some z=>ro (NO s ok z ob (val m) (val k))
    | none=>none
   | none=>none
  | _=>none
 | .slice t x lo hi mx=>match T t with
  | some ⟨.slice e,_,_,_,_⟩=>match T e with
   | some te=>ro (HO te ob (val x) (lo.map val) (hi.map val) (mx.map val))
   | none=>none
  | some ⟨.str,_,_,_,_⟩=>ro (mV (val x) (lo.map val) (hi.map val) (mx.map val))
  | _=>none
 | .call { callee:=.builtin .len,args,argTypes } => match argTypes.toList,args.toList with
  | [t],[x]=>match T t with
   | some ⟨.slice _,_,_,_,_⟩=>ro (kV ob (val x))
   | some ⟨.str,_,_,_,_⟩=>ro (gV (val x))
   | _=>none
  | _,_=>none
 | .call { callee:=.builtin .append,args,argTypes } => match argTypes.toList,args.toList with
  | [t,t'],[x,y]=>bif Nat.beq t t' then (match T t with
    | some ⟨.slice e,_,_,_,_⟩=>match T e with
     | some te=>gI e te ob nx (val x) (val y)
     | none=>none
    | _=>none) else none
  | _,_=>none
 | .call { callee:=.builtin .max,args,argTypes:=_ } => match args.toList with
  | [x,y]=>match val x,val y with
   | .pv (.int a),.pv (.int b)=>rb (.pv (.int (bif kA a b then b else a)))
   | _,_=>none
  | _=>none
 | _=>none
theorem DG {x:V} {r:RB} (h:rb x=some r) {f:Prop} : vF (some ⟨True,f,x,none,false⟩) r:=by
 cases h;exact⟨_,rfl,trivial,rfl,rfl,rfl⟩
theorem AD {o:Option V} {r:RB} (h:ro o=some r):∃ v,o=some v/\r=⟨v,none,false⟩:=by
 unfold ro at h;split at h
 ·cases h;exact⟨_,rfl,rfl⟩
 ·cases h
theorem lI {x:V} {r:RB} (h:rb x=some r) {nx:Nat} : r.new=true->∃ q,r.wr=some (nx,q):=by
 cases h;simp
theorem vk {T:Nat->Option TI} {t:Nat} {ps:List (Nat × V)} {x:V} (h:fV T t ps=some x) :
  Got (match T t with
  | some ⟨.struct fs _,_,_,_,zc⟩=>(AF fs (oA zc) ps).map (λ cs=>R.of (xF cs))
  | some ⟨.array m e,_,_,_,zc⟩=>match T e with
   | some te=>(AF (vH te.size m 0) (oA zc) ps).map (λ cs=>R.of (xF cs))
   | none=>none
  | _=>none) x:=by
 unfold fV at h;split at h
 ·rename_i fs pl a b c zc et
  try simp only [et]
  split at h
  ·rename_i cs ec;cases h;rw [yV ec,jV];exact⟨_,rfl,trivial,rfl,rfl,rfl⟩
  ·cases h
 ·rename_i m e a b c zc et
  try simp only [et]
  split at h
  ·rename_i te ee
   try simp only [ee]
   split at h
   ·rename_i cs ec;cases h;rw [yV ec,jV];exact⟨_,rfl,trivial,rfl,rfl,rfl⟩
   ·cases h
  ·cases h
 ·cases h
theorem sa {T:Nat->Option TI} {nx:Nat} {val:Operand->V} {ob:Nat->Option Ob} {dst:Option Nat} {op:Op} {r:RB} (h:KC T nx val ob dst op=some r) :
  ∃ note,vF (gA T note val ob dst op) r/\(r.new=true->∃ o,r.wr=some (nx,o)):=by
 unfold KC at h;split at h
 ·refine⟨.none,?_,lI h⟩;simp only [gA,mJ];exact DG h
 ·refine⟨.none,?_,lI h⟩;simp only [gA,mJ];exact DG h
 ·rename_i c a b;have key:∀ (bb:Bool),val c = .pv (.bool bb)->rb (bif bb then val a else val b)=some r->vF (gA T .none val ob dst (.pick c a b)) r:=by
   intro bb hc hr;simp only [gA,hc];cases bb<;>simp only [cond_true,cond_false] at hr
   ·split
    ·rename_i e1 e2 e3;rw [e3] at hr;cases e1;exact DG hr
    ·rename_i e1 _;cases e1
    ·exact DG hr
    ·rename_i h1 h2 h3;exact (h2 rfl).elim
   ·split
    ·rename_i e1 e2 e3;rw [e2] at hr;cases e1;exact DG hr
    ·exact DG hr
    ·rename_i e1 _;cases e1
    ·rename_i h1 h2 h3;exact (h1 rfl).elim
  split at h
  ·rename_i hc;exact⟨.none,key true hc h,lI h⟩
  ·rename_i hc;exact⟨.none,key false hc h,lI h⟩
  ·cases h
 ·rename_i t;unfold bV at h;split at h
  ·rename_i ti et;cases h;refine⟨.box nx,?_,λ _=>⟨_,rfl⟩⟩;simp only [gA,et];exact⟨_,rfl,trivial,rfl,rfl,rfl⟩
  ·cases h
 ·rename_i t x;unfold dV at h;split at h
  ·rename_i cs ec;obtain⟨h1,h⟩:=RA h;cases h;refine⟨.box nx,?_,λ _=>⟨_,rfl⟩⟩;simp only [gA,ec];rw [if_pos (AO h1)];exact⟨_,rfl,trivial,rfl,rfl,rfl⟩
  ·cases h
 ·rename_i t parts;obtain⟨v,hv,rfl⟩:=AD h;refine⟨.none,?_,by simp⟩;simp only [gA];exact (vk hv).r
 ·rename_i f first caps
  split at h
  ·rename_i e;refine⟨.none,?_,lI h⟩;have e0:first.size=0:=by rw [<- Array.length_toList,e];rfl
   simp only [gA,e0,if_true];exact DG h
  ·rename_i a l e;split at h
   ·rename_i e';refine⟨.none,?_,lI h⟩;have e0:¬ first.size=0:=by rw [<- Array.length_toList,e];simp
    have e1:caps.size=0:=by rw [<- Array.length_toList,e'];rfl
    simp only [gA,e0,e1,if_true,if_false,e];exact DG h
   ·cases h
 ·rename_i t len parts;split at h
  ·rename_i e a b c d et;split at h
   ·rename_i te ee;split at h
    ·rename_i es ep;obtain⟨note,hr,hn⟩:=Rj h;refine⟨note,?_,hn⟩;simp only [gA,et,ee,uV ep];exact hr
    ·cases h
   ·cases h
  ·cases h
 ·rename_i t x;split at h
  ·rename_i ti et;obtain⟨v,hv,rfl⟩:=AD h;refine⟨.none,?_,by simp⟩;simp only [gA,et];exact (Mj hv).r
  ·cases h
 ·rename_i t x y;split at h
  ·split at h
   ·rename_i ti et;refine⟨.none,?_,?_⟩
    ·simp only [gA,et];exact ya h
    ·obtain⟨q,_,_,_,_,_⟩:=ya h;unfold lL at h;intro hn;exfalso;revert hn h;simp only [GO]
     repeat' (first|split|(intro h;cases h)|simp only [cond] )
     all_goals (intro h;first|(cases h;done)|(cases h;simp))
   ·cases h
  ·cases h
 ·obtain⟨v,hv,rfl⟩:=AD h;refine⟨.none,?_,by simp⟩;unfold ma at hv;simp only [gA];split at hv<;>rename_i ev<;>cases hv<;>rw [ev]<;>exact⟨_,rfl,trivial,rfl,rfl,rfl⟩
 ·split at h
  ·rename_i ti et;obtain⟨v,hv,rfl⟩:=AD h;refine⟨.none,?_,by simp⟩;simp only [gA,et];exact (Vj hv).r
  ·cases h
 ·split at h
  ·rename_i b eb;refine⟨.none,?_,lI h⟩;simp only [gA,eb,PB];exact DG h
  ·cases h
 ·split at h
  ·rename_i ti et;split at h
   ·rename_i p ep
    cases e:ti.k.isIface with
    | true=>rw [e] at h;cases h
    | false =>
     rw [e] at h;refine⟨.none,?_,lI h⟩;simp only [gA,et,ep,e];exact DG h
   ·cases h
  ·cases h
 ·obtain⟨v,hv,rfl⟩:=AD h;refine⟨.none,?_,by simp⟩;unfold na at hv;simp only [gA];split at hv
  ·rename_i fs pl a b c d et;split at hv
   ·rename_i off size ef
    cases e:Nat.beq size 0 with
    | true=>rw [e] at hv;cases hv
    | false =>
     rw [e] at hv;simp only [cond_false] at hv;have hs:¬ size=0:=λ e'=>by rw [vE e'] at e;cases e
     simp only [et,ef,hs,if_false,hv];exact⟨_,rfl,trivial,rfl,rfl,rfl⟩
   ·cases hv
  ·cases hv
 ·obtain⟨v,hv,rfl⟩:=AD h;refine⟨.none,?_,by simp⟩;unfold pa at hv;simp only [gA];split at hv
  ·rename_i fs pl a b c d et
   cases e:pl.elem _ with
   | false=>rw [e] at hv;cases hv
   | true =>
    rw [e] at hv;simp only [cond_true] at hv;split at hv
    ·rename_i off size ef;simp only [et,ef,e,cond_true];split at hv
     ·split at hv
      ·rename_i ex _ c ec;cases hv;simp only [ex,ec,Option.map_some];exact⟨_,rfl,trivial,rfl,rfl,rfl⟩
      ·cases hv
     ·rename_i cs ex;simp only [ex,hv,Option.map_some];exact⟨_,rfl,trivial,rfl,rfl,rfl⟩
     ·cases hv
    ·cases hv
  ·cases hv
 ·obtain⟨v,hv,rfl⟩:=AD h;refine⟨.none,?_,by simp⟩;simp only [gA];exact (Nj hv).r
 ·obtain⟨v,hv,rfl⟩:=AD h;refine⟨.none,?_,by simp⟩;unfold ua at hv;simp only [gA];simp only [BG] at hv;split at hv
  ·rename_i cs ev;split at hv
   ·rename_i c ec;cases hv;simp only [ev,ec];exact⟨_,rfl,trivial,rfl,rfl,rfl⟩
   ·cases hv
  ·rename_i cs ev;simp only [ev,hv];exact⟨_,rfl,trivial,rfl,rfl,rfl⟩
  ·cases hv
 ·rename_i t x;split at h
  ·rename_i a b c d et;refine⟨.siter nx,?_,?_⟩
   ·simp only [gA,et];unfold fR at h;split at h
    ·rename_i l el;cases h;simp only [iU,el];exact⟨_,rfl,trivial,rfl,rfl,rfl⟩
    ·cases h
   ·intro _;unfold fR at h;split at h
    ·cases h;exact⟨_,rfl⟩
    ·cases h
  ·cases h
 ·obtain⟨h1,h2,_⟩:=da h;refine⟨.none,?_,by rw [h2];simp⟩;simp only [gA];exact h1
 ·split at h
  ·rename_i a b c d et;obtain⟨v,hv,rfl⟩:=AD h;refine⟨.none,?_,by simp⟩;simp only [gA,et];exact (Yj hv).r
  ·cases h
 ·obtain⟨v,hv,rfl⟩:=AD h;refine⟨.none,?_,by simp⟩;simp only [gA];split at hv
  ·rename_i hv';cases hv;exact (qk hv').r
  ·exact (zk hv).r
 ·split at h
  ·rename_i ti et
   cases e:ti.k.isIface with
   | true=>rw [e] at h;cases h
   | false =>
    rw [e] at h;obtain⟨v,hv,rfl⟩:=AD h;refine⟨.none,?_,by simp⟩;simp only [gA,et,e];exact (jk hv).r
  ·cases h
 ·split at h
  ·rename_i kt vt sk a b c d et;cases h;refine⟨.smap nx sk,?_,λ _=>⟨_,rfl⟩⟩;simp only [gA];exact⟨_,rfl,trivial,rfl,rfl,rfl⟩
  ·cases h
 ·split at h
  ·split at h
   ·rename_i kt vt sk a b c d et;obtain⟨h1,h2,_⟩:=bR h;refine⟨.none,?_,by rw [h2];simp⟩;simp only [gA,et];exact h1
   ·cases h
  ·cases h
 ·split at h
  ·split at h
   ·rename_i kt vt sk a b c d et;obtain⟨h1,h2,_⟩:=bR h;refine⟨.none,?_,by rw [h2];simp⟩;simp only [gA,et];exact h1
   ·cases h
  ·cases h
 ·split at h
  ·rename_i kt vt sk a b c d et;split at h
   ·rename_i tv ev;split at h
    ·rename_i z ez;obtain⟨v,hv,rfl⟩:=AD h;refine⟨.none,?_,by simp⟩;simp only [gA,et,ev,ez];exact (Wj hv).r
    ·cases h
   ·cases h
  ·cases h
 ·split at h
  ·rename_i e a b c d et;split at h
   ·rename_i te ee;obtain⟨v,hv,rfl⟩:=AD h;refine⟨.none,?_,by simp⟩;simp only [gA,et,ee];exact (Qj hv).r
   ·cases h
  ·rename_i a b c d et;obtain⟨v,hv,rfl⟩:=AD h;refine⟨.none,?_,by simp⟩;simp only [gA,et];exact (Zj hv).r
  ·cases h
 ·split at h
  ·rename_i t x et ex;split at h
   ·rename_i e a b c d ett;obtain⟨v,hv,rfl⟩:=AD h;refine⟨.none,?_,by simp⟩;simp only [gA,et,ex,ett];exact (Oj hv).r
   ·rename_i a b c d ett;obtain⟨v,hv,rfl⟩:=AD h;refine⟨.none,?_,by simp⟩;simp only [gA,et,ex,ett];exact (Xj hv).r
   ·cases h
  ·cases h
 ·split at h
  ·rename_i t t' x y et ex;have h1:=(RA h).1;replace h:=(RA h).2;have ht:=Nat.eq_of_beq_eq_true h1;subst ht;split at h
   ·rename_i e a b c d ett;split at h
    ·rename_i te ee;obtain⟨note,hr,hn⟩:=Pj (xo:=x) h;refine⟨note,?_,hn⟩;simp only [gA,et,ex,ett,ee,if_true];exact hr
    ·cases h
   ·cases h
  ·cases h
 ·split at h
  ·rename_i x y ex;split at h
   ·rename_i a b ea eb;refine⟨.none,?_,lI h⟩;simp only [gA,ex,ea,eb];have:(if b > a then b else a)=bif kA a b then b else a:=by
     rw [KB];by_cases hh:a<b
     ·rw [if_pos (show b > a from hh),decide_eq_true hh];rfl
     ·rw [if_neg (show ¬ b > a from hh),decide_eq_false hh];rfl
    rw [this];exact DG h
   ·cases h
  ·cases h
 ·cases h
structure IS where
 sl:Tr V
 ob:Tr Ob
 nx:Nat
 dt:List Nat
inductive AE where
 | normal
 | exit (i:Nat)
 | ret
structure aB where
 x:V
 ch:List (Nat × Ob)
 nw:List (Nat × Ob)
 nx:Nat
structure Tc where
 wn:List Nat
 rd:List Nat
structure jB where
 T:Nat->Option TI
 gl:Nat->Option (List PV)
 F:Nat->Option Func
 intr:Nat->List V->Option V
def IS.val (gl:Nat->Option (List PV)) (s:IS):Operand->V
 | .tmp t=>match s.sl.get t with
  | some v=>v
  | none => .undef
 | .const v=>nM v
 | .func f => .fn f []
 | .global g=>match gl g with
  | some cs => .pv (.ptr cs)
  | none => .undef
def PD (t:Tr V) (dst:Option Nat) (x:V):Tr V:=match dst with
 | none=>t
 | some d=>t.put d (some x)
def EJ (bs n:Nat) (l:List Nat):List Nat:=bif Nat.blt n bs then n::l else l
def IS.app (bs:Nat) (s:IS) (dst:Option Nat) (r:RB):IS:=match r.wr with
 | none=>⟨PD s.sl dst r.x,s.ob,s.nx,s.dt⟩
 | some (n,o)=>bif r.new then ⟨PD s.sl dst r.x,s.ob.put n (some o),Nat.succ s.nx,s.dt⟩ else ⟨PD s.sl dst r.x,s.ob.put n (some o),s.nx,EJ bs n s.dt⟩
def yk:V->List Nat
 | .arr n _ _=>[n]
 | _=>[]
def gR:V->List Nat
 | .arr n _ _=>[n]
 | .agg cs=>cs.flatMap yk
 | _=>[]
def mI (bs:Nat) (s:IS) (n:Nat):IS:=bif Nat.blt n bs then s else (match s.ob.get n with
 | some (.arr ver _ _ es)=>match cE es with
  | some ps=>⟨s.sl.map (rC n ver ps),(s.ob.put n none).map (JC n ver ps),s.nx,s.dt⟩
  | none=>s
 | _=>s)
def QO (bs:Nat):List Nat->IS->IS
 | [],s=>s
 | n::r,s=>QO bs r (mI bs s n)
def JM (bs:Nat):List Nat->IS->IS
 | [],s=>s
 | t::r,s=>JM bs r (match s.sl.get t with
  | some v=>QO bs (gR v) s
  | none=>s)
def KM:List Operand->List Nat
 | []=>[]
 | .tmp t::r=>t::KM r
 | _::r=>KM r
def uk:Op->List Nat
 | .call { callee:=.value _,args,.. } => KM args.toList
 | .call { callee:=.builtin .append,args,.. } => KM (args.toList.drop 1)
 | .buildSlice _ _ ps=>KM (ps.toList.map (·.2))
 | .makeInterface _ x=>KM [x]
 | _=>[]
def RO:List Oper->List Nat
 | []=>[]
 | o::r=>uk o.op++RO r
def reach (nx:Nat) (ob:Tr Ob):Nat->List Nat->Tr Ob->List Nat->Option (Tr Ob × List Nat)
 | 0,_,_,_=>none
 | _+1,[],sub,l=>some (sub,l)
 | f+1,n::r,sub,l=>bif Nat.blt n nx then (match sub.get n with
  | some _=>reach nx ob f r sub l
  | none=>match ob.get n with
   | none=>reach nx ob f r sub l
   | some o=>reach nx ob f (o.names++r) (sub.put n (some o)) (n::l)) else none
def nI (bs nx:Nat) (sub ob:Tr Ob):Nat->List Nat->Tr Ob->List (Nat × Ob)->Option (List (Nat × Ob))
 | 0,_,_,_=>none
 | _+1,[],_,l=>some l
 | f+1,n::r,seen,l=>bif Nat.blt n bs then (match sub.get n with
   | some _=>nI bs nx sub ob f r seen l
   | none=>none) else match seen.get n with
  | some _=>nI bs nx sub ob f r seen l
  | none=>match ob.get n with
   | none=>none
   | some o=>bif Nat.blt n nx then nI bs nx sub ob f (o.names++r) (seen.put n (some o)) ((n,o)::l) else none
def pL:List Nat->Tr Ob->List Nat
 | [],_=>[]
 | n::r,seen=>match seen.get n with
  | some _=>pL r seen
  | none=>n::pL r (seen.put n (some (.box [])))
def lR (ob:Tr Ob):List Nat->Option (List (Nat × Ob))
 | []=>some []
 | n::r=>match ob.get n with
  | some o=>match lR ob r with
   | some l=>some ((n,o)::l)
   | none=>none
  | none=>none
def SO:List (Nat × Ob)->List Nat
 | []=>[]
 | (_,o)::r=>o.names++SO r
def TO (T:Nat->Option TI) (s:IS):ResultVar->Option V
 | .tmp t=>some (match s.sl.get t with|some v=>v|none => .undef)
 | .cell a t=>match T t,s.sl.get a with
  | some ti,some (.loc n off)=>match s.ob.get n with
   | some (.box cs)=>jH ti.isAgg ti.size (cs.drop off)
   | _=>none
  | _,_=>none
def mR (T:Nat->Option TI) (s:IS):List ResultVar->Option (List V)
 | []=>some []
 | r::rs=>match TO T s r,mR T s rs with
  | some x,some xs=>some (x::xs)
  | _,_=>none
def nR (bs:Nat):List Nat->List Nat
 | []=>[]
 | n::r=>bif Nat.blt n bs then nR bs r else n::nR bs r
def FJ (T:Nat->Option TI) (bs:Nat):List ResultVar->IS->IS
 | [],s=>s
 | r::rs,s=>FJ T bs rs (match TO T s r with
  | some v=>QO bs (nR bs (gR v)) s
  | none=>s)
def GJ (T:Nat->Option TI) (bs:Nat) (sub:Tr Ob) (rs:List ResultVar) (s:IS):Option aB:=match mR T s rs with
 | some xs=>match lR s.ob (pL s.dt .nil) with
  | some ch=>match nI bs s.nx sub s.ob 1000000 ((eO xs).names++SO ch) .nil [] with
   | some nw=>some ⟨eO xs,ch,nw,s.nx⟩
   | none=>none
  | none=>none
 | none=>none
def rL (T:Nat->Option TI) (bs:Nat) (sub:Tr Ob) (rs:List ResultVar):AE->IS->Option aB
 | .exit _,_=>none
 | _,s=>GJ T bs sub rs (FJ T bs rs s)
def HJ (bs:Nat):List (Nat × Ob)->List Nat->List Nat
 | [],l=>l
 | (n,_)::r,l=>HJ bs r (EJ bs n l)
def eE:List (Nat × Ob)->Tr Ob->Tr Ob
 | [],t=>t
 | (n,o)::r,t=>eE r (t.put n (some o))
def iE:Nat->List V->Tr V->Tr V
 | _,[],t=>t
 | k,x::xs,t=>iE (Nat.succ k) xs (t.put k (some x))
abbrev VO:=Nat->Nat->Code->IS->(AE->IS->Option aB)->Option aB
abbrev Call:=Nat->List V->IS->Option (aB × List Nat)
def tL (ev:jB) (run:VO) (fn:Func) (c:Code) (args:List V) (nx:Nat) (sub:Tr Ob):Option aB :=
 run fn.ntmps nx c ⟨iE 0 args .nil,sub,nx,[]⟩ (rL ev.T nx sub fn.results.toList)
def pR (bs:Nat) (s:IS) (dst:Option Nat) (r:aB):IS:=⟨PD s.sl dst r.x,eE r.nw (eE r.ch s.ob),r.nx,HJ bs r.ch s.dt⟩
def LM:V:=.pv (.tuple [])
def rV (nt:Nat):Option Nat->Bool
 | some d=>Nat.blt d nt
 | none=>true
def callR (bs:Nat) (s:IS) (dst:Option Nat):Option (aB × List Nat)->Option (IS × Tc)
 | some (r,ks)=>some (pR bs s dst r,⟨r.ch.map (·.1)++r.nw.map (·.1),ks⟩)
 | none=>none
def aL (ev:jB) (call:Call) (bs:Nat) (o:Oper) (s:IS):Option (IS × Tc):=match oG (s.val ev.gl) o.op with
 | some (f,args)=>callR bs s o.dst (call f args s)
 | none=>match KC ev.T s.nx (s.val ev.gl) s.ob.get o.dst o.op with
  | some r=>some (s.app bs o.dst r,⟨match r.wr with|some (n,_)=>[n]|none=>[],rdN (s.val ev.gl) o.op⟩)
  | none=>none
def sV (all:List Oper) (s:IS) (j:Nat):V:=match all[j]? with
 | some o=>match o.dst with
  | some d=>match s.sl.get d with
   | some v=>v
   | none => .undef
  | none => .undef
 | none => .undef
def tV (ops:Array Oper) (o1 o2:Oper):Bool :=
 (match o1.dst with|some d=>(o2.looksAt ops).contains d || o2.dst == some d|none=>false) ||
 (match o2.dst with|some d=>(o1.looksAt ops).contains d|none=>false)
def aV (ops:List Oper):Bool :=
 (List.range ops.length).all λ j=>match ops[j]? with
  | some oj=>(aJ oj).all (λ i=>decide (i<j)) && (List.range j).all λ i=>match ops[i]? with
   | some oi => !tV ops.toArray oi oj || ((ZD ops []).getD j 0).testBit i
   | none=>false
  | none=>false
def WO (a b:Tc):Bool:=a.wn.all (λ n => !oC b.rd n && !oC b.wn n) && b.wn.all (λ n => !oC a.rd n)
def MM:List Tc->Bool
 | []=>true
 | t::r=>match t.wn with
  | []=>MM r
  | _::_=>false
def rR (ops:List Oper) (tr:List Tc):Bool :=
 (List.range ops.length).all λ j=>match tr[j]? with
  | some b=>(List.range j).all λ i=>match tr[i]? with
   | some a=>WO a b || ((ZD ops []).getD j 0).testBit i
   | none=>false
  | none=>false
def XO (bs:Nat) (l:List Nat) (s:IS):IS:=bif Nat.beq s.nx bs then s else JM bs l s
theorem cV:∀ {cs:List V} {ps:List PV},nD cs=some ps->cs=oA ps
 | [],ps,h=>by cases h;rfl
 | c::cs,ps,h=>by
  unfold nD at h;split at h
  ·rename_i p ps' hp hps;cases h;have:=cV hps;subst this;cases c<;>simp only [V.un] at hp<;>cases hp;rfl
  ·cases h
theorem ta:∀ {es:List (List V)} {ps:List (List PV)},cE es=some ps->es=vA ps
 | [],ps,h=>by cases h;rfl
 | e::es,ps,h=>by
  unfold cE at h;split at h
  ·rename_i p ps' hp hps;cases h;have h1:=ta hps;have h2:=cV hp;subst h1 h2;rfl
  ·cases h
structure Rel (s:IS) (σ:St):Prop where
 sl:∀ t,JA σ.slots t=(match s.sl.get t with|some v=>v|none => .undef)
 ob:∀ n,zA σ.objs n=s.ob.get n
 us:∀ n∈σ.used,n<s.nx
structure Inv (bs:Nat) (sub:Tr Ob) (s:IS):Prop where
 le:bs<=s.nx
 same:∀ n,n<bs->n ∉ s.dt->s.ob.get n=sub.get n
 old:∀ n,n<bs->(s.ob.get n).isSome=true->(sub.get n).isSome=true
 names:∀ n o,sub.get n=some o->n<bs /\ ∀ k∈o.names,k<bs
 dts:∀ n∈s.dt,n<bs
theorem Rel.val {s:IS} {σ:St} (h:Rel s σ) (gl:Nat->Option (List PV)):σ.val gl=s.val gl:=by
 funext x
 cases x with
 | tmp t=>exact h.sl t
 | const v=>rfl
 | func f=>rfl
 | global g=>rfl
theorem Rel.obf {s:IS} {σ:St} (h:Rel s σ):zA σ.objs=s.ob.get:=funext h.ob
def Wk (σ σ':St):Prop:=∀ C E a w,Ga C E σ a w->∃ E',Ga C E' σ' a w
theorem Wk.refl (σ:St):Wk σ σ:=λ _ E _ _ h=>⟨E,h⟩
theorem Wk.trans {a b c:St} (h:Wk a b) (h':Wk b c):Wk a c:=λ C E x w hG=>by
 obtain⟨E',h1⟩:=h C E x w hG;exact h' C E' x w h1
theorem AWP.wk {X:NA} {c:Code} {σ σ':St} {Q:AB->St->Prop} (hw:Wk σ σ') (h:AWP X c σ' Q):AWP X c σ Q:=by
 intro C E a w hC hG;obtain⟨E',h'⟩:=hw C E a w hG;exact h C E' a w hC h'
theorem AWP.post {X:NA} {c:Code} {σ:St} {Q Q':AB->St->Prop} (h:AWP X c σ Q) (hq:∀ ae σ',Q ae σ'->(∃ σ'',Wk σ' σ''/\Q' ae σ'') /\ ∀ p,ae ≠ .panic p):AWP X c σ Q':=by
 intro C E a w hC hG;refine wp_mono (h C E a w hC hG) ?_
 rintro e a' w' ⟨E',σ',ae,hG',hr,hqq⟩
 obtain⟨⟨σ'',hw,hq'⟩,hp⟩:=hq ae σ' hqq;obtain⟨E'',hG''⟩:=hw C E' a' w' hG';refine⟨E'',σ'',ae,hG'',?_,hq'⟩
 cases ae with
 | panic p=>exact absurd rfl (hp p)
 | _=>exact hr
theorem bk {n ver:Nat} {ps:List (List PV)} : ∀ {x:V},n ∉ x.names->pD n ver ps x=x:=by
 intro x h;cases x<;>simp only [pD];rename_i m v l;rw [if_neg]
 rintro⟨rfl,_⟩
 exact h (by simp [V.names])
theorem aa {n ver:Nat} {ps:List (List PV)} : ∀ {cs:List V},n ∉ GA cs->LD n ver ps cs=cs
 | [],_=>rfl
 | c::cs,h=>by
  simp only [GA,List.mem_append,not_or] at h;simp only [LD];rw [bk h.1,aa h.2]
theorem gk {n ver:Nat} {ps:List (List PV)} {o:Ob} (h:n ∉ o.names):JC n ver ps o=o:=by
 cases o with
 | box cs=>simp only [JC];rw [aa h]
 | _=>rfl
theorem eV {bs:Nat} {sub:Tr Ob} {s:IS} (hI:Inv bs sub s) (n:Nat):Inv bs sub (mI bs s n):=by
 unfold mI
 cases e:Nat.blt n bs with
 | true=>exact hI
 | false =>
  simp only [cond_false];rw [CG] at e;have hn:¬ n<bs:=of_decide_eq_false e;split
  ·rename_i ver sz ty es ho;split
   ·rename_i ps hps;have hget:∀ m,((s.ob.put n none).map (JC n ver ps)).get m=if m=n then none else (s.ob.get m).map (JC n ver ps):=by
     intro m;rw [Tr.get_map,Tr.get_put];split<;>rfl
    refine⟨hI.le,?_,?_,hI.names,hI.dts⟩
    ·intro m hm hd;show ((s.ob.put n none).map (JC n ver ps)).get m=_;rw [hget m,if_neg (by omega),hI.same m hm hd]
     cases q:sub.get m with
     | none=>rfl
     | some o =>
      simp only [Option.map_some];rw [gk];intro hk;exact hn ((hI.names m o q).2 n hk)
    ·intro m hm hs;have hs:(((s.ob.put n none).map (JC n ver ps)).get m).isSome=true:=hs;rw [hget m,if_neg (by omega)] at hs;exact hI.old m hm (by simpa using hs)
   ·exact hI
  ·exact hI
theorem iV {bs:Nat} {sub:Tr Ob} : ∀ (l:List Nat) {s:IS},Inv bs sub s->Inv bs sub (QO bs l s)
 | [],_,hI=>hI
 | n::r,_,hI=>iV r (eV hI n)
theorem oV {bs:Nat} {sub:Tr Ob} : ∀ (l:List Nat) {s:IS},Inv bs sub s->Inv bs sub (JM bs l s)
 | [],_,hI=>hI
 | t::r,s,hI=>by
  unfold JM;split
  ·exact oV r (iV _ hI)
  ·exact oV r hI
theorem YO {T:Nat->Option TI} {bs:Nat} {sub:Tr Ob} : ∀ (l:List ResultVar) {s:IS},Inv bs sub s->Inv bs sub (FJ T bs l s)
 | [],_,hI=>hI
 | t::r,s,hI=>by
  unfold FJ;split
  ·exact YO r (iV _ hI)
  ·exact YO r hI
theorem xV {bs:Nat} {s:IS} {σ:St} (hR:Rel s σ) (n:Nat):∃ σ',Wk σ σ'/\Rel (mI bs s n) σ':=by
 have hid:∃ σ',Wk σ σ'/\Rel s σ':=⟨σ,Wk.refl σ,hR⟩;unfold mI
 cases e:Nat.blt n bs with
 | true=>exact hid
 | false =>
  simp only [cond_false];split
  ·rename_i ver sz ty es ho;split
   ·rename_i ps hps;have hes:=ta hps;subst hes;have ho':zA σ.objs n=some (.arr ver sz ty (vA ps)):=(hR.ob n).trans ho;refine⟨σ.frz n ver ps,λ C E a w hG=>hG.frz ho',⟨?_,?_,hR.us⟩⟩
    ·intro t;simp only [St.frz,VU,hR.sl,Tr.get_map];cases s.sl.get t<;>rfl
    ·intro m;simp only [St.frz,EM,hR.ob,Tr.get_map,Tr.get_put];split<;>rfl
   ·exact hid
  ·exact hid
theorem AV {bs:Nat} : ∀ (l:List Nat) {s:IS} {σ:St},Rel s σ->∃ σ',Wk σ σ'/\Rel (QO bs l s) σ'
 | [],s,σ,hR=>⟨σ,Wk.refl σ,hR⟩
 | n::r,s,σ,hR=>by
  obtain⟨σ1,h1,h2⟩:=xV (bs:=bs) hR n;obtain⟨σ2,h4,h5⟩:=AV r h2;exact⟨σ2,h1.trans h4,h5⟩
theorem BV {bs:Nat} : ∀ (l:List Nat) {s:IS} {σ:St},Rel s σ->∃ σ',Wk σ σ'/\Rel (JM bs l s) σ'
 | [],s,σ,hR=>⟨σ,Wk.refl σ,hR⟩
 | t::r,s,σ,hR=>by
  unfold JM;split
  ·rename_i v hv;obtain⟨σ1,h1,h2⟩:=AV (bs:=bs) (gR v) hR;obtain⟨σ2,h4,h5⟩:=BV r h2;exact⟨σ2,h1.trans h4,h5⟩
  ·exact BV r hR
theorem CV {T:Nat->Option TI} {bs:Nat} : ∀ (l:List ResultVar) {s:IS} {σ:St},Rel s σ->∃ σ',Wk σ σ'/\Rel (FJ T bs l s) σ'
 | [],s,σ,hR=>⟨σ,Wk.refl σ,hR⟩
 | t::r,s,σ,hR=>by
  unfold FJ;split
  ·rename_i v hv;obtain⟨σ1,h1,h2⟩:=AV (bs:=bs) (nR bs (gR v)) hR;obtain⟨σ2,h4,h5⟩:=CV r h2;exact⟨σ2,h1.trans h4,h5⟩
  ·exact CV r hR
structure DV (nx:Nat) (ob:Tr Ob) (todo:List Nat) (sub:Tr Ob) (l:List Nat):Prop where
 get:∀ n o,sub.get n=some o->ob.get n=some o/\n<nx/\n∈l /\ ∀ k∈o.names,k<nx\/k∈todo
 mem:∀ n∈l,(sub.get n).isSome=true
theorem tR {nx:Nat} {ob:Tr Ob} : ∀ (f:Nat) (todo:List Nat) (sub:Tr Ob) (l:List Nat) {sub':Tr Ob} {l':List Nat},reach nx ob f todo sub l=some (sub',l')->DV nx ob todo sub l->DV nx ob [] sub' l' /\ ∀ k∈todo,k<nx
 | 0,_,_,_,_,_,h,_=>by cases h
 | f+1,[],sub,l,_,_,h,hr=>by cases h;exact⟨hr,by simp⟩
 | f+1,n::r,sub,l,sub',l',h,hr=>by
  unfold reach at h;obtain⟨h1,h⟩:=RA h;have hn:=ND h1;have hdrop:DV nx ob r sub l:=⟨λ m o hm=>⟨(hr.get m o hm).1,(hr.get m o hm).2.1,(hr.get m o hm).2.2.1,λ k hk=>by
   rcases (hr.get m o hm).2.2.2 k hk with h2|h2
   ·exact .inl h2
   ·rcases List.mem_cons.1 h2 with rfl|h2
    ·exact .inl hn
    ·exact .inr h2⟩,hr.mem⟩
  split at h
  ·obtain⟨h3,h4⟩:=tR f r sub l h hdrop;exact⟨h3,λ k hk=>by rcases List.mem_cons.1 hk with rfl|hk<;>first|exact hn|exact h4 k hk⟩
  ·split at h
   ·obtain⟨h3,h4⟩:=tR f r sub l h hdrop;exact⟨h3,λ k hk=>by rcases List.mem_cons.1 hk with rfl|hk<;>first|exact hn|exact h4 k hk⟩
   ·rename_i hs o ho;obtain⟨h3,h4⟩:=tR f (o.names++r) (sub.put n (some o)) (n::l) h (by
     refine⟨λ m q hm => ?_,λ m hm => ?_⟩
     ·rw [Tr.get_put] at hm;split at hm
      ·rename_i e;cases hm;subst e;exact⟨ho,hn,by simp,λ k hk => .inr (by simp [hk])⟩
      ·obtain⟨a,b,c,d⟩:=hdrop.get m q hm;exact⟨a,b,by simp [c],λ k hk=>by rcases d k hk with h5|h5<;>first|exact .inl h5|exact .inr (by simp [h5])⟩
     ·rw [Tr.get_put];split
      ·rfl
      ·rename_i e;rcases List.mem_cons.1 hm with h5|h5
       ·exact absurd h5 e
       ·exact hr.mem m h5)
    exact⟨h3,λ k hk=>by rcases List.mem_cons.1 hk with rfl|hk<;>first|exact hn|exact h4 k (by simp [hk])⟩
structure EV (bs nx:Nat) (sub ob:Tr Ob) (todo:List Nat) (seen:Tr Ob) (l:List (Nat × Ob)):Prop where
 ent:∀ n o,(n,o)∈l->bs<=n/\n<nx/\ob.get n=some o /\ ∀ k∈o.names,(sub.get k).isSome=true\/k∈yA l\/k∈todo
 seen:∀ n,(seen.get n).isSome=true->n∈yA l
theorem FV {bs nx:Nat} {sub ob:Tr Ob} : ∀ (f:Nat) (todo:List Nat) (seen:Tr Ob) (l:List (Nat × Ob)) {l':List (Nat × Ob)},nI bs nx sub ob f todo seen l=some l'->EV bs nx sub ob todo seen l ->
  (∃ seen',EV bs nx sub ob [] seen' l')/\(∀ k∈todo,(sub.get k).isSome=true\/k∈yA l') /\ ∀ k∈yA l,k∈yA l'
 | 0,_,_,_,_,h,_=>by cases h
 | f+1,[],seen,l,_,h,hr=>by cases h;exact⟨⟨seen,hr⟩,by simp,λ k hk=>hk⟩
 | f+1,n::r,seen,l,l',h,hr=>by
  unfold nI at h;have hskip:((sub.get n).isSome=true\/n∈yA l)->nI bs nx sub ob f r seen l=some l'->(∃ seen',EV bs nx sub ob [] seen' l')/\(∀ k∈n::r,(sub.get k).isSome=true\/k∈yA l') /\ ∀ k∈yA l,k∈yA l':=by
   intro hn h;obtain⟨h1,h2,h3⟩:=FV f r seen l h ⟨λ m o hm=>⟨(hr.ent m o hm).1,(hr.ent m o hm).2.1,(hr.ent m o hm).2.2.1,λ k hk=>by
    rcases (hr.ent m o hm).2.2.2 k hk with h4|h4|h4
    ·exact .inl h4
    ·exact .inr (.inl h4)
    ·rcases List.mem_cons.1 h4 with rfl|h4
     ·rcases hn with hn|hn
      ·exact .inl hn
      ·exact .inr (.inl hn)
     ·exact .inr (.inr h4)⟩,hr.seen⟩
   refine⟨h1,λ k hk => ?_,h3⟩;rcases List.mem_cons.1 hk with rfl|hk
   ·rcases hn with hn|hn
    ·exact .inl hn
    ·exact .inr (h3 _ hn)
   ·exact h2 k hk
  cases e:Nat.blt n bs with
  | true =>
   rw [e] at h;simp only [cond_true] at h;split at h
   ·rename_i o ho;exact hskip (.inl (by rw [ho];rfl)) h
   ·cases h
  | false =>
   rw [e] at h;simp only [cond_false] at h;rw [CG] at e;have hnb:¬ n<bs:=of_decide_eq_false e;split at h
   ·rename_i o ho;exact hskip (.inr (hr.seen n (by rw [ho];rfl))) h
   ·split at h
    ·cases h
    ·rename_i hs o ho;obtain⟨h1,h⟩:=RA h;have hn:=ND h1;obtain⟨h2,h3,h4⟩:=FV f (o.names++r) (seen.put n (some o)) ((n,o)::l) h (by
      refine⟨λ m q hm => ?_,λ m hm => ?_⟩
      ·rcases List.mem_cons.1 hm with e1|e1
       ·cases e1;exact⟨by omega,hn,ho,λ k hk => .inr (.inr (by simp [hk]))⟩
       ·obtain⟨a,b,c,d⟩:=hr.ent m q e1;refine⟨a,b,c,λ k hk => ?_⟩;rcases d k hk with h5|h5|h5
        ·exact .inl h5
        ·exact .inr (.inl (by simp only [yA,List.map_cons,List.mem_cons];exact .inr h5))
        ·rcases List.mem_cons.1 h5 with rfl|h5
         ·exact .inr (.inl (by simp [yA]))
         ·exact .inr (.inr (by simp [h5]))
      ·rw [Tr.get_put] at hm;simp only [yA,List.map_cons,List.mem_cons];by_cases e1:m=n
       ·exact .inl e1
       ·rw [if_neg e1] at hm;exact .inr (hr.seen m hm))
     refine⟨h2,λ k hk => ?_,λ k hk=>h4 k (by simp only [yA,List.map_cons,List.mem_cons];exact .inr hk)⟩;rcases List.mem_cons.1 hk with rfl|hk
     ·exact .inr (h4 _ (by simp [yA]))
     ·exact h3 k (by simp [hk])
theorem ZO:∀ {l u:List Nat},(∀ n∈l,n∈u)->eJ l u
 | [],_,_=>trivial
 | n::r,u,h=>⟨h n (by simp),ZO λ m hm=>h m (by simp [hm])⟩
theorem aR:∀ {l u:List (Nat × Ob)},(∀ p∈l,zA u p.1=some p.2)->IC l u
 | [],_,_=>trivial
 | (n,o)::r,u,h=>⟨h (n,o) (by simp),aR λ m hm=>h m (by simp [hm])⟩
theorem mem_mentO {l:List (Nat × Ob)} {n:Nat} : n∈pC l ↔ ∃ p∈l,n∈p.2.names:=by
 induction l with
 | nil=>simp [pC]
 | cons p r ih=>obtain⟨k,o⟩:=p;simp [pC,ih]
theorem mem_namesOb {l:List (Nat × Ob)} {n:Nat} : n∈zE l↔n∈yA l\/n∈pC l:=by
 induction l with
 | nil=>simp [zE,yA,pC]
 | cons p r ih =>
  obtain⟨k,o⟩:=p;have hk:yA ((k,o)::r)=k::yA r:=rfl;simp only [zE,pC,List.mem_cons,List.mem_append,ih,hk]
  grind
theorem kE (a b:List (Nat × Ob)):yA (a++b)=yA a++yA b:=by simp [yA]
theorem keysO_mem {l:List (Nat × Ob)} {n:Nat} : n∈yA l ↔ ∃ o,(n,o)∈l:=by
 simp only [yA,List.mem_map];constructor
 ·rintro⟨⟨k,o⟩,h,rfl⟩;exact⟨o,h⟩
 ·rintro⟨o,h⟩;exact⟨(n,o),h,rfl⟩
theorem IJ {l:List (Nat × Ob)} {n:Nat} {o:Ob} (h:zA l n=some o):(n,o)∈l:=by
 induction l with
 | nil=>cases h
 | cons p r ih =>
  obtain⟨k,x⟩:=p;simp only [zA] at h;split at h
  ·rename_i e;cases h;subst e;simp
  ·exact List.mem_cons_of_mem _ (ih h)
theorem xa {l:List (Nat × Ob)} {n:Nat} (h:n ∉ yA l):zA l n=none:=by
 cases e:zA l n with
 | none=>rfl
 | some o=>exact absurd (RC e) h
theorem Aa {l:List (Nat × Ob)} {G:Nat->Option Ob} (h:∀ n o,(n,o)∈l->G n=some o) (n:Nat):(n∈yA l->zA l n=G n):=by
 intro hn;obtain⟨o,ho⟩:=wH hn;rw [ho,h n o (IJ ho)]
def pick (sub:Tr Ob) (l:List Nat):List (Nat × Ob):=l.filterMap λ n=>(sub.get n).map λ o=>(n,o)
theorem mem_pick {sub:Tr Ob} {l:List Nat} {n:Nat} {o:Ob} : (n,o)∈pick sub l↔n∈l/\sub.get n=some o:=by
 simp only [pick,List.mem_filterMap,Option.map_eq_some_iff,Prod.mk.injEq];constructor
 ·rintro⟨m,hm,q,hq,rfl,rfl⟩;exact⟨hm,hq⟩
 ·rintro⟨h1,h2⟩;exact⟨n,h1,o,h2,rfl,rfl⟩
theorem GV:∀ (l:List Nat) (seen:Tr Ob) (n:Nat),n∈l->(seen.get n).isSome=true\/n∈pL l seen
 | [],_,_,h=>by cases h
 | m::r,seen,n,h=>by
  unfold pL;rcases List.mem_cons.1 h with rfl|h
  ·cases e:seen.get n with
   | some o=>exact .inl rfl
   | none=>exact .inr (by simp)
  ·cases e:seen.get m with
   | some o=>exact GV r seen n h
   | none =>
    simp only;rcases GV r (seen.put m (some (.box []))) n h with h1|h1
    ·rw [Tr.get_put] at h1;by_cases e1:n=m
     ·exact .inr (by simp [e1])
     ·rw [if_neg e1] at h1;exact .inl h1
    ·exact .inr (by simp [h1])
theorem HV:∀ (l:List Nat) (seen:Tr Ob) (n:Nat),n∈pL l seen->n∈l
 | [],_,_,h=>by cases h
 | m::r,seen,n,h=>by
  unfold pL at h;split at h
  ·exact List.mem_cons_of_mem _ (HV r seen n h)
  ·rcases List.mem_cons.1 h with rfl|h
   ·simp
   ·exact List.mem_cons_of_mem _ (HV r _ n h)
theorem Ba {ob:Tr Ob} : ∀ {l:List Nat} {ch:List (Nat × Ob)},lR ob l=some ch->yA ch=l /\ ∀ n o,(n,o)∈ch->ob.get n=some o
 | [],ch,h=>by cases h;exact⟨rfl,by simp⟩
 | m::r,ch,h=>by
  unfold lR at h;split at h
  ·rename_i o ho;split at h
   ·rename_i l hl;cases h;obtain⟨h1,h2⟩:=Ba hl;refine⟨by simp [yA] at h1 ⊢;exact h1,λ n q hm => ?_⟩;rcases List.mem_cons.1 hm with e|hm
    ·cases e;exact ho
    ·exact h2 n q hm
   ·cases h
  ·cases h
theorem mem_chNames {l:List (Nat × Ob)} {n:Nat} : n∈SO l↔n∈pC l:=by
 induction l with
 | nil=>simp [SO,pC]
 | cons p r ih=>obtain⟨k,o⟩:=p;simp [SO,pC,ih]
def AE.x:AE->AB
 | .normal => .normal
 | .exit i => .exit i
 | .ret => .ret
def KQ (k:AE->IS->Option aB) (r:aB) (bs:Nat) (sub:Tr Ob):AB->St->Prop:=λ ae σ' => ∃ e s',ae=AE.x e/\Rel s' σ'/\Inv bs sub s'/\k e s'=some r
structure Good (ev:jB) (P:Program) (run:VO):Prop where
 syn:∀ (nt bs:Nat) (c:Code) (s:IS) (k:AE->IS->Option aB) (r:aB),run nt bs c s k=some r->∀ (sub:Tr Ob),Inv bs sub s->∃ e s',Inv bs sub s'/\k e s'=some r
 awp:∀ (nt bs:Nat) (c:Code) (s:IS) (k:AE->IS->Option aB) (r:aB),run nt bs c s k=some r ->
  ∀ (X:NA),X.P=P->X.T=ev.T->X.gl=ev.gl->X.nt=nt->(∀ n∈X.given,n<bs)->∀ (sub:Tr Ob) (σ:St),Rel s σ->Inv bs sub s->AWP X c σ (KQ k r bs sub)
structure KJ (ev:jB) (P:Program):Prop where
 T:xB P ev.T
 F : ∀ f fn, ev.F f = some fn -> P.funcs[f]? = some fn /\ (fn.name == "runtime.NumGoroutine") = false
 intr:∀ f args x,ev.intr f args=some x->AC P ev.gl f args [] (.ret x) []
 mix:P.follows .mixedOrders=true
theorem lk {X:NA} {T:Nat->Option TI} (hT:X.T=T) {s:IS} {σ:St} (hR:Rel s σ) (v:ResultVar):TO T s v=iJ X σ v:=by
 cases v with
 | tmp t=>simp only [TO,iJ,hR.sl];all_goals (cases s.sl.get t<;>rfl)
 | cell a t =>
  simp only [TO,iJ,hR.sl,hT]
  cases s.sl.get a with
  | none=>cases T t<;>rfl
  | some v =>
   cases T t with
   | none=>rfl
   | some ti =>
    cases v<;>try rfl
    simp only [hR.ob];rfl
theorem Ca {X:NA} {T:Nat->Option TI} (hT:X.T=T) {s:IS} {σ:St} (hR:Rel s σ):∀ (l:List ResultVar),mR T s l=bI X σ l
 | []=>rfl
 | r::rs=>by
  simp only [mR,bI];rw [lk hT hR,Ca hT hR rs];cases iJ X σ r<;>cases bI X σ rs<;>rfl
theorem Da:∀ (xs:List V) (k:Nat) (t:Tr V) (i:Nat),(iE k xs t).get i=if k<=i/\i<k+xs.length then xs[i-k]? else t.get i
 | [],k,t,i=>by
  have:¬ (k<=i/\i<k+0):=by omega
  simp [iE];omega
 | x::xs,k,t,i=>by
  simp only [iE];rw [Da xs (k+1)];rw [Tr.get_put];simp only [List.length_cons];by_cases h:k+1<=i/\i<k+1+xs.length
  ·rw [if_pos h,if_pos (by omega)];have:i-k=(i-(k+1))+1:=by omega
   rw [this];rfl
  ·rw [if_neg h];by_cases e:i=k
   ·subst e;rw [if_pos rfl,if_pos (by omega)];simp
   ·rw [if_neg e,if_neg (by omega)]
structure Called (P:Program) (gl:Nat->Option (List PV)) (s:IS) (f:Nat) (args:List V) (r:aB) (ks:List Nat) (ro o1:List (Nat × Ob)):Prop where
 ac:AC P gl f args (ro++o1) (.ret r.x) (ro++(r.ch++r.nw))
 apart:∀ n∈yA ro,n ∉ yA o1/\n ∉ yA (r.ch++r.nw)
 subs:∀ p∈ro++o1,s.ob.get p.1=some p.2
 kss:∀ n∈yA ro++yA o1,n∈ks
 inch:∀ n∈yA o1,n∈yA r.ch
 gfn:∃ G:Nat->Option Ob,∀ n o,(n,o)∈r.ch++r.nw->G n=some o
 chs:∀ n∈yA r.ch,n<s.nx/\(s.ob.get n).isSome=true/\n∈yA o1
 nws:∀ n∈yA r.nw,s.nx<=n/\n<r.nx
 le:s.nx<=r.nx
 all:∀ n∈ks,n∈yA (ro++o1)
theorem qP {ev:jB} {P:Program} {run:VO} (hg:Good ev P run) (he:KJ ev P) {f:Nat} {fn:Func} {c:Code} (hf:ev.F f=some fn) (hb:fn.body=some c) {args:List V} (hal:args.length<=fn.ntmps) {s:IS} {sub:Tr Ob} {ks:List Nat}
  (hrc:reach s.nx s.ob 1000000 (GA args) .nil []=some (sub,ks)) {r:aB} (hr:tL ev run fn c args s.nx sub=some r):∃ ro o1,Called P ev.gl s f args r ks ro o1:=by
 obtain⟨hrd,hargs⟩:=tR _ _ _ _ hrc ⟨λ n o h=>(by cases h),(by simp)⟩;obtain⟨hPf,hname⟩:=he.F f fn hf
 -- the objects that are given
 have hroD:∀ n,n∈yA (pick sub (ks.filter λ n => !oC (yA r.ch) n))↔(sub.get n).isSome=true/\n ∉ yA r.ch:=by
  intro n;rw [keysO_mem];constructor
  ·rintro⟨o,h⟩
   obtain⟨h1,h2⟩:=mem_pick.1 h;refine⟨by rw [h2];rfl,λ hc => ?_⟩;rw [List.mem_filter,(EF _ _).2 hc] at h1;simp at h1
  ·rintro⟨h1,h2⟩
   obtain⟨o,ho⟩:=Option.isSome_iff_exists.1 h1;refine⟨o,mem_pick.2 ⟨List.mem_filter.2 ⟨(hrd.get n o ho).2.2.1,?_⟩,ho⟩⟩
   cases e:oC (yA r.ch) n with
   | false=>rfl
   | true=>exact absurd ((EF _ _).1 e) h2
 have ho1D:∀ n,n∈yA (pick sub (ks.filter λ n=>oC (yA r.ch) n))↔(sub.get n).isSome=true/\n∈yA r.ch:=by
  intro n;rw [keysO_mem];constructor
  ·rintro⟨o,h⟩
   obtain⟨h1,h2⟩:=mem_pick.1 h;exact⟨by rw [h2];rfl,(EF _ _).1 (List.mem_filter.1 h1).2⟩
  ·rintro⟨h1,h2⟩
   obtain⟨o,ho⟩:=Option.isSome_iff_exists.1 h1;exact⟨o,mem_pick.2 ⟨List.mem_filter.2 ⟨(hrd.get n o ho).2.2.1,(EF _ _).2 h2⟩,ho⟩⟩
 generalize hro:pick sub (ks.filter λ n => !oC (yA r.ch) n)=ro at hroD;generalize ho1:pick sub (ks.filter λ n=>oC (yA r.ch) n)=o1 at ho1D;have hent:∀ n o,(n,o)∈ro++o1->sub.get n=some o:=by
  intro n o h;rcases List.mem_append.1 h with h|h
  ·rw [<- hro] at h;exact (mem_pick.1 h).2
  ·rw [<- ho1] at h;exact (mem_pick.1 h).2
 have hkey:∀ n,n∈yA (ro++o1)↔(sub.get n).isSome=true:=by
  intro n;rw [kE,List.mem_append,hroD,ho1D];by_cases h:n∈yA r.ch<;>simp [h]
 have hget:∀ n,zA (ro++o1) n=sub.get n:=by
  intro n;by_cases h:n∈yA (ro++o1)
  ·exact Aa hent n h
  ·rw [xa h];rw [hkey] at h
   cases e:sub.get n with
   | none=>rfl
   | some o=>rw [e] at h;exact absurd rfl h
 generalize hms:((GA args++pC (ro++o1)).filter λ n => !oC (yA (ro++o1)) n)=ms;have hmsD:∀ n,n∈ms↔(n∈GA args\/n∈pC (ro++o1))/\n ∉ yA (ro++o1):=by
  intro n;rw [<- hms,List.mem_filter,List.mem_append]
  cases e:oC (yA (ro++o1)) n with
  | true=>have:=(EF _ _).1 e;simp [this]
  | false =>
   have:n ∉ yA (ro++o1):=λ h=>by rw [(EF _ _).2 h] at e;cases e
   simp [this]
 have hsubN:∀ n o,sub.get n=some o->n<s.nx /\ ∀ k∈o.names,k<s.nx:=by
  intro n o h;obtain⟨_,h1,_,h2⟩:=hrd.get n o h;exact⟨h1,λ k hk=>by rcases h2 k hk with h3|h3<;>first|exact h3|cases h3⟩
 have hmsL:∀ n∈ms,n<s.nx:=by
  intro n hn;obtain⟨h1,_⟩:=(hmsD n).1 hn;rcases h1 with h1|h1
  ·exact hargs n h1
  ·obtain⟨p,hp,hn'⟩:=mem_mentO.1 h1;exact (hsubN p.1 p.2 (hent p.1 p.2 hp)).2 n hn'
 let X:NA:=⟨P,ev.T,ev.gl,[],fn.ntmps,yA (ro++o1)++ms,he.T,he.mix⟩;have hR0:Rel ⟨iE 0 args .nil,sub,s.nx,[]⟩ ⟨xG 0 args,ro++o1,yA (ro++o1)++ms⟩:=by
  refine⟨λ t => ?_,hget,λ n hn => ?_⟩
  ·simp only;rw [UU,Da];simp only [Nat.zero_le,if_true,Nat.sub_zero,true_and,Nat.zero_add,Tr.get_nil];by_cases h:t<args.length
   ·rw [if_pos h];simp [List.getD,List.getElem?_eq_getElem h]
   ·rw [if_neg h];simp [List.getD,List.getElem?_eq_none (by omega:args.length<=t)]
  ·rcases List.mem_append.1 hn with hn|hn
   ·obtain⟨o,ho⟩:=Option.isSome_iff_exists.1 ((hkey n).1 hn);exact (hsubN n o ho).1
   ·exact hmsL n hn
 have hI0:Inv s.nx sub ⟨iE 0 args .nil,sub,s.nx,[]⟩:=⟨Nat.le_refl _,λ _ _ _=>rfl,λ _ _ h=>h,hsubN,by simp⟩;have hA:=hg.awp fn.ntmps s.nx c _ _ r hr X rfl rfl rfl rfl hR0.us sub _ hR0 hI0
 -- the end
 have hend:∀ ae σ',KQ (rL ev.T s.nx sub fn.results.toList) r s.nx sub ae σ'->(∃ σ'',Wk σ' σ''/\((ae = .normal\/ae = .ret)/\CM X σ'' fn.results.toList (.ret r.x)/\(∃ s'',Rel s'' σ''/\Inv s.nx sub s''/\GJ ev.T s.nx sub fn.results.toList s''=some r))) /\ ∀ p,ae ≠ .panic p:=by
  rintro ae σ' ⟨e,s',rfl,hR',hI',hk⟩
  have hfin:GJ ev.T s.nx sub fn.results.toList (FJ ev.T s.nx fn.results.toList s')=some r->∃ σ'',Wk σ' σ''/\(CM X σ'' fn.results.toList (.ret r.x)/\(∃ s'',Rel s'' σ''/\Inv s.nx sub s''/\GJ ev.T s.nx sub fn.results.toList s''=some r)):=by
   intro hk;obtain⟨σ'',h1,h2⟩:=CV (T:=ev.T) (bs:=s.nx) fn.results.toList hR';have h3:=YO (T:=ev.T) fn.results.toList hI';refine⟨σ'',h1,?_,_,h2,h3,hk⟩;unfold GJ at hk;split at hk
   ·rename_i xs hxs;rw [Ca (X:=X) rfl h2] at hxs;split at hk
    ·split at hk
     ·cases hk;simp only [CM,VQ,hxs,Option.map_some]
     ·cases hk
    ·cases hk
   ·cases hk
  cases e with
  | exit i=>cases hk
  | normal =>
   obtain⟨σ'',h1,h2⟩:=hfin hk;exact⟨⟨σ'',h1,.inl rfl,h2⟩,by simp [AE.x]⟩
  | ret =>
   obtain⟨σ'',h1,h2⟩:=hfin hk;exact⟨⟨σ'',h1,.inr rfl,h2⟩,by simp [AE.x]⟩
 -- what the last state says of the result; it does not depend on the world
 have hlast:∀ s'',Inv s.nx sub s''->GJ ev.T s.nx sub fn.results.toList s''=some r ->
   (∀ n∈yA r.ch,n∈s''.dt)/\(∀ n∈s''.dt,n∈yA r.ch)/\(∀ n o,(n,o)∈r.ch++r.nw->s''.ob.get n=some o)/\(∀ n∈yA r.nw,s.nx<=n/\n<r.nx)/\s.nx<=r.nx /\
   ∀ k,k∈r.x.names\/k∈pC (r.ch++r.nw)->(sub.get k).isSome=true\/k∈yA r.nw:=by
  intro s'' hI'' hk;unfold GJ at hk;split at hk
  ·rename_i xs hxs;split at hk
   ·rename_i ch hch;split at hk
    ·rename_i nw hnw;cases hk;obtain⟨hck,hce⟩:=Ba hch;obtain⟨⟨seen',hN⟩,hT1,_⟩:=FV _ _ _ _ hnw ⟨(by simp),(by intro n h;cases h)⟩;refine⟨λ n hn => ?_,λ n hn => ?_,λ n o hm => ?_,λ n hn => ?_,hI''.le,λ k hk => ?_⟩
     ·rw [hck] at hn;exact HV _ _ n hn
     ·rw [hck];rcases GV s''.dt .nil n hn with h|h
      ·cases h
      ·exact h
     ·rcases List.mem_append.1 hm with hm|hm
      ·exact hce n o hm
      ·exact (hN.ent n o hm).2.2.1
     ·obtain⟨o,ho⟩:=keysO_mem.1 hn;exact⟨(hN.ent n o ho).1,(hN.ent n o ho).2.1⟩
     ·rcases hk with hk|hk
      ·exact hT1 k (by simp [hk])
      ·obtain⟨p,hp,hkp⟩:=mem_mentO.1 hk;rcases List.mem_append.1 hp with hp|hp
       ·exact hT1 k (by rw [List.mem_append];exact .inr (mem_chNames.2 (mem_mentO.2 ⟨p,hp,hkp⟩)))
       ·rcases (hN.ent p.1 p.2 hp).2.2.2 k hkp with h|h|h
        ·exact .inl h
        ·exact .inr h
        ·cases h
    ·cases hk
   ·cases hk
  ·cases hk
 obtain⟨e0,s0,hI1,hk1⟩:=hg.syn fn.ntmps s.nx c _ _ r hr sub hI0;have hk2:GJ ev.T s.nx sub fn.results.toList (FJ ev.T s.nx fn.results.toList s0)=some r:=by
  cases e0 with
  | exit i=>cases hk1
  | normal=>exact hk1
  | ret=>exact hk1
 obtain⟨l1,l2,l3,l4,l5,l6⟩:=hlast _ (YO (T:=ev.T) fn.results.toList hI1) hk2;have hI2:=YO (T:=ev.T) (bs:=s.nx) fn.results.toList hI1;have hchsub:∀ n∈yA r.ch,(sub.get n).isSome=true:=by
  intro n hn;obtain⟨o,ho⟩:=keysO_mem.1 hn;have h1:=l3 n o (by simp [ho]);refine hI2.old n ?_ (by rw [h1];rfl);exact hI2.dts n (l1 n hn)
 have hro':∀ n∈yA ro,n ∉ yA o1/\n ∉ yA (r.ch++r.nw):=by
  intro n hn;obtain⟨h1,h2⟩:=(hroD n).1 hn;refine⟨λ h=>h2 ((ho1D n).1 h).2,λ h => ?_⟩;rw [kE,List.mem_append] at h;rcases h with h|h
  ·exact h2 h
  ·obtain⟨o,ho⟩:=Option.isSome_iff_exists.1 h1;have:=(hsubN n o ho).1;have:=(l4 n h).1;omega
 refine⟨ro,o1,⟨?_,hro',?_,?_,λ n hn=>((ho1D n).1 hn).2,⟨_,l3⟩,?_,l4,l5,λ n hn=>(hkey n).2 (hrd.mem n hn)⟩⟩
 ·refine AC.of_body (X:=X) he.T hPf hb hname rfl (ms:=ms) rfl hal (ZO λ n hn => ?_) (λ n hn=>((hmsD n).1 hn).2) (λ n hn h => ?_) (ZO λ n hn => ?_) (ZO λ n hn => ?_) ?_
  ·rw [YD,List.mem_append];exact ((hmsD n).1 hn).1
  ·rw [kE,List.mem_append,kE,List.mem_append] at h;have h0:=((hmsD n).1 hn).2;rw [kE,List.mem_append] at h0;rcases h with h|h|h
   ·exact h0 (.inl h)
   ·exact h0 (.inr ((ho1D n).2 ⟨hchsub n h,h⟩))
   ·have:=(l4 n h).1;have:=hmsL n hn;omega
  ·rw [List.mem_append] at hn ⊢;by_cases hk:n∈yA (ro++o1)
   ·exact .inl hk
   ·refine .inr ((hmsD n).2 ⟨?_,hk⟩);rcases hn with hn|hn
    ·exact .inl hn
    ·rcases mem_namesOb.1 hn with h|h
     ·exact absurd h hk
     ·exact .inr h
  ·rw [List.mem_append] at hn;simp only [List.mem_append];have hme:n∈r.x.names\/n∈pC (r.ch++r.nw)->(n∈yA (ro++o1)\/n∈ms)\/n∈yA (ro++(r.ch++r.nw)):=by
    intro h;rcases l6 n h with h|h
    ·exact .inl (.inl ((hkey n).2 h))
    ·refine .inr ?_;rw [kE,kE,List.mem_append,List.mem_append];exact .inr (.inr h)
   rcases hn with hn|hn
   ·exact hme (.inl hn)
   ·rcases mem_namesOb.1 hn with h|h
    ·exact .inr h
    ·obtain⟨p,hp,hkp⟩:=mem_mentO.1 h;rcases List.mem_append.1 hp with hp|hp
     ·by_cases hk:n∈yA (ro++o1)
      ·exact .inl (.inl hk)
      ·exact .inl (.inr ((hmsD n).2 ⟨.inr (mem_mentO.2 ⟨p,by simp [hp],hkp⟩),hk⟩))
     ·exact hme (.inr (mem_mentO.2 ⟨p,hp,hkp⟩))
  ·refine AWP.post hA λ ae σ' hq => ?_
   obtain⟨⟨σ'',h1,h2,h3,s'',h4,h5,h6⟩,h7⟩:=hend ae σ' hq;refine⟨⟨σ'',h1,?_⟩,h7⟩;obtain⟨m1,m2,m3,_⟩:=hlast s'' h5 h6;have hsub:IC (ro++(r.ch++r.nw)) σ''.objs:=by
    refine aR λ p hp => ?_
    rw [h4.ob];rcases List.mem_append.1 hp with hp|hp
    ·have h8:=(hroD p.1).1 (keysO_mem.2 ⟨p.2,hp⟩);have h9:=hent p.1 p.2 (by simp [hp]);rw [h5.same p.1 (hsubN p.1 p.2 h9).1 (λ hd=>h8.2 (m2 p.1 hd))];exact h9
    ·exact m3 p.1 p.2 hp
   rcases h2 with rfl|rfl
   ·exact⟨h3,hsub⟩
   ·exact⟨h3,hsub⟩
 ·intro p hp;exact (hrd.get p.1 p.2 (hent p.1 p.2 hp)).1
 ·intro n hn;rw [<- kE] at hn;obtain⟨o,ho⟩:=Option.isSome_iff_exists.1 ((hkey n).1 hn);exact (hrd.get n o ho).2.2.1
 ·intro n hn;have h1:=hchsub n hn;obtain⟨o,ho⟩:=Option.isSome_iff_exists.1 h1;refine⟨(hsubN n o ho).1,?_,(ho1D n).2 ⟨h1,hn⟩⟩;rw [(hrd.get n o ho).1];rfl
theorem nk {o:Option V} {r:RB} (h:ro o=some r):r.wr=none:=by
 obtain⟨v,_,rfl⟩:=AD h;rfl
theorem pk {x:V} {r:RB} (h:rb x=some r):r.wr=none:=by cases h;rfl
theorem ik {ti:TI} {ob:Nat->Option Ob} {x y:V} {r:RB} (h:lL ti ob x y=some r) {n:Nat} {o:Ob} (hw:r.wr=some (n,o)):(ob n).isSome=true:=by
 unfold lL at h;split at h
 ·cases h
 ·replace h:=(RA h).2;replace h:=(RA h).2;split at h
  ·split at h
   ·rename_i eo;split at h
    ·cases h;cases hw;rw [eo];rfl
    ·cases h
   ·cases h
  ·split at h
   ·rename_i eo;replace h:=(RA h).2;replace h:=(RA h).2;split at h
    ·cases h;cases hw;rw [eo];rfl
    ·cases h
   ·cases h
  ·obtain⟨_,_,_,_,_,_,rfl⟩:=va h;cases hw
  ·cases h
theorem xk {e:Nat} {te:TI} {ob:Nat->Option Ob} {nx:Nat} {x y:V} {r:RB} (h:gI e te ob nx x y=some r) {n:Nat} {o:Ob} (hw:r.wr=some (n,o)) (hn:r.new=false):(ob n).isSome=true:=by
 unfold gI at h;split at h
 ·split at h
  ·rename_i eo ey;replace h:=(RA h).2;cases h;cases hw;rw [eo];rfl
  ·cases h
 ·split at h
  ·rename_i eo;split at h
   ·replace h:=(RA h).2;cases h;cases hw;rw [eo];rfl
   ·cases h
  ·cases h
 ·split at h
  ·replace h:=(RA h).2;cases h;cases hw
  ·cases h
 ·split at h
  ·replace h:=(RA h).2;cases h;cases hn
  ·cases h
 ·cases h
theorem Ak {e:Nat} {te:TI} {nx len:Nat} {es:List (List V)} {r:RB} (h:LO e te nx len es=some r) {n:Nat} {o:Ob} (hw:r.wr=some (n,o)) (hn:r.new=false):False:=by
 unfold LO at h;replace h:=(RA h).2;split at h
 ·cases h;cases hw
 ·cases h;cases hn
theorem Bk {T:Nat->Option TI} {nx:Nat} {val:Operand->V} {ob:Nat->Option Ob} {dst:Option Nat} {op:Op} {r:RB} (h:KC T nx val ob dst op=some r) {n:Nat} {o:Ob} (hw:r.wr=some (n,o)) (hn:r.new=false):(ob n).isSome=true:=by
 have h1:∀ {x:V},rb x=some r->(ob n).isSome=true:=λ h=>by rw [pk h] at hw;cases hw
 have h2:∀ {x:Option V},ro x=some r->(ob n).isSome=true:=λ h=>by rw [nk h] at hw;cases hw
 unfold KC at h;split at h
 ·exact h1 h
 ·exact h1 h
 ·split at h
  ·exact h1 h
  ·exact h1 h
  ·cases h
 ·unfold bV at h;split at h
  ·cases h;cases hn
  ·cases h
 ·unfold dV at h;split at h
  ·replace h:=(RA h).2;cases h;cases hn
  ·cases h
 ·exact h2 h
 ·split at h
  ·exact h1 h
  ·split at h
   ·exact h1 h
   ·cases h
 ·split at h
  ·split at h
   ·split at h
    ·exact (Ak h hw hn).elim
    ·cases h
   ·cases h
  ·cases h
 ·split at h
  ·exact h2 h
  ·cases h
 ·split at h
  ·split at h
   ·exact ik h hw
   ·cases h
  ·cases h
 ·exact h2 h
 ·split at h
  ·exact h2 h
  ·cases h
 ·split at h
  ·exact h1 h
  ·cases h
 ·split at h
  ·split at h
   ·rename_i ti et _ p ep
    cases e:ti.k.isIface with
    | true=>rw [e] at h;cases h
    | false=>rw [e] at h;exact h1 h
   ·cases h
  ·cases h
 ·exact h2 h
 ·exact h2 h
 ·exact h2 h
 ·exact h2 h
 ·split at h
  ·unfold fR at h;split at h
   ·cases h;cases hn
   ·cases h
  ·cases h
 ·exact (da h).2.2 n o hw
 ·split at h
  ·exact h2 h
  ·cases h
 ·exact h2 h
 ·split at h
  ·rename_i ti et
   cases e:ti.k.isIface with
   | true=>rw [e] at h;cases h
   | false=>rw [e] at h;exact h2 h
  ·cases h
 ·split at h
  ·cases h;cases hn
  ·cases h
 ·split at h
  ·split at h
   ·obtain⟨_,_,n',⟨o',ho'⟩,hs⟩:=bR h;rw [ho'] at hw;cases hw;exact hs
   ·cases h
  ·cases h
 ·split at h
  ·split at h
   ·obtain⟨_,_,n',⟨o',ho'⟩,hs⟩:=bR h;rw [ho'] at hw;cases hw;exact hs
   ·cases h
  ·cases h
 ·split at h
  ·split at h
   ·split at h
    ·exact h2 h
    ·cases h
   ·cases h
  ·cases h
 ·split at h
  ·split at h
   ·exact h2 h
   ·cases h
  ·exact h2 h
  ·cases h
 ·split at h
  ·split at h
   ·exact h2 h
   ·exact h2 h
   ·cases h
  ·cases h
 ·split at h
  ·replace h:=(RA h).2;split at h
   ·split at h
    ·exact xk h hw hn
    ·cases h
   ·cases h
  ·cases h
 ·split at h
  ·split at h
   ·exact h1 h
   ·cases h
  ·cases h
 ·cases h
theorem Ea {bs n m:Nat} {l:List Nat} (h:m∈EJ bs n l):(m=n/\n<bs)\/m∈l:=by
 unfold EJ at h
 cases e:Nat.blt n bs with
 | true=>rw [e] at h;rcases List.mem_cons.1 h with h|h<;>first|exact .inl ⟨h,ND e⟩|exact .inr h
 | false=>rw [e] at h;exact .inr h
theorem Fa {bs n m:Nat} {l:List Nat} (h:m∈l):m∈EJ bs n l:=by
 unfold EJ;cases Nat.blt n bs
 ·exact h
 ·exact List.mem_cons_of_mem _ h
theorem Ia {bs n:Nat} {l:List Nat} (h:n<bs):n∈EJ bs n l:=by
 unfold EJ;rw [CG,decide_eq_true h];simp
theorem Inv.slot {bs:Nat} {sub:Tr Ob} {s:IS} (h:Inv bs sub s) (t:Tr V):Inv bs sub ⟨t,s.ob,s.nx,s.dt⟩:=⟨h.le,h.same,h.old,h.names,h.dts⟩
theorem Ja {bs:Nat} {sub:Tr Ob} {s:IS} (h:Inv bs sub s) {r:RB} (hn:r.new=true) (hnx:∃ o,r.wr=some (s.nx,o)) (d:Option Nat):Inv bs sub (s.app bs d r):=by
 obtain⟨o,hw⟩:=hnx;unfold IS.app;rw [hw,hn];refine⟨Nat.le_succ_of_le h.le,λ m hm hd => ?_,λ m hm hs => ?_,h.names,h.dts⟩
 ·have:=h.le;show (s.ob.put s.nx (some o)).get m=_;rw [Tr.get_put,if_neg (by omega)];exact h.same m hm hd
 ·have:=h.le;have hs:((s.ob.put s.nx (some o)).get m).isSome=true:=hs;rw [Tr.get_put,if_neg (by omega)] at hs;exact h.old m hm hs
theorem Ck {bs:Nat} {sub:Tr Ob} {s:IS} (h:Inv bs sub s) {T:Nat->Option TI} {val:Operand->V} {dst:Option Nat} {op:Op} {r:RB} (hr:KC T s.nx val s.ob.get dst op=some r) (d:Option Nat):Inv bs sub (s.app bs d r):=by
 unfold IS.app
 cases hw:r.wr with
 | none=>exact h.slot _
 | some p =>
  obtain⟨n,o⟩:=p
  cases hn:r.new with
  | true =>
   obtain⟨note,_,hnx⟩:=sa hr;have:=Ja h hn (hnx hn) d;unfold IS.app at this;rwa [hw,hn] at this
  | false =>
   have hsome:=Bk hr hw hn;refine⟨h.le,λ m hm hd => ?_,λ m hm hs => ?_,h.names,λ m hm => ?_⟩
   ·show (s.ob.put n (some o)).get m=_;have hne:m≠n:=by rintro rfl;exact hd (Ia hm)
    rw [Tr.get_put,if_neg hne];exact h.same m hm (λ hm'=>hd (Fa hm'))
   ·have hs:((s.ob.put n (some o)).get m).isSome=true:=hs;rw [Tr.get_put] at hs;by_cases e:m=n
    ·subst e;exact h.old m hm hsome
    ·rw [if_neg e] at hs;exact h.old m hm hs
   ·rcases Ea hm with ⟨rfl,h1⟩|h1
    ·exact h1
    ·exact h.dts m h1
theorem Ek (l:List (Nat × Ob)) (n m:Nat) (o:Ob):zA (CF l [(n,some o)]) m=if m=n then some o else zA l m:=by
 simp only [CF,MU];exact QC l n m o
theorem IV {s:IS} {σ:St} (h:Rel s σ) (d:Option Nat) (x:V) (t:Nat):JA (iC d x σ.slots) t=(match (PD s.sl d x).get t with|some v=>v|none => .undef):=by
 rw [dL]
 cases d with
 | none=>simp only [PD];exact h.sl t
 | some d =>
  simp only [PD,Tr.get_put];by_cases e:d=t
  ·subst e;simp
  ·have e':¬ t=d:=λ h=>e h.symm
   rw [if_neg (by simpa using e),if_neg e'];exact h.sl t
theorem JV:∀ (l:List (Nat × Ob)) (t:Tr Ob) (G:Nat->Option Ob),(∀ n o,(n,o)∈l->G n=some o)->∀ n,(eE l t).get n=if n∈yA l then G n else t.get n
 | [],t,G,_,n=>by simp [eE,yA]
 | (k,o)::r,t,G,h,n=>by
  simp only [eE];rw [JV r _ G (λ n q hq=>h n q (by simp [hq])),Tr.get_put];have hk:yA ((k,o)::r)=k::yA r:=rfl;rw [hk];by_cases h1:n∈yA r
  ·rw [if_pos h1,if_pos (by simp [h1])]
  ·rw [if_neg h1];by_cases e:n=k
   ·subst e;rw [if_pos rfl,if_pos (by simp),h n o (by simp)]
   ·rw [if_neg e,if_neg (by simp [e,h1])]
theorem Ka {bs m:Nat} : ∀ {l:List (Nat × Ob)} {d:List Nat},m∈HJ bs l d->(m∈yA l/\m<bs)\/m∈d
 | [],d,h => .inr h
 | (n,o)::r,d,h=>by
  simp only [HJ] at h;have hk:yA ((n,o)::r)=n::yA r:=rfl;rcases Ka h with h|h
  ·exact .inl ⟨by rw [hk];simp [h.1],h.2⟩
  ·rcases Ea h with ⟨rfl,h⟩|h
   ·exact .inl ⟨by rw [hk];simp,h⟩
   ·exact .inr h
theorem KV {bs m:Nat} : ∀ {l:List (Nat × Ob)} {d:List Nat},m∈d->m∈HJ bs l d
 | [],d,h=>h
 | (n,o)::r,d,h=>by simp only [HJ];exact KV (Fa h)
theorem La {bs m:Nat} (hm:m<bs):∀ {l:List (Nat × Ob)} {d:List Nat},m∈yA l->m∈HJ bs l d
 | [],d,h=>by simp [yA] at h
 | (n,o)::r,d,h=>by
  simp only [HJ];have hk:yA ((n,o)::r)=n::yA r:=rfl;rw [hk] at h;rcases List.mem_cons.1 h with rfl|h
  ·exact KV (Ia hm)
  ·exact La hm h
section
variable {P:Program} {gl:Nat->Option (List PV)} {s:IS} {f:Nat} {args:List V} {r:aB} {ks:List Nat} {o1 ro:List (Nat × Ob)}
theorem Called.get (h:Called P gl s f args r ks ro o1) (t:Tr Ob):∃ G:Nat->Option Ob,(∀ n,(eE r.nw (eE r.ch t)).get n=if n∈yA (r.ch++r.nw) then G n else t.get n) /\ ∀ n,zA (r.ch++r.nw) n=if n∈yA (r.ch++r.nw) then G n else none:=by
 obtain⟨G,hG⟩:=h.gfn;refine⟨G,λ n => ?_,λ n => ?_⟩
 ·have hk:n∈yA (r.ch++r.nw)↔n∈yA r.ch\/n∈yA r.nw:=by rw [kE,List.mem_append]
  rw [JV r.nw _ G (λ n o ho=>hG n o (by simp [ho])),JV r.ch _ G (λ n o ho=>hG n o (by simp [ho]))];by_cases h1:n∈yA r.nw
  ·rw [if_pos h1,if_pos (hk.2 (.inr h1))]
  ·rw [if_neg h1];by_cases h2:n∈yA r.ch
   ·rw [if_pos h2,if_pos (hk.2 (.inl h2))]
   ·rw [if_neg h2,if_neg (λ h=>by rcases hk.1 h with h|h<;>contradiction)]
 ·by_cases h1:n∈yA (r.ch++r.nw)
  ·rw [if_pos h1];exact Aa hG n h1
  ·rw [if_neg h1];exact xa h1
theorem Called.inv (h:Called P gl s f args r ks ro o1) {bs:Nat} {sub:Tr Ob} (hI:Inv bs sub s) (d:Option Nat):Inv bs sub (pR bs s d r):=by
 obtain⟨G,hG,_⟩:=h.get s.ob;have:=hI.le;have:=h.le;refine⟨by show bs<=r.nx;omega,λ m hm hd => ?_,λ m hm hs => ?_,hI.names,λ m hm => ?_⟩
 ·show (eE r.nw (eE r.ch s.ob)).get m=_;rw [hG,if_neg]
  ·exact hI.same m hm (λ hm'=>hd (KV hm'))
  ·rw [kE,List.mem_append]
   rintro (h1|h1)
   ·exact hd (La hm h1)
   ·have:=(h.nws m h1).1;omega
 ·have hs:((eE r.nw (eE r.ch s.ob)).get m).isSome=true:=hs;rw [hG] at hs;split at hs
  ·rename_i h1;rw [kE,List.mem_append] at h1;rcases h1 with h1|h1
   ·exact hI.old m hm (h.chs m h1).2.1
   ·have:=(h.nws m h1).1;omega
  ·exact hI.old m hm hs
 ·rcases Ka hm with h1|h1
  ·exact h1.2
  ·exact hI.dts m h1
theorem Called.rel (h:Called P gl s f args r ks ro o1) {σ:St} (hR:Rel s σ) (bs:Nat) (d:Option Nat):Rel (pR bs s d r) (σ.eff d (bL r.x ro o1 (r.ch++r.nw))):=by
 obtain⟨G,hG,hG'⟩:=h.get s.ob;refine⟨λ t=>IV hR d r.x t,λ n => ?_,λ n hn => ?_⟩
 ·show zA (CF σ.objs (kH o1 (r.ch++r.nw))) n=(eE r.nw (eE r.ch s.ob)).get n;rw [rJ,hG,hG'];by_cases h1:n∈yA (r.ch++r.nw)
  ·rw [if_pos h1,if_pos h1];have h2:=wH h1;obtain⟨o,ho⟩:=h2;rw [hG',if_pos h1] at ho;rw [ho]
  ·rw [if_neg h1,if_neg h1];simp only;rw [if_neg]
   ·exact hR.ob n
   ·intro h2;exact h1 (by rw [kE];simp [h.inch n h2])
 ·have hn:n∈(yA (r.ch++r.nw)).filter (λ n=>(zA o1 n).isNone)++σ.used:=hn;show n<r.nx;have hle:=h.le;rcases List.mem_append.1 hn with hn|hn
  ·obtain⟨h1,h2⟩:=List.mem_filter.1 hn;rw [kE,List.mem_append] at h1;rcases h1 with h1|h1
   ·have:=(h.chs n h1).1;omega
   ·exact (h.nws n h1).2
  ·have:=hR.us n hn;omega
theorem Called.op (h:Called P gl s f args r ks ro o1) {X:NA} (hP:X.P=P) (hgl:X.gl=gl) {σ:St} (hR:Rel s σ) {o:Oper} (hf:oG (σ.val X.gl) o.op=some (f,args)):OpW X o σ (bL r.x ro o1 (r.ch++r.nw)):=by
 subst hP hgl;refine OpW.callR f args ro o1 r.x (r.ch++r.nw) hf h.ac h.apart (aR λ p hp => ?_) (λ n hn hu => ?_)
 ·rw [hR.ob];exact h.subs p hp
 ·have hn:n∈(yA (r.ch++r.nw)).filter (λ n=>(zA o1 n).isNone):=hn;obtain⟨h1,h2⟩:=List.mem_filter.1 hn;rw [kE,List.mem_append] at h1;have:=hR.us n hu;rcases h1 with h1|h1
  ·obtain⟨q,hq⟩:=wH (h.chs n h1).2.2;rw [hq] at h2;cases h2
  ·have:=(h.nws n h1).1;omega
end
def zP (ev:jB) (P:Program) (call:Call):Prop:=∀ (f:Nat) (args:List V) (s:IS) (r:aB) (ks:List Nat),call f args s=some (r,ks)->∃ ro o1,Called P ev.gl s f args r ks ro o1
def pI (e:Eff) (tc:Tc):Prop:=(∀ n∈e.wn,n∈tc.wn) /\ ∀ n∈e.rd,n∈tc.rd
section
variable {ev:jB} {P:Program} {call:Call}
theorem Fk (hg:zP ev P call) {bs:Nat} {o:Oper} {s s1:IS} {tc:Tc} (h:aL ev call bs o s=some (s1,tc)) {sub:Tr Ob} (hI:Inv bs sub s):Inv bs sub s1:=by
 unfold aL at h;split at h
 ·unfold callR at h;split at h
  ·rename_i r ks hc;cases h;obtain⟨ro,o1,hC⟩:=hg _ _ _ _ _ hc;exact hC.inv hI _
  ·cases h
 ·split at h
  ·rename_i r hr;cases h;exact Ck hI hr _
  ·cases h
theorem Ma {bs:Nat} {o:Oper} {s:IS} {r:RB} {note:FC} (hG:vF (gA ev.T note (s.val ev.gl) s.ob.get o.dst o.op) r) (hnx:r.new=true->∃ o',r.wr=some (s.nx,o')) {X:NA} (hXT:X.T=ev.T) (hgl:X.gl=ev.gl) {σ:St} (hR:Rel s σ) :
  ∃ e,OpW X o σ e/\Rel (s.app bs o.dst r) (σ.eff o.dst e)/\pI e ⟨match r.wr with|some (n,_)=>[n]|none=>[],rdN (s.val ev.gl) o.op⟩:=by
 obtain⟨q,hq,hc,hx,hw,hn⟩:=hG;have hval:=hR.val ev.gl;have hOW:OpW X o σ (q.eff (rdN (σ.val X.gl) o.op)):=by
  refine .step note q ?_ hc λ n hnn => ?_
  ·rw [hgl,hXT,hval,hR.obf];exact hq
  ·simp only [R.eff,hw,hn] at hnn
   cases hwr:r.wr with
   | none=>rw [hwr] at hnn;simp at hnn
   | some p =>
    obtain⟨m,ob⟩:=p;rw [hwr] at hnn
    cases hnw:r.new with
    | false=>rw [hnw] at hnn;simp at hnn
    | true =>
     rw [hnw] at hnn;obtain⟨o',ho'⟩:=hnx hnw;rw [hwr] at ho';cases ho';simp at hnn;subst hnn;intro hu;exact absurd (hR.us _ hu) (Nat.lt_irrefl _)
 refine⟨_,hOW,?_,?_,?_⟩
 ·-- the state
  refine⟨λ t => ?_,λ n => ?_,λ n hnn => ?_⟩
  ·have:JA (iC o.dst q.out σ.slots) t=_:=IV hR o.dst q.out t;rw [hx] at this;show JA (iC o.dst q.out σ.slots) t=_;rw [hx,this];unfold IS.app
   cases r.wr with
   | none=>rfl
   | some p=>cases r.new<;>rfl
  ·show zA (CF σ.objs (match q.wr with|some (n,o)=>[(n,some o)]|none=>[])) n=_;rw [hw];unfold IS.app
   cases hwr:r.wr with
   | none=>exact hR.ob n
   | some p =>
    obtain⟨m,ob⟩:=p;simp only;rw [Ek,hR.ob];cases r.new<;>exact (Tr.get_put _ _ _ _).symm
  ·have hnn:n∈(match q.wr,q.new with|some (n,_),true=>[n]|_,_=>[])++σ.used:=hnn;rw [hw,hn] at hnn;unfold IS.app
   cases hwr:r.wr with
   | none=>rw [hwr] at hnn;simp at hnn;exact hR.us n hnn
   | some p =>
    obtain⟨m,ob⟩:=p;rw [hwr] at hnn
    cases hnw:r.new with
    | false=>rw [hnw] at hnn;simp at hnn;exact hR.us n hnn
    | true =>
     rw [hnw] at hnn;obtain⟨o',ho'⟩:=hnx hnw;rw [hwr] at ho';cases ho';simp at hnn;show n<Nat.succ s.nx;rcases hnn with h1|h1
     ·subst h1;exact Nat.lt_succ_self _
     ·exact Nat.lt_succ_of_lt (hR.us n h1)
 ·intro n hnn;simp only [Eff.wn,R.eff,hw] at hnn
  cases hwr:r.wr with
  | none=>rw [hwr] at hnn;simp at hnn
  | some p =>
   obtain⟨m,ob⟩:=p;rw [hwr] at hnn;simpa using hnn
 ·intro n hnn;have hnn:n∈rdN (σ.val X.gl) o.op:=hnn;rw [hgl,hval] at hnn;exact hnn
theorem Gk (hg:zP ev P call) {bs:Nat} {o:Oper} {s s1:IS} {tc:Tc} (h:aL ev call bs o s=some (s1,tc)) {X:NA} (hP:X.P=P) (hXT:X.T=ev.T) (hgl:X.gl=ev.gl) {σ:St} (hR:Rel s σ) :
  ∃ e,OpW X o σ e/\Rel s1 (σ.eff o.dst e)/\pI e tc:=by
 unfold aL at h;split at h
 ·rename_i f args hf;unfold callR at h;split at h
  ·rename_i r ks hc;cases h;obtain⟨ro,o1,hC⟩:=hg _ _ _ _ _ hc;refine⟨_,hC.op hP hgl hR (by rw [hR.val,hgl];exact hf),hC.rel hR bs _,λ n hn => ?_,λ n hn => ?_⟩
   ·have hn:n∈(kH o1 (r.ch++r.nw)).map (·.1):=hn;simp only [kH,List.map_append,List.map_map,List.mem_append] at hn ⊢;rcases hn with hn|hn
    ·obtain⟨m,hm,rfl⟩:=List.mem_map.1 hn;have:=hC.inch m (List.mem_filter.1 hm).1;exact .inl this
    ·obtain⟨p,hp,rfl⟩:=List.mem_map.1 hn;rw [List.mem_reverse,List.mem_append] at hp;rcases hp with hp|hp
     ·exact .inl (List.mem_map.2 ⟨p,hp,rfl⟩)
     ·exact .inr (List.mem_map.2 ⟨p,hp,rfl⟩)
   ·exact hC.kss n hn
  ·cases h
 ·rename_i hf;split at h
  ·rename_i r hr;cases h;obtain⟨note,hG,hnx⟩:=sa hr;exact Ma hG hnx hXT hgl hR
  ·cases h
end
end Go.Lg
