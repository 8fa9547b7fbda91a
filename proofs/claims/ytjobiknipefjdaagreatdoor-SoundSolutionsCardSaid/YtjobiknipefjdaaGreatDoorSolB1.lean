/- The engine that computes runs; no conditions. -/
import Derived.Test.YtjobiknipefjdaaGreatDoorSolA4
set_option linter.all false
namespace Go.Lg
inductive Tr(α:Type) where|nil|node (l:Tr α) (v:Option α) (r:Tr α)
theorem iE{a b:Nat}(h:a=b):Nat.beq a b=true:=by subst h;exact Nat.beq_refl a
theorem lK{a b:Nat}(h:a≠b):Nat.beq a b=false:=by
 cases e:Nat.beq a b with|false=>rfl|true=>simp_all
def Tr.get{α:Type}:Tr α->Nat->Option α|.nil,_=>none|.node l v r,i=>bif Nat.beq i 0 then v else bif Nat.beq (Nat.mod i 2) 1 then l.get (Nat.div i 2)else r.get (Nat.pred (Nat.div i 2))
def Tr.putF{α:Type}:Nat->Tr α->Nat->Option α->Tr α|0,t,_,_=>t|f+1,.nil,i,x=>bif Nat.beq i 0 then .node .nil x .nil else bif Nat.beq (Nat.mod i 2) 1 then .node (Tr.putF f .nil (Nat.div i 2) x) none .nil else .node .nil none (Tr.putF f .nil (Nat.pred (Nat.div i 2)) x)|f+1,.node l v r,i,x=>bif Nat.beq i 0 then .node l x r else bif Nat.beq (Nat.mod i 2) 1 then .node (Tr.putF f l (Nat.div i 2) x) v r else .node l v (Tr.putF f r (Nat.pred (Nat.div i 2)) x)
def Tr.put{α:Type}(t:Tr α)(i:Nat)(x:Option α):Tr α:=Tr.putF (Nat.succ i) t i x
def Tr.map{α β:Type}(f:α->β):Tr α->Tr β|.nil=>.nil|.node l v r=>.node (l.map f) (v.map f) (r.map f)
def Tr.get_nil{α:Type}(i:Nat):(Tr.nil:Tr α).get i=none:=rfl
def Tr.get_node{α:Type}(l:Tr α)(v:Option α)(r:Tr α)(i:Nat):(Tr.node l v r).get i=if i=0 then v else if i%2=1 then l.get (i / 2)else r.get (i / 2-1):=by
 show(bif Nat.beq i 0 then v else bif Nat.beq (Nat.mod i 2) 1 then l.get (Nat.div i 2)else r.get (Nat.pred (Nat.div i 2)))=_;by_cases h:i=0
 ·simp_all
 rw[if_neg h,lK h];by_cases a:i%2=1
 ·rw[if_pos a,show Nat.beq (Nat.mod i 2) 1=true from iE a];rfl
 rw[if_neg a,show Nat.beq (Nat.mod i 2) 1=false from lK a];rfl
def Tr.get_putF{α:Type}:∀(f:Nat)(t:Tr α)(i:Nat)(x:Option α)(j:Nat),i<f->(Tr.putF f t i x).get j=if j=i then x else t.get j
 |0,_,_,_,_,h=>absurd h (Nat.not_lt_zero _)|f+1,t,i,x,j,h=>by
  have key:∀(l:Tr α)(v:Option α)(r:Tr α),
    (bif Nat.beq i 0 then Tr.node l x r else bif Nat.beq (Nat.mod i 2) 1 then .node (Tr.putF f l (Nat.div i 2) x) v r else .node l v (Tr.putF f r (Nat.pred (Nat.div i 2)) x)).get j=if j=i then x else(Tr.node l v r).get j:=by
   intro l v r;by_cases d:i=0
   ·subst d;show(Tr.node l x r).get j=_;rw[Tr.get_node,Tr.get_node];simp_all
   rw[show Nat.beq i 0=false from lK d];simp only[cond_false];by_cases e:i%2=1
   ·rw[show Nat.beq (Nat.mod i 2) 1=true from iE e];simp only[cond_true];rw[Tr.get_node,Tr.get_node];have c:=Tr.get_putF f l (i / 2) x (j / 2) (by omega);by_cases b:j=0
    ·grind
    rw[if_neg b,if_neg b];by_cases a:j%2=1
    ·rw[if_pos a,if_pos a];refine c.trans ?_
     grind
    grind
   rw[show Nat.beq (Nat.mod i 2) 1=false from lK e];simp only[cond_false];rw[Tr.get_node,Tr.get_node];have c:=Tr.get_putF f r (i / 2-1) x (j / 2-1) (by omega);by_cases b:j=0
   ·grind
   rw[if_neg b,if_neg b];by_cases a:j%2=1
   ·rw[if_pos a,if_pos a,if_neg (by omega)]
   rw[if_neg a,if_neg a];refine c.trans ?_
   grind
  cases t with
  |nil=>
   have:=key .nil none .nil;simp only[Tr.get_node,Tr.get_nil,ite_self]at this⊢;exact this
  |node l v r=>exact key l v r
theorem Tr.get_put{α:Type}(t:Tr α)(i:Nat)(x:Option α)(j:Nat):(t.put i x).get j=if j=i then x else t.get j:=Tr.get_putF _ t i x j (Nat.lt_succ_self i)
def Tr.get_map{α β:Type}(f:α->β):∀(t:Tr α)(i:Nat),(t.map f).get i=(t.get i).map f
 |.nil,_=>rfl|.node l v r,i=>by
  show(Tr.node (l.map f) (v.map f) (r.map f)).get i=_;rw[Tr.get_node,Tr.get_node];split
  ·rfl
  split
  ·exact Tr.get_map f l _
  exact Tr.get_map f r _
def mK{α:Type}:List α->Nat->List α
 |[],_=>[]|a::l,n=>match n with|0=>a::l|m+1=>mK l m
def WS{α:Type}:∀(l:List α)(n:Nat),mK l n=l.drop n|[],n=>by simp[mK]|a::l,0=>rfl|a::l,n+1=>by simp[mK,List.drop_succ_cons,WS]
def kO{α:Type}:List α->Nat->Option (List α)
 |[],n=>match n with|0=>some []|_+1=>none
 |a::l,n=>match n with
  |0=>some []|m+1=>match kO l m with|some r=>some (a::r)|none=>none
def XS{α:Type}:∀(l:List α)(n:Nat),kO l n=if n<=l.length then some (l.take n)else none
 |[],0=>rfl|[],n+1=>rfl|a::l,0=>rfl|a::l,n+1=>by
  simp only[kO,XS l n,List.length_cons,Nat.add_le_add_iff_right]
  grind
def TB{α:Type}:List α->Nat->Option α
 |[],_=>none|a::l,n=>match n with|0=>some a|m+1=>TB l m
def nH{α:Type}:∀(l:List α)(n:Nat),TB l n=l[n]?|[],n=>by simp[TB]|a::l,0=>rfl|a::l,n+1=>by simp[TB,nH]
def WH{α:Type}:List α->Nat->List α->Option (List α)
 |a,0,[]=>some a|[],0,_::_=>none|_::a,0,y::b=>match WH a 0 b with|some r=>some (y::r)|none=>none
 |[],_+1,_=>none|c::a,n+1,b=>match WH a n b with|some r=>some (c::r)|none=>none
def YS{α:Type}:∀(a:List α)(n:Nat)(b r:List α),WH a n b=some r->n+b.length<=a.length/\r=a.take n++b++a.drop (n+b.length)
 |a,0,[],r,h=>by grind[WH,Option.some.injEq]|[],0,_::_,r,h=>by grind[WH]|c::a,0,y::b,r,h=>by
  simp only[WH]at h;split at h
  ·rename_i d e;obtain⟨f,g⟩:=YS a 0 b d e;simp_all
  cases h
 |[],n+1,b,r,h=>by grind[WH]|c::a,n+1,b,r,h=>by
  simp only[WH]at h;split at h
  ·rename_i d e;obtain⟨f,g⟩:=YS a n b d e
   grind
  cases h
structure RB where
 x:V
 wr:Option (Nat×Ob)
 new:Bool
def rb(x:V):Option RB:=some ⟨x,none,false⟩
def zD:List Nat->Nat->Bool|[],_=>false|k::r,n=>bif Nat.beq k n then true else zD r n
theorem pH:∀(l:List Nat)(n:Nat),zD l n=true↔n∈l
 :=by intro x;induction x<;>simp_all[zD,iE,lK,cond_false,List.mem_cons,absurd]<;>grind
def xA:Int->Bool|.ofNat n=>Nat.ble n 9223372036854775807|.negSucc n=>Nat.ble n 9223372036854775807
def vp{x:Int}(h:xA x=true):QN x:=by
 cases x with|ofNat n=>have:=Nat.le_of_ble_eq_true h;constructor<;>simp only[Int.ofNat_eq_natCast]<;>omega|negSucc n=>have:=Nat.le_of_ble_eq_true h;constructor<;>omega
def fA:Int->Int->Bool|.ofNat m,.ofNat n=>Nat.blt m n|.negSucc m,.negSucc n=>Nat.blt n m|.negSucc _,.ofNat _=>true|.ofNat _,.negSucc _=>false
theorem qJ(m n:Nat):Nat.blt m n=decide (m<n):=by
 grind[Nat.blt,Nat.le_of_ble_eq_true,decide_eq_true,decide_eq_false,Nat.ble,Nat.ble_eq_true_of_le]
theorem UB(a b:Int):fA a b=decide (a<b):=by
 cases a<;>cases b<;>simp only[fA]
 ·rw[qJ];simp
 ·rfl
 ·grind
 grind[qJ]
def fB:Int->Int->Bool|.ofNat m,.ofNat n=>Nat.beq m n|.negSucc m,.negSucc n=>Nat.beq m n|_,_=>false
def Od(m n:Nat):Nat.beq m n=decide (m=n):=by
 grind[iE,lK]
def XH(a b:Int):fB a b=decide (a=b):=by
 cases a<;>cases b<;>simp only[fB]
 ·rw[Od];grind
 ·rfl
 ·rfl
 simp[Od]
def Got(o:Option R)(x:V):Prop:=∃q,o=some q/\q.cond/\q.out=x/\q.wr=none/\q.new=false
def bv(b:Bool):V:=.pv (.bool b)
def CG(x:Int):Option V:=bif xA x then some (.pv (.int x))else none
def nK(op:BinOp)(a b:Int):Option V:=match op with|.add=>CG (a+b)|.sub=>CG (a-b)|.mul=>CG (a*b)|.rem=>bif fB b 0 then none else some (.pv (.int (a.tmod b)))|.lss=>some (bv (fA a b))|.leq=>some (bv (!fA b a))|.gtr=>some (bv (fA b a))|.geq=>some (bv (!fA a b))|.eql=>some (bv (fB a b))|.neq=>some (bv (!fB a b))|_=>none
def yp{op:BinOp}{a b:Int}{x:V}(h:nK op a b=some x):Got (eS op a b) x:=by
 have i:∀c:Int,CG c=some x->Got (some (R.ofIf (QN c) (.pv (.int c)))) x:=by
  intro c f;unfold CG at f
  cases e:xA c with
  |true=>rw[e]at f;cases f;exact⟨_,rfl,vp e,rfl,rfl,rfl⟩
  |false=>rw[e]at f;cases f
 have g:∀c d:Bool,c=d->some (bv c)=some x->Got (XB d) x:=by
  intro c d e f;subst e;cases f;exact⟨_,rfl,trivial,rfl,rfl,rfl⟩
 cases op<;>simp only[nK]at h<;>try cases h<;>done
 case add=>exact i _ h
 case sub=>exact i _ h
 case mul=>exact i _ h
 case rem=>
  cases e:fB b 0 with
  |true=>rw[e]at h;cases h
  |false=>
   rw[e]at h;cases h;rw[XH]at e;exact⟨_,rfl,(show b≠0 by simp_all),rfl,rfl,rfl⟩
 case lss=>exact g _ _ (UB a b) h
 case leq=>exact g _ _ (by rw[UB];by_cases j:b<a<;>simp[j]<;>omega) h
 case gtr=>exact g _ _ (UB b a) h
 case geq=>exact g _ _ (by rw[UB];by_cases j:a<b<;>simp[j]<;>omega) h
 case eql=>exact g _ _ (XH a b) h
 case neq=>exact g _ _ (by rw[XH]) h
def YB(n:Nat):List (List PV)->Bool|[]=>true|y::r=>bif Nat.beq y.length n then YB n r else false
def nM{n:Nat}:∀{l:List (List PV)},YB n l=true->∀y∈l,y.length=n
 |[],_,_,h=>by cases h
 |y::r,h,z,a=>by
  unfold YB at h
  cases e:Nat.beq y.length n with
  |false=>rw[e]at h;cases h
  |true=>
   rw[e]at h;rcases List.mem_cons.1 a with rfl|a
   ·simp_all
   exact nM h z a
def KC(n:Nat):List (List V)->Bool|[]=>true|y::r=>bif Nat.beq y.length n then KC n r else false
def pQ{n:Nat}:∀{l:List (List V)},KC n l=true->∀y∈l,y.length=n
 |[],_,_,h=>by cases h
 |y::r,h,z,a=>by
  unfold KC at h
  cases e:Nat.beq y.length n with
  |false=>rw[e]at h;cases h
  |true=>
   rw[e]at h;rcases List.mem_cons.1 a with rfl|a
   ·simp_all
   exact pQ h z a
def pM:List V->Bool|[]=>true|y::r=>bif y.one then pM r else false
def rQ:∀{l:List V},pM l=true->l.all V.one=true
 |[],_=>rfl|y::r,h=>by
  unfold pM at h
  cases e:y.one with
  |false=>rw[e]at h;cases h
  |true=>rw[e]at h;simp only[List.all_cons,e,Bool.true_and];exact rQ h
def lC:List (List V)->Bool|[]=>true|y::r=>bif pM y then lC r else false
def sQ:∀{l:List (List V)},lC l=true->∀y∈l,y.all V.one=true
 |[],_,_,h=>by cases h
 |y::r,h,z,a=>by
  unfold lC at h
  cases e:pM y with
  |false=>rw[e]at h;cases h
  |true=>
   rw[e]at h;rcases List.mem_cons.1 a with rfl|a
   ·exact rQ e
   exact sQ h z a
def ZS(agg:Bool)(n:Nat)(a:List PV):Option V:=match agg with
 |true=>match kO a n with|some l=>some (.pv (.agg l))|none=>none
 |false=>match a with|c::_=>some (.pv c)|[]=>none
def Pd{agg:Bool}{n:Nat}{a:List PV}{x:V}(h:ZS agg n a=some x):Got (XP agg n a) x:=by
 unfold ZS at h
 cases agg with
 |true=>
  simp only[XS]at h;by_cases e:n<=a.length
  ·rw[if_pos e]at h;cases h;exact⟨_,rfl,e,rfl,rfl,rfl⟩
  simp_all
 |false=>
  cases a with
  |nil=>cases h
  |cons c a=>cases h;exact⟨_,rfl,trivial,rfl,rfl,rfl⟩
def tQ:List V->Option (List PV)
 |[]=>some []|c::a=>match c with
  |.pv p=>match tQ a with|some r=>some (p::r)|none=>none
  |_=>none
def aX:∀(l:List V),tQ l=kE l
 |[]=>rfl|c::a=>by
  cases c<;>simp only[tQ,kE,V.un,aX a]
  grind
def aQ(a:List V):V:=match tQ a with|some b=>.pv (.agg b)|none=>.agg a
def cX(a:List V):aQ a=iG a:=by unfold aQ iG;rw[aX];cases kE a<;>rfl
def cQ(agg:Bool)(n:Nat)(a:List V):Option V:=match agg with
 |true=>match kO a n with|some l=>some (aQ l)|none=>none
 |false=>match a with|c::_=>some c|[]=>none
def Qd(agg:Bool)(n:Nat)(a:List V):cQ agg n a=OH agg n a:=by
 unfold cQ OH
 cases agg with
 |true=>
  simp only[if_true,XS,cX]
  grind
 |false=>rfl
def eX(a:TI)(d:Nat->Option Ob)(x:V):Option V:=match x with
 |.pv (.ptr b)=>ZS a.isAgg a.size b|.pv (.nptr b)=>ZS a.isAgg a.size b|.loc n off=>match d n with|some (.box b)=>cQ a.isAgg a.size (mK b off)|_=>none
 |.eloc n c i off=>match d n with
  |some (.arr b _ _ d)=>match TB d i with|some e=>bif Nat.beq c b then cQ a.isAgg a.size (mK e off)else none|none=>none
  |_=>none
 |_=>none
def bp{d:TI}{f:Nat->Option Ob}{x y:V}(h:eX d f x=some y):Got (zM d f x) y:=by
 unfold eX at h;unfold zM;split at h
 ·exact Pd h
 ·exact Pd h
 ·split at h
  ·rename_i j e;rw[Qd,WS]at h;simp only[e,h];exact⟨_,rfl,trivial,rfl,rfl,rfl⟩
  cases h
 ·rename_i n b i off;split at h
  ·rename_i a k l m e;rw[nH]at h;split at h
   ·rename_i o g
    cases c:Nat.beq b a with
    |false=>rw[c]at h;cases h
    |true=>
     rw[c]at h;simp only[cond_true]at h;rw[Qd,WS]at h;simp only[e,g,h];exact⟨_,rfl,Nat.eq_of_beq_eq_true c,rfl,rfl,rfl⟩
   cases h
  cases h
 cases h
def PF(o:Option R)(r:RB):Prop:=∃q,o=some q/\q.cond/\q.out=r.x/\q.wr=r.wr/\q.new=r.new
def Got.r{o:Option R}{x:V}(h:Got o x):PF o ⟨x,none,false⟩:=h
def jB{α:Type}{c:Bool}{a:Option α}{x:α}(h:(bif c then a else none)=some x):c=true/\a=some x:=by
 grind
def QF{m n:Nat}(h:Nat.blt m n=true):m<n:=by rw[qJ]at h;exact of_decide_eq_true h
def eQ(q:PV)(y:V):Option RB:=match q with
 |.nptr a=>match a with
  |c::_=>match c with
   |.flg p=>match y with
    |.pv z=>match z with|.bool b=>bif (bif b then p else true)then some ⟨.undef,none,false⟩else none|_=>none
    |_=>none
   |_=>none
  |[]=>none
 |_=>none
def Sd{q:PV}{y:V}{r:RB}(h:eQ q y=some r):∃p l b,q=.nptr (.flg p::l)/\y=.pv (.bool b)/\(b=true->p=true)/\r=⟨.undef,none,false⟩:=by
 unfold eQ at h;split at h
 ·grind
 cases h
def rM(c:TI)(a:Nat->Option Ob)(x y:V):Option RB:=match JF y with
 |none=>none|some b=>bif Nat.beq b.length c.size then(bif pM b then(match x with
  |.loc n off=>match a n with
   |some (.box c)=>match WH c off b with|some r=>some ⟨.undef,some (n,.box r),false⟩|none=>none
   |_=>none
  |.eloc n c i off=>match a n with
   |some (.arr a d g f)=>bif Nat.beq c a then(bif Nat.ble (off+b.length) d then(match TB f i with
    |some e=>some ⟨.undef,some (n,.arr a d g (f.set i (RD e off b))),false⟩|none=>none)else none)else none
   |_=>none
  |.pv q=>eQ q y|_=>none)else none)else none
def Td{k:TI}{m:Nat->Option Ob}{x y:V}{r:RB}(h:rM k m x y=some r):PF (jM k m x y) r:=by
 unfold rM at h;unfold jM;split at h
 ·cases h
 rename_i v o;have a:=(jB h).1;replace h:=(jB h).2;have s:=(jB h).1;replace h:=(jB h).2;have a:=Nat.eq_of_beq_eq_true a;simp only[o];split at h
 ·rename_i n off;split at h
  ·rename_i w c;split at h
   ·rename_i q z;cases h;obtain⟨d,f⟩:=YS w off v q z;simp only[c];exact⟨_,rfl,⟨a,d,rQ s⟩,rfl,by rw[f];rfl,rfl⟩
   cases h
  cases h
 ·rename_i n A i off;split at h
  ·rename_i t D E u c;have d:=(jB h).1;replace h:=(jB h).2;have f:=(jB h).1;replace h:=(jB h).2;split at h
   ·rename_i e g;cases h;rw[nH]at g;have j:i<u.length:=(List.getElem?_eq_some_iff.1 g).1;have B:u.getD i []=e:=by rw[List.getD_eq_getElem?_getD,g];rfl
    simp only[c];exact⟨_,rfl,⟨Nat.eq_of_beq_eq_true d,j,a,Nat.le_of_ble_eq_true f,rQ s⟩,rfl,by rw[B],rfl⟩
   cases h
  cases h
 ·obtain⟨p,l,b,rfl,rfl,C,rfl⟩:=Sd h;refine⟨_,rfl,⟨?_,C⟩,rfl,rfl,rfl⟩;cases o;exact a.symm
 cases h
def oE:Int->Option Nat|.ofNat n=>some n|.negSucc _=>none
theorem pK{i:Int}{n:Nat}(h:oE i=some n):i=n:=by
 cases i with|ofNat k=>grind[oE,Option.some.injEq]|negSucc k=>cases h
def zT(T:Nat->Option TI)(b:Nat->Option Ob)(t:Nat)(x i:V):Option V:=match i with
 |.pv (.int z)=>match oE z with
  |some k=>match T t with
   |some ⟨.slice e,_,_,_,_⟩=>match T e with
    |some c=>match x with
     |.pv (.slice d)=>match TB d k with|some e=>bif YB c.size d then some (.pv (.ptr e))else none|none=>none
     |.arr n a len=>match b n with|some (.arr b f _ d)=>bif Nat.beq a b then(bif Nat.blt k len then(bif Nat.beq f c.size then(bif Nat.ble len d.length then some (.eloc n a k 0)else none)else none)else none)else none|_=>none
     |_=>none
    |none=>none
   |some ⟨.array m e,_,_,_,_⟩=>match T e with|some c=>bif Nat.blt k m then vK x (k*c.size)else none|none=>none
   |_=>none
  |none=>none
 |_=>none
def dp{T:Nat->Option TI}{p:Nat->Option Ob}{t:Nat}{x i y:V}(h:zT T p t x i=some y):Got (vM T p t x i) y:=by
 unfold zT at h;unfold vM;split at h
 ·rename_i z;split at h
  ·rename_i k s;have u:=pK s;subst u;simp only[Int.toNat_natCast];split at h
   ·rename_i e a b c d g;simp only[g];split at h
    ·rename_i v f;simp only[f];split at h
     ·rename_i j;split at h
      ·rename_i w l;obtain⟨n,h⟩:=jB h;cases h;rw[nH]at l;have A:k<j.length:=(List.getElem?_eq_some_iff.1 l).1;have B:j.getD k []=w:=by rw[List.getD_eq_getElem?_getD,l];rfl
       refine⟨_,rfl,?_,by rw[B];rfl,rfl,rfl⟩;exact⟨by omega,by omega,nM n⟩
      cases h
     ·split at h
      ·rename_i r F G j C;obtain⟨o,h⟩:=jB h;obtain⟨n,h⟩:=jB h;obtain⟨D,h⟩:=jB h;obtain⟨E,h⟩:=jB h;cases h;simp only[C];refine⟨_,rfl,?_,rfl,rfl,rfl⟩;exact⟨Nat.eq_of_beq_eq_true o,by omega,by have:=QF n;omega,Nat.eq_of_beq_eq_true D,Nat.le_of_ble_eq_true E⟩
      cases h
     cases h
    cases h
   ·rename_i m e a b c d g;simp only[g];split at h
    ·rename_i v f;obtain⟨o,h⟩:=jB h;simp only[f,h];refine⟨_,rfl,?_,rfl,rfl,rfl⟩;exact⟨by omega,by have:=QF o;omega⟩
    cases h
   cases h
  cases h
 cases h
def iX(c:Nat->Option Ob)(x:V):Option V:=match x with
 |.pv (.slice a)=>some (.pv (.int (.ofNat a.length)))|.pv .nils=>some (.pv (.int 0))|.gsl _ _ a=>some (.pv (.int (.ofNat a.length)))|.arr n b len=>match c n with|some (.arr a _ _ _)=>bif Nat.beq b a then some (.pv (.int (.ofNat len)))else none|_=>none
 |_=>none
def fp{a:Nat->Option Ob}{x y:V}(h:iX a x=some y):Got (wM a x) y:=by
 unfold iX at h;unfold wM;split at h
 ·cases h;exact⟨_,rfl,trivial,rfl,rfl,rfl⟩
 ·cases h;exact⟨_,rfl,trivial,rfl,rfl,rfl⟩
 ·cases h;exact⟨_,rfl,trivial,rfl,rfl,rfl⟩
 ·split at h
  ·rename_i b e f g c;obtain⟨d,h⟩:=jB h;cases h;simp only[c];exact⟨_,rfl,Nat.eq_of_beq_eq_true d,rfl,rfl,rfl⟩
  cases h
 cases h
def sM(e:Nat)(c:TI)(i:Nat->Option Ob)(j:Nat)(x y:V):Option RB:=match x with
 |.arr n b len=>match i n,bH y with
  |some (.arr f g h d),some a=>bif Nat.beq b f&&Nat.ble len d.length&&Nat.beq h e&&Nat.beq g c.size&&Nat.blt 0 g&&KC g a&&lC a&&Nat.ble (len+a.length) maxLen&&Nat.ble ((len+a.length)*c.bytes) 140737488355328 then
    some ⟨.arr n (b+1) (len+a.length),some (n,.arr (b+1) g h (d.take len++a)),false⟩else none
  |_,_=>none
 |.gsl n b _=>match i n with
  |some (.grow f g h d)=>match y with
   |.pv (.slice a)=>bif Nat.beq b f&&Nat.beq h e&&Nat.beq g c.size&&Nat.blt 0 g&&YB g a&&lC (kA a)&&Nat.ble (d.length+a.length) maxLen&&Nat.ble ((d.length+a.length)*c.bytes) 140737488355328 then
    some ⟨.gsl n (b+1) (d++a),some (n,.grow (b+1) g h (d++a)),false⟩else none
   |_=>none
  |_=>none
 |.fsl d=>match y with
  |.pv (.slice (y::a))=>bif YB c.size d&&YB c.size (y::a)&&Nat.blt 0 c.size&&Nat.ble (d.length+(y::a).length) maxLen&&Nat.ble ((d.length+(y::a).length)*c.bytes) 140737488355328 then
    some ⟨.pv (.slice (d++y::a)),none,false⟩else none
  |_=>none
 |.pv .nils=>match bH y with
  |some a=>bif Nat.blt 0 c.size&&KC c.size a&&lC a&&Nat.ble a.length maxLen&&Nat.ble (a.length*c.bytes) 140737488355328 then
    some ⟨.arr j 1 a.length,some (j,.arr 1 c.size e a),true⟩else none
  |none=>none
 |_=>none
def lp{e:Nat}{j:TI}{v:Nat->Option Ob}{k:Nat}{xo:Operand}{x y:V}{r:RB}(h:sM e j v k x y=some r):
  ∃note,PF (PH e j v note xo x y) r/\(r.new=true->∃o,r.wr=some (k,o)):=by
 unfold sM at h;split at h
 ·rename_i n l len;split at h
  ·rename_i i w z A B m p;obtain⟨a,h⟩:=jB h;cases h;simp only[Bool.and_eq_true]at a;obtain⟨⟨⟨⟨⟨⟨⟨⟨b,c⟩,d⟩,f⟩,g⟩,s⟩,t⟩,u⟩,C⟩:=a;refine⟨.none,?_,by simp⟩;simp only[PH,m,p];exact⟨_,rfl,⟨Nat.eq_of_beq_eq_true b,Nat.le_of_ble_eq_true c,Nat.eq_of_beq_eq_true d,Nat.eq_of_beq_eq_true f,QF g,pQ s,sQ t,Nat.le_of_ble_eq_true u,Nat.le_of_ble_eq_true C⟩,rfl,rfl,rfl⟩
  cases h
 ·rename_i n l D;split at h
  ·rename_i i w z A m;split at h
   ·obtain⟨a,h⟩:=jB h;cases h;simp only[Bool.and_eq_true]at a;obtain⟨⟨⟨⟨⟨⟨⟨b,c⟩,d⟩,f⟩,g⟩,s⟩,t⟩,u⟩:=a;refine⟨.none,?_,by simp⟩;simp only[PH,m];exact⟨_,rfl,⟨⟨Nat.eq_of_beq_eq_true b,Nat.eq_of_beq_eq_true c,Nat.eq_of_beq_eq_true d,QF f⟩,nM g,sQ s,Nat.le_of_ble_eq_true t,Nat.le_of_ble_eq_true u⟩,rfl,rfl,rfl⟩
   cases h
  cases h
 ·split at h
  ·obtain⟨a,h⟩:=jB h;cases h;simp only[Bool.and_eq_true]at a;obtain⟨⟨⟨⟨b,c⟩,d⟩,f⟩,g⟩:=a;refine⟨.none,?_,by simp⟩;exact⟨_,rfl,⟨nM b,nM c,QF d,by simp,Nat.le_of_ble_eq_true f,Nat.le_of_ble_eq_true g⟩,rfl,rfl,rfl⟩
  cases h
 ·split at h
  ·rename_i B p;obtain⟨a,h⟩:=jB h;cases h;simp only[Bool.and_eq_true]at a;obtain⟨⟨⟨⟨b,c⟩,d⟩,f⟩,g⟩:=a;refine⟨.arr k j.size e,?_,λ_=>⟨_,rfl⟩⟩;simp only[PH,p];exact⟨_,rfl,⟨by first|rfl|trivial,by first|rfl|trivial,QF b,pQ c,sQ d,Nat.le_of_ble_eq_true f,Nat.le_of_ble_eq_true g⟩,rfl,rfl,rfl⟩
  cases h
 cases h
def iQ(b:TI)(c:Nat->Option Ob)(x:V)(f d e:Option V):Option V:=match x,f,d,e with
 |.pv (.slice a),some (.pv (.int l)),none,none=>match oE l with|some k=>bif Nat.ble k a.length&&YB b.size a then some (.pv (.slice (a.drop k)))else none|none=>none
 |.pv (.slice a),none,some (.pv (.int h)),none=>match oE h with|some k=>bif Nat.ble k a.length then some (.pv (.slice (a.take k)))else none|none=>none
 |.arr n b len,none,some (.pv (.int h)),none=>match oE h,c n with|some k,some (.arr c _ _ _)=>bif Nat.beq b c&&Nat.ble k len then some (.arr n b k)else none|_,_=>none
 |.pv (.slice a),none,some (.pv (.int h)),some (.pv (.int m))=>match oE h,oE m with|some k,some l=>bif Nat.beq k a.length&&Nat.beq l a.length then some (.fsl a)else none|_,_=>none
 |.pv .nils,f,d,e=>bif QI f&&QI d&&QI e&&(!e.isSome||d.isSome)then some (.pv .nils)else none|_,_,_,_=>none
def np{e:TI}{f:Nat->Option Ob}{x y:V}{g i j:Option V}(h:iQ e f x g i j=some y):Got (kM e f x g i j) y:=by
 unfold iQ at h;unfold kM;split at h
 ·split at h
  ·rename_i k b;have c:=pK b;subst c;obtain⟨a,h⟩:=jB h;cases h;simp only[Bool.and_eq_true]at a;have d:=Nat.le_of_ble_eq_true a.1;refine⟨_,rfl,?_,by rfl,rfl,rfl⟩;exact⟨by omega,by omega,nM a.2⟩
  cases h
 ·split at h
  ·rename_i k b;have c:=pK b;subst c;obtain⟨a,h⟩:=jB h;cases h;have d:=Nat.le_of_ble_eq_true a;refine⟨_,rfl,?_,by rfl,rfl,rfl⟩;exact⟨by omega,by omega⟩
  cases h
 ·split at h
  ·rename_i k m r s t b n;have c:=pK b;subst c;obtain⟨a,h⟩:=jB h;cases h;simp only[Bool.and_eq_true]at a;have d:=Nat.le_of_ble_eq_true a.2;simp only[n];refine⟨_,rfl,?_,by rfl,rfl,rfl⟩;exact⟨Nat.eq_of_beq_eq_true a.1,by omega,by omega⟩
  cases h
 ·split at h
  ·rename_i k l b o;have c:=pK b;have p:=pK o;obtain⟨a,h⟩:=jB h;cases h;simp only[Bool.and_eq_true]at a;have d:=Nat.eq_of_beq_eq_true a.1;have u:=Nat.eq_of_beq_eq_true a.2;refine⟨_,rfl,?_,rfl,rfl,rfl⟩;exact⟨by omega,by omega⟩
  cases h
 ·obtain⟨a,h⟩:=jB h;cases h;simp only[a,cond_true];exact⟨_,rfl,trivial,rfl,rfl,rfl⟩
 cases h
def oQ(b:List (Nat×Nat))(cells:List V):List (Nat×V)->Option (List V)
 |[]=>some cells|(i,x)::a=>match TB b i with
  |some (off,size)=>match JF x with
   |some c=>bif Nat.beq c.length size then(match WH cells off c with
    |some r=>oQ b r a|none=>none)else none
   |none=>none
  |none=>none
def oX{c:List (Nat×Nat)}:∀{l:List (Nat×V)}{cells a:List V},oQ c cells l=some a->oG c cells l=some a
 |[],_,_,h=>h|(i,x)::d,cells,a,h=>by
  unfold oQ at h;unfold oG;rw[nH]at h;split at h
  ·rename_i off size f;split at h
   ·rename_i e g;obtain⟨b,h⟩:=jB h;have b:=Nat.eq_of_beq_eq_true b;split at h
    ·rename_i r j;obtain⟨m,k⟩:=YS cells off e r j;simp only[f,g];rw[if_pos ⟨b,by omega⟩];have:RD cells off e=r:=by rw[k];rfl
     rw[this];exact oX h
    cases h
   cases h
  cases h
def jT:Nat->List (Nat×V)->Option (List (List V))
 |_,[]=>some []|k,(i,x)::a=>bif Nat.beq i k then(match JF x with
   |some b=>match jT (Nat.succ k) a with|some a=>some (b::a)|none=>none
   |none=>none)else none
def xX:∀{l:List (Nat×V)}{k:Nat}{a:List (List V)},jT k l=some a->qM k l=some a
 |[],_,_,h=>h|(i,x)::b,k,a,h=>by
  unfold qM;obtain⟨c,h⟩:=jB h;rw[if_pos (Nat.eq_of_beq_eq_true c)];split at h
  ·rename_i g d;split at h
   ·rename_i e f;cases h;simp only[d,xX f]
   cases h
  cases h
def vT(e:Nat)(b:TI)(c len:Nat)(a:List (List V)):Option RB:=
 bif Nat.beq a.length len&&Nat.ble len 16777216&&Nat.ble (len*b.size) 16777216&&KC b.size a then(match KF a with
  |some d=>some ⟨.pv (.slice d),none,false⟩|none=>some ⟨.arr c 0 len,some (c,.arr 0 b.size e a),true⟩)else none
def pp{e:Nat}{a:TI}{b len:Nat}{c:List (List V)}{r:RB}(h:vT e a b len c=some r):∃note,PF (GW e a note len c) r/\(r.new=true->∃o,r.wr=some (b,o)):=by
 obtain⟨d,h⟩:=jB h;simp only[Bool.and_eq_true]at d;obtain⟨⟨⟨g,i⟩,j⟩,k⟩:=d;have f:=And.intro (Nat.eq_of_beq_eq_true g) (And.intro (Nat.le_of_ble_eq_true i) (And.intro (Nat.le_of_ble_eq_true j) (pQ k)));split at h
 ·rename_i m l;cases h;refine⟨.none,⟨_,rfl,f,?_,rfl,rfl⟩,by simp⟩;simp[R.ofIf,PN,l]
 cases h;exact⟨.arr b a.size e,⟨_,rfl,⟨f,rfl,rfl⟩,rfl,rfl,rfl⟩,λ_=>⟨_,rfl⟩⟩
def AX(T:Nat->Option TI)(a t:Nat):Option RB:=match T t with|some b=>some ⟨.loc a 0,some (a,.box (DA b.zc)),true⟩|none=>none
def BX(a:Nat)(x:V):Option RB:=match JF x with|some b=>bif pM b then some ⟨.loc a 0,some (a,.box b),true⟩else none|none=>none
def CX(T:Nat->Option TI)(t:Nat)(c:List (Nat×V)):Option V:=match T t with
 |some ⟨.struct b _,_,_,_,a⟩=>match oQ b (DA a) c with|some b=>some (aQ b)|none=>none
 |some ⟨.array m e,_,_,_,a⟩=>match T e with
  |some d=>match oQ (jK d.size m 0) (DA a) c with|some b=>some (aQ b)|none=>none
  |none=>none
 |_=>none
def Ud(x:V)(i:Nat):Option V:=match x with
 |.pv (.tuple a)=>match TB a i with|some c=>some (.pv c)|none=>none
 |.tuple a=>TB a i|_=>none
def DG:IntKind->IntKind->Bool|.u8,.u8=>true|.u32,.u32=>true|.i32,.i32=>true|_,_=>false
def cp{a b:IntKind}(h:DG a b=true):a=b:=by cases a<;>cases b<;>first|rfl|cases h
def DX(x:Int):Option Int:=bif xA x then some x else none
def xE(k:IntKind)(x:Int):Option V:=match DX x with|some y=>some (.pv (.num k y))|none=>none
def wT{k:IntKind}{x:Int}{v:V}(h:xE k x=some v):v=.pv (.num k x):=by
 grind[xE,DX]
def tM(op:BinOp)(k:IntKind)(a b:Int):Option V:=match op with|.add=>xE k (k.wrap (a+b))|.sub=>xE k (k.wrap (a-b))|.and=>xE k (LA .and k a b)|.or=>xE k (LA .or k a b)|.andNot=>xE k (LA .andNot k a b)|.lss=>some (bv (fA a b))|.leq=>some (bv (!fA b a))|.gtr=>some (bv (fA b a))|.geq=>some (bv (!fA a b))|.eql=>some (bv (fB a b))|.neq=>some (bv (!fB a b))|_=>none
def ip{op:BinOp}{k:IntKind}{a b:Int}{x:V}(h:tM op k a b=some x):Got (iS op k a b) x:=by
 have f:∀c d:Bool,c=d->some (bv c)=some x->Got (XB d) x:=by
  intro c d e i;subst e;cases i;exact⟨_,rfl,trivial,rfl,rfl,rfl⟩
 have g:∀c:Int,xE k c=some x->Got (some (R.of (.pv (.num k c)))) x:=by
  intro c i;rw[wT i];exact⟨_,rfl,trivial,rfl,rfl,rfl⟩
 cases op<;>simp only[tM]at h<;>try cases h<;>done
 case add=>exact g _ h
 case sub=>exact g _ h
 case and=>exact g _ h
 case or=>exact g _ h
 case andNot=>exact g _ h
 case lss=>exact f _ _ (UB a b) h
 case leq=>exact f _ _ (by rw[UB];by_cases j:b<a<;>simp[j]<;>omega) h
 case gtr=>exact f _ _ (UB b a) h
 case geq=>exact f _ _ (by rw[UB];by_cases j:a<b<;>simp[j]<;>omega) h
 case eql=>exact f _ _ (XH a b) h
 case neq=>exact f _ _ (by rw[XH]) h
def yO(op:BinOp)(k:IntKind)(a n:Int):Option V:=match op with|.shl=>bif fA n 0 then none else xE k (k.wrap (a*2^(min n.toNat k.bits)))|.shr=>bif fA n 0 then none else xE k (a.fdiv (2^(min n.toNat k.bits)))|_=>none
def xp{op:BinOp}{k:IntKind}{a n:Int}{x:V}(h:yO op k a n=some x):Got (oS op k a n) x:=by
 have d:∀c:Int,(bif fA n 0 then none else xE k c)=some x->Got (some (R.ofIf (0<=n) (.pv (.num k c)))) x:=by
  intro c b
  cases e:fA n 0 with
  |true=>rw[e]at b;cases b
  |false=>
   rw[e]at b;rw[wT b];rw[UB]at e;exact⟨_,rfl,(show 0<=n by simp_all),rfl,rfl,rfl⟩
 cases op<;>simp only[yO]at h<;>try cases h<;>done
 case shl=>exact d _ h
 case shr=>exact d _ h
def aM(k:TK)(op:BinOp)(x y:V)(c:Operand):Option V:=match x,y with
 |.pv (.int a),.pv (.int b)=>nK op a b|.pv (.num j a),.pv (.num d b)=>bif DG j d then tM op j a b else none|.pv (.num j a),.pv (.int n)=>yO op j a n|.pv (.str a),.pv (.str b)=>match op with|.eql=>some (bv (GE a b))|.neq=>some (bv (!GE a b))|_=>none
 |x,y=>match op with
  |.eql=>match RN k x y c with|some b=>some (bv b)|none=>none
  |.neq=>match RN k x y c with|some b=>some (bv (!b))|none=>none
  |_=>none
def Ap{k:TK}{op:BinOp}{x y z:V}{a:Operand}(h:aM k op x y a=some z):Got (SN k op x y a) z:=by
 have d:∀c:Bool,some (bv c)=some z->Got (XB c) z:=by
  intro c e;cases e;exact⟨_,rfl,trivial,rfl,rfl,rfl⟩
 unfold aM at h;split at h
 ·exact yp h
 ·have f:=cp (jB h).1;replace h:=(jB h).2;subst f;simp only[SN,if_true];exact ip h
 ·exact xp h
 ·split at h
  ·exact d _ h
  ·exact d _ h
  cases h
 have key:∀b,RN k x y a=some b->((op=.eql/\z=bv b)\/(op=.neq/\z=bv (!b)))->Got (SN k op x y a) z:=by
  unfold SN
  grind
 grind
def xQ:Bool->Bool->Bool|true,b=>b|false,true=>false|false,false=>true
def kT{a b:Bool}(h:xQ a b=true):a=b:=by cases a<;>cases b<;>first|rfl|cases h
def yT(s:Bool)(b:Nat->Option Ob)(m k v:V):Option RB:=match m with
 |.map n=>match TN k with
  |some a=>match b n with|some (.smap b c)=>bif xQ b s&&xQ a.kind s then some ⟨.undef,some (n,.smap b (SD c a v)),false⟩else none|_=>none
  |none=>none
 |_=>none
def uT{s:Bool}{b:Nat->Option Ob}{m k v:V}{r:RB}(h:yT s b m k v=some r):PF (RI s b m k v) r/\r.new=false/\∃n,(∃o,r.wr=some (n,o))/\(b n).isSome=true:=by
 unfold yT at h;split at h
 ·rename_i n;split at h
  ·rename_i a e;split at h
   ·rename_i f g d;have c:=(jB h).1;cases (jB h).2;simp only[Bool.and_eq_true]at c;refine⟨?_,rfl,n,⟨_,rfl⟩,by rw[d];rfl⟩;simp only[RI,e,d];exact⟨_,rfl,⟨kT c.1,kT c.2⟩,rfl,rfl,rfl⟩
   cases h
  cases h
 cases h
def EX(s ok:Bool)(z:PV)(b:Nat->Option Ob)(m k:V):Option V:=match m with
 |.map n=>match TN k with
  |some a=>match b n with
   |some (.smap b c)=>bif xQ b s&&xQ a.kind s then(match uF c a,ok with
    |some x,true=>some (.tuple [x,.pv (.bool true)])|none,true=>some (.pv (.tuple [z,.bool false]))|some x,false=>some x|none,false=>some (.pv z))else none
   |_=>none
  |none=>none
 |_=>none
def Bp{s ok:Bool}{z:PV}{c:Nat->Option Ob}{m k x:V}(h:EX s ok z c m k=some x):Got (kK s ok z c m k) x:=by
 unfold EX at h;split at h
 ·split at h
  ·rename_i a d;split at h
   ·rename_i i e f;have b:=(jB h).1;replace h:=(jB h).2;simp only[Bool.and_eq_true]at b;simp only[kK,d,f];refine⟨_,rfl,⟨kT b.1,kT b.2⟩,?_,rfl,rfl⟩;cases g:uF e a<;>cases ok<;>rw[g]at h<;>cases h<;>rfl
   cases h
  cases h
 cases h
def FX:V->Option V|.pv (.str l)=>some (.pv (.int (.ofNat l.length)))|_=>none
def Cp{x y:V}(h:FX x=some y):Got (IW x) y:=by
 unfold FX at h;split at h
 ·cases h;exact⟨_,rfl,trivial,rfl,rfl,rfl⟩
 cases h
def GX(x i:V):Option V:=match x with
 |.pv (.str l)=>match i with
  |.pv (.int z)=>match oE z with
   |some k=>match TB l k with|some b=>some (.pv (.num .u8 (.ofNat b)))|none=>none
   |none=>none
  |_=>none
 |_=>none
def Dp{x i y:V}(h:GX x i=some y):Got (JW x i) y:=by
 unfold GX at h;split at h
 ·rename_i l;split at h
  ·split at h
   ·rename_i k c;have d:=pK c;subst d;split at h
    ·rename_i b a;cases h;rw[nH]at a;have e:k<l.length:=(List.getElem?_eq_some_iff.1 a).1;have f:l.getD k 0=b:=by rw[List.getD_eq_getElem?_getD,a];rfl
     refine⟨_,rfl,⟨by omega,by omega⟩,?_,rfl,rfl⟩;simp only[R.ofIf,Int.toNat_natCast,f];rfl
    cases h
   cases h
  cases h
 cases h
def bT(d:Nat):Option V->Option Nat|none=>some d|some (.pv (.int k))=>oE k|_=>none
def Vd{d n:Nat}{x:Option V}(h:bT d x=some n):VI (d:Int) x=some (n:Int):=by
 unfold bT at h
 grind[VI,pK]
def IX(x:V)(c d e:Option V):Option V:=match x with
 |.pv (.str l)=>match e with
  |none=>match bT 0 c,bT l.length d with
   |some a,some b=>bif Nat.ble a b&&Nat.ble b l.length then(match kO (mK l a) (b-a)with
    |some r=>some (.pv (.str r))|none=>none)else none
   |_,_=>none
  |some _=>none
 |_=>none
def Ep{x y:V}{e j k:Option V}(h:IX x e j k=some y):Got (AS x e j k) y:=by
 unfold IX at h;split at h
 ·split at h
  ·split at h
   ·rename_i a b l m;have f:=(jB h).1;replace h:=(jB h).2;simp only[Bool.and_eq_true]at f;have n:=Nat.le_of_ble_eq_true f.1;have o:=Nat.le_of_ble_eq_true f.2;split at h
    ·rename_i r d;cases h;rw[XS,WS]at d;split at d
     ·cases d;have g:=Vd l;have i:=Vd m;have c:VI 0 e=some (a:Int):=g;simp only[AS,c,i];refine⟨_,rfl,⟨by omega,by omega,by omega⟩,?_,rfl,rfl⟩;simp[R.ofIf]
     cases d
    cases h
   cases h
  cases h
 cases h
def dT(a:Nat):V->Option RB|.pv (.str l)=>some ⟨.loc a 0,some (a,.siter l 0),true⟩|_=>none
def JX(a:Nat->Option Ob):V->Option RB
 |.loc n 0=>match a n with
  |some (.siter l p)=>match TB l p with|some b=>bif Nat.blt b 128 then some ⟨.pv (.tuple [.bool true,.int (.ofNat p),.num .i32 (.ofNat b)]),some (n,.siter l (p+1)),false⟩else none|none=>some ⟨.pv (.tuple [.bool false]),none,false⟩
  |_=>none
 |_=>none
def Wd{a:Nat->Option Ob}{x:V}{r:RB}(h:JX a x=some r):PF (UN a x) r/\r.new=false/\∀n o,r.wr=some (n,o)->(a n).isSome=true:=by
 unfold JX at h;split at h
 ·split at h
  ·rename_i l p d;rw[nH]at h;split at h
   ·rename_i b c;have f:=QF (jB h).1;cases (jB h).2;refine⟨?_,rfl,λg o e=>by simp_all⟩;simp only[UN,d,c];exact⟨_,rfl,f,rfl,rfl,rfl⟩
   rename_i c;cases h;refine⟨?_,rfl,λg o e=>by cases e⟩;simp only[UN,d,c];exact⟨_,rfl,trivial,rfl,rfl,rfl⟩
  cases h
 cases h
def KX(T:Nat->Option TI)(s t:Nat)(x:V):Option V:=match T s with
 |some _=>match T t with
  |some ⟨.num k,_,_,_,_⟩=>match x with|.pv (.num _ n)=>xE k (k.wrap n)|.pv (.int n)=>xE k (k.wrap n)|_=>none
  |some ⟨.int,_,_,_,_⟩=>match x with|.pv (.num _ n)=>CG (IntKind.i64.wrap n)|.pv (.int n)=>CG (IntKind.i64.wrap n)|_=>none
  |_=>none
 |none=>none
def LX(T:Nat->Option TI)(s t:Nat)(x:V):Option V:=match T s with
 |some ⟨.slice e,_,_,_,_⟩=>match T t with
  |some ⟨.str,_,_,_,_⟩=>match x with
   |.pv (.slice a)=>match T e with
    |some ⟨.num .u8,_,_,_,_⟩=>match UI a with|some (b::l)=>some (.pv (.str (b::l)))|_=>none
    |_=>none
   |_=>none
  |_=>none
 |_=>none
def Xd{x:Int}{v:V}(h:CG x=some v):v=.pv (.int x):=by
 grind[CG]
def Fp{T:Nat->Option TI}{s t:Nat}{x y:V}:KX T s t x=some y->Got (match T s,T t,x with
  |some _,some ⟨.num k,_,_,_,_⟩,.pv (.num _ n)=>some (R.of (.pv (.num k (k.wrap n))))|some _,some ⟨.num k,_,_,_,_⟩,.pv (.int n)=>some (R.of (.pv (.num k (k.wrap n))))|some _,some ⟨.int,_,_,_,_⟩,.pv (.num _ n)=>some (R.of (.pv (.int (IntKind.i64.wrap n))))|some _,some ⟨.int,_,_,_,_⟩,.pv (.int n)=>some (R.of (.pv (.int (IntKind.i64.wrap n))))|some ⟨.slice e,_,_,_,_⟩,some ⟨.str,_,_,_,_⟩,.pv (.slice f)=>match T e,UI f with|some ⟨.num .u8,_,_,_,_⟩,some (b::l)=>some (R.of (.pv (.str (b::l))))|_,_=>none
  |_,_,_=>none) y:=by
 intro h;unfold KX at h;split at h
 ·rename_i i f;split at h
  ·rename_i k a b c d g;split at h
   ·simp only[f,g];rw[wT h];exact⟨_,rfl,trivial,rfl,rfl,rfl⟩
   ·simp only[f,g];rw[wT h];exact⟨_,rfl,trivial,rfl,rfl,rfl⟩
   cases h
  ·rename_i a b c d g;split at h
   ·simp only[f,g];rw[Xd h];exact⟨_,rfl,trivial,rfl,rfl,rfl⟩
   ·simp only[f,g];rw[Xd h];exact⟨_,rfl,trivial,rfl,rfl,rfl⟩
   cases h
  cases h
 cases h
def Gp{T:Nat->Option TI}{s t:Nat}{x y:V}:LX T s t x=some y->Got (match T s,T t,x with
  |some _,some ⟨.num k,_,_,_,_⟩,.pv (.num _ n)=>some (R.of (.pv (.num k (k.wrap n))))|some _,some ⟨.num k,_,_,_,_⟩,.pv (.int n)=>some (R.of (.pv (.num k (k.wrap n))))|some _,some ⟨.int,_,_,_,_⟩,.pv (.num _ n)=>some (R.of (.pv (.int (IntKind.i64.wrap n))))|some _,some ⟨.int,_,_,_,_⟩,.pv (.int n)=>some (R.of (.pv (.int (IntKind.i64.wrap n))))|some ⟨.slice e,_,_,_,_⟩,some ⟨.str,_,_,_,_⟩,.pv (.slice a)=>match T e,UI a with|some ⟨.num .u8,_,_,_,_⟩,some (b::l)=>some (R.of (.pv (.str (b::l))))|_,_=>none
  |_,_,_=>none) y:=by
 intro h;unfold LX at h;split at h
 ·rename_i a;split at h
  ·rename_i c;split at h
   ·split at h
    ·rename_i d;split at h
     ·rename_i f;cases h;simp only[a,c,d,f];exact⟨_,rfl,trivial,rfl,rfl,rfl⟩
     cases h
    cases h
   cases h
  cases h
 cases h
def MX(a:TI)(t:Nat)(ok:Bool)(x:V):Option V:=match x with
 |.pv (.iface b p)=>bif Nat.beq b t then(match ok with
   |true=>some (.pv (.tuple [p,.bool true]))|false=>some (.pv p))
  else(match ok with
   |true=>match SI a with|some z=>some (.pv (.tuple [z,.bool false]))|none=>none
   |false=>none)
 |.pv .nilif=>match ok with
   |true=>match SI a with|some z=>some (.pv (.tuple [z,.bool false]))|none=>none
   |false=>none
 |_=>none
def Ip{c:TI}{t:Nat}{ok:Bool}{x y:V}(h:MX c t ok x=some y):Got (xS c t ok x) y:=by
 unfold MX at h;unfold xS;split at h
 ·rename_i d p;simp only
  cases e:Nat.beq d t with
  |true=>
   rw[e]at h;rw[if_pos (Nat.eq_of_beq_eq_true e)];cases ok<;>cases h<;>exact⟨_,rfl,trivial,rfl,rfl,rfl⟩
  |false=>
   rw[e]at h;have a:¬d=t:=λf=>by rw[iE f]at e;cases e
   rw[if_neg a]
   cases ok with
   |false=>cases h
   |true=>
    simp only at h;split at h
    ·rename_i z b;cases h;simp only[b];exact⟨_,rfl,trivial,rfl,rfl,rfl⟩
    cases h
 ·cases ok with
  |false=>cases h
  |true=>
   simp only at h;split at h
   ·rename_i z b;cases h;simp only[b];exact⟨_,rfl,trivial,rfl,rfl,rfl⟩
   cases h
 cases h
def Yd(x:V):Option V:=match x with|.pv (.ptr a)=>some (.pv (.ptr a))|.pv (.nptr a)=>some (.pv (.nptr a))|.loc n off=>some (.loc n off)|.eloc n v i o=>some (.eloc n v i o)|_=>none
def Zd(T:Nat->Option TI)(t f:Nat)(x:V):Option V:=match T t with
 |some ⟨.struct a _,_,_,_,_⟩=>match a[f]? with|some (off,size)=>bif Nat.beq size 0 then none else vK x off|none=>none
 |_=>none
def qe(T:Nat->Option TI)(t f:Nat)(x:V):Option V:=match T t with
 |some ⟨.struct a pl,_,_,_,_⟩=>bif pl.elem f then(match a[f]? with
  |some (off,_)=>(match x with
   |.pv (.agg a)=>(match a[off]? with|some c=>some (.pv c)|none=>none)|.agg a=>a[off]?|_=>none)
  |none=>none)else none
 |_=>none
def ro(x:Option V):Option RB:=match x with|some v=>some ⟨v,none,false⟩|none=>none
def jD(T:Nat->Option TI)(h:Nat)(val:Operand->V)(d:Nat->Option Ob)(j:Option Nat)(op:Op):Option RB:=match op with
 |.move x=>rb (val x)|.assign x=>rb (val x)|.pick c a b=>match val c with|.pv (.bool true)=>rb (val a)|.pv (.bool false)=>rb (val b)|_=>none
 |.alloc t=>AX T h t|.box _ x=>BX h (val x)|.build t parts=>ro (CX T t (parts.toList.map λp=>(p.1,val p.2)))|.makeFunc (.func f) first g=>match first.toList with
  |[]=>rb (.fn f (g.toList.map val))|a::l=>match g.toList with|[]=>rb (.bfn f ((a::l).map val))|_::_=>none
 |.buildSlice t len parts=>match T t with
  |some ⟨.slice e,_,_,_,_⟩=>match T e with
   |some l=>match jT 0 (parts.toList.map λp=>(p.1,val p.2))with|some g=>vT e l h len g|none=>none
   |none=>none
  |_=>none
 |.load t x=>match T t with|some g=>ro (eX g d (val x))|none=>none
 |.store t x y=>match j with
  |none=>match T t with|some g=>rM g d (val x) (val y)|none=>none
  |some _=>none
 |.nilCheck x=>ro (Yd (val x))|.binOp b t x y _=>match T t with|some g=>ro (aM g.k b (val x) (val y) y)|none=>none
 |.unOp .not _ x=>match val x with|.pv (.bool b)=>rb (bv (!b))|_=>none
 |.makeInterface t x=>match T t with
  |some g=>match val x with|.pv p=>bif g.k.isIface then none else rb (.pv (.iface t p))|_=>none
  |none=>none
 |.fieldAddr t x f=>ro (Zd T t f (val x))|.field t x f=>ro (qe T t f (val x))|.indexAddr t x i=>ro (zT T d t (val x) (val i))|.extract x i=>ro (Ud (val x) i)|.range t x=>match T t with|some ⟨.str,_,_,_,_⟩=>dT h (val x)|_=>none
 |.next x true=>JX d (val x)|.index t x i=>match T t with|some ⟨.str,_,_,_,_⟩=>ro (GX (val x) (val i))|_=>none
 |.convert s t x=>ro (match KX T s t (val x)with
  |some y=>some y|none=>LX T s t (val x))
 |.typeAssert x _ t ok=>match T t with|some g=>bif g.k.isIface then none else ro (MX g t ok (val x))|none=>none
 |.makeMap t none=>match T t with|some ⟨.smap _ _ s,_,_,_,_⟩=>some ⟨.map h,some (h,.smap s []),true⟩|_=>none
 |.mapUpdate t m k v=>match j with
  |none=>match T t with|some ⟨.smap _ _ s,_,_,_,_⟩=>yT s d (val m) (val k) (val v)|_=>none
  |some _=>none
 |.insert t m k v=>match j with
  |none=>match T t with|some ⟨.smap _ _ s,_,_,_,_⟩=>yT s d (val m) (val k) (val v)|_=>none
  |some _=>none
 |.lookup t m k ok=>match T t with
  |some ⟨.smap _ g s,_,_,_,_⟩=>match T g with
   |some g=>match SI g with|some z=>ro (EX s ok z d (val m) (val k))|none=>none
   |none=>none
  |_=>none
 |.slice t x g i j=>match T t with
  |some ⟨.slice e,_,_,_,_⟩=>match T e with|some l=>ro (iQ l d (val x) (g.map val) (i.map val) (j.map val))|none=>none
  |some ⟨.str,_,_,_,_⟩=>ro (IX (val x) (g.map val) (i.map val) (j.map val))|_=>none
 |.call {callee:=.builtin .len,args,argTypes}=>match argTypes.toList,args.toList with
  |[t],[x]=>match T t with|some ⟨.slice _,_,_,_,_⟩=>ro (iX d (val x))|some ⟨.str,_,_,_,_⟩=>ro (FX (val x))|_=>none
  |_,_=>none
 |.call {callee:=.builtin .append,args,argTypes}=>match argTypes.toList,args.toList with
  |[t,g],[x,y]=>bif Nat.beq t g then(match T t with
    |some ⟨.slice e,_,_,_,_⟩=>match T e with|some l=>sM e l d h (val x) (val y)|none=>none
    |_=>none)else none
  |_,_=>none
 |.call {callee:=.builtin .max,args,argTypes:=_}=>match args.toList with
  |[x,y]=>match val x,val y with|.pv (.int a),.pv (.int b)=>rb (.pv (.int (bif fA a b then b else a)))|_,_=>none
  |_=>none
 |_=>none
def rH{x:V}{r:RB}(h:rb x=some r){f:Prop}:PF (some ⟨True,f,x,none,false⟩) r:=by
 cases h;exact⟨_,rfl,trivial,rfl,rfl,rfl⟩
def uE{o:Option V}{r:RB}(h:ro o=some r):∃v,o=some v/\r=⟨v,none,false⟩:=by
 unfold ro at h
 grind
def zJ{x:V}{r:RB}(h:rb x=some r){a:Nat}:r.new=true->∃q,r.wr=some (a,q):=by
 cases h;simp
def Jp{T:Nat->Option TI}{t:Nat}{g:List (Nat×V)}{x:V}(h:CX T t g=some x):
  Got (match T t with
  |some ⟨.struct k _,_,_,_,d⟩=>(oG k (DA d) g).map (λf=>R.of (iG f))|some ⟨.array m e,_,_,_,d⟩=>match T e with|some l=>(oG (jK l.size m 0) (DA d) g).map (λf=>R.of (iG f))|none=>none
  |_=>none) x:=by
 unfold CX at h;split at h
 ·rename_i k pl a b c d i
  try simp only[i]
  split at h
  ·rename_i f j;cases h;rw[oX j,cX];exact⟨_,rfl,trivial,rfl,rfl,rfl⟩
  cases h
 ·rename_i m e a b c d i
  try simp only[i]
  split at h
  ·rename_i l n
   try simp only[n]
   split at h
   ·rename_i f j;cases h;rw[oX j,cX];exact⟨_,rfl,trivial,rfl,rfl,rfl⟩
   cases h
  cases h
 cases h
def je{T:Nat->Option TI}{A:Nat}{val:Operand->V}{L:Nat->Option Ob}{s:Option Nat}{op:Op}{r:RB}(h:jD T A val L s op=some r):
  ∃note,PF (mA T note val L s op) r/\(r.new=true->∃o,r.wr=some (A,o)):=by
 unfold jD at h;split at h
 ·refine⟨.none,?_,zJ h⟩;simp only[mA,wK];exact rH h
 ·refine⟨.none,?_,zJ h⟩;simp only[mA,wK];exact rH h
 ·rename_i c a b;have key:∀(I:Bool),val c=.pv (.bool I)->rb (bif I then val a else val b)=some r->PF (mA T .none val L s (.pick c a b)) r:=by
   intro I B j;simp only[mA,B];cases I<;>simp only[cond_true,cond_false]at j
   ·split
    ·rename_i C X Y;rw[Y]at j;cases C;exact rH j
    ·simp_all
    ·exact rH j
    simp_all
   split
   ·rename_i C X Y;rw[X]at j;cases C;exact rH j
   ·exact rH j
   ·simp_all
   simp_all
  split at h
  ·rename_i B;exact⟨.none,key true B h,zJ h⟩
  ·rename_i B;exact⟨.none,key false B h,zJ h⟩
  cases h
 ·rename_i t;unfold AX at h;split at h
  ·rename_i u i;cases h;refine⟨.box A,?_,λ_=>⟨_,rfl⟩⟩;simp only[mA,i];exact⟨_,rfl,trivial,rfl,rfl,rfl⟩
  cases h
 ·rename_i t x;unfold BX at h;split at h
  ·rename_i M D;obtain⟨n,h⟩:=jB h;cases h;refine⟨.box A,?_,λ_=>⟨_,rfl⟩⟩;simp only[mA,D];rw[if_pos (rQ n)];exact⟨_,rfl,trivial,rfl,rfl,rfl⟩
  cases h
 ·rename_i t parts;obtain⟨v,g,rfl⟩:=uE h;refine⟨.none,?_,by simp⟩;simp only[mA];exact(Jp g).r
 ·rename_i f first E
  split at h
  ·rename_i e;refine⟨.none,?_,zJ h⟩;have N:first.size=0:=by rw[<-Array.length_toList,e];rfl
   simp only[mA,N,if_true];exact rH h
  rename_i a l e;split at h
  ·rename_i O;refine⟨.none,?_,zJ h⟩;have N:¬first.size=0:=by rw[<-Array.length_toList,e];simp
   have C:E.size=0:=by rw[<-Array.length_toList,O];rfl
   simp only[mA,N,C,if_true,if_false,e];exact rH h
  cases h
 ·rename_i t len parts;split at h
  ·rename_i e a b c d i;split at h
   ·rename_i Z F;split at h
    ·rename_i es P;obtain⟨note,j,G⟩:=pp h;refine⟨note,?_,G⟩;simp only[mA,i,F,xX P];exact j
    cases h
   cases h
  cases h
 ·rename_i t x;split at h
  ·rename_i u i;obtain⟨v,g,rfl⟩:=uE h;refine⟨.none,?_,by simp⟩;simp only[mA,i];exact(bp g).r
  cases h
 ·rename_i t x y;split at h
  ·split at h
   ·rename_i u i;refine⟨.none,?_,?_⟩
    ·simp only[mA,i];exact Td h
    obtain⟨q,_,_,_,_,_⟩:=Td h;unfold rM at h;intro G;exfalso;revert G h;simp only[eQ]
    repeat' (first|split|(intro h;cases h)|simp only[cond] )
    all_goals (intro h;first|(cases h;done)|(cases h;simp))
   cases h
  cases h
 ·obtain⟨v,g,rfl⟩:=uE h;refine⟨.none,?_,by simp⟩;unfold Yd at g;simp only[mA];split at g<;>rename_i w<;>cases g<;>rw[w]<;>exact⟨_,rfl,trivial,rfl,rfl,rfl⟩
 ·split at h
  ·rename_i u i;obtain⟨v,g,rfl⟩:=uE h;refine⟨.none,?_,by simp⟩;simp only[mA,i];exact(Ap g).r
  cases h
 ·split at h
  ·rename_i b Q;refine⟨.none,?_,zJ h⟩;simp only[mA,Q,XB];exact rH h
  cases h
 ·split at h
  ·rename_i u i;split at h
   ·rename_i p P
    cases e:u.k.isIface with
    |true=>rw[e]at h;cases h
    |false=>
     rw[e]at h;refine⟨.none,?_,zJ h⟩;simp only[mA,i,P,e];exact rH h
   cases h
  cases h
 ·obtain⟨v,g,rfl⟩:=uE h;refine⟨.none,?_,by simp⟩;unfold Zd at g;simp only[mA];split at g
  ·rename_i fs pl a b c d i;split at g
   ·rename_i off size R
    cases e:Nat.beq size 0 with
    |true=>rw[e]at g;cases g
    |false=>
     rw[e]at g;simp only[cond_false]at g;have hs:¬size=0:=λO=>by rw[iE O]at e;cases e
     simp only[i,R,hs,if_false,g];exact⟨_,rfl,trivial,rfl,rfl,rfl⟩
   cases g
  cases g
 ·obtain⟨v,g,rfl⟩:=uE h;refine⟨.none,?_,by simp⟩;unfold qe at g;simp only[mA];split at g
  ·rename_i fs pl a b c d i
   cases e:pl.elem _ with
   |false=>rw[e]at g;cases g
   |true=>
    rw[e]at g;simp only[cond_true]at g;split at g
    ·rename_i off size R;simp only[i,R,e,cond_true];split at g
     ·split at g
      ·rename_i m _ c D;cases g;simp only[m,D,Option.map_some];exact⟨_,rfl,trivial,rfl,rfl,rfl⟩
      cases g
     ·rename_i M m;simp only[m,g,Option.map_some];exact⟨_,rfl,trivial,rfl,rfl,rfl⟩
     cases g
    cases g
  cases g
 ·obtain⟨v,g,rfl⟩:=uE h;refine⟨.none,?_,by simp⟩;simp only[mA];exact(dp g).r
 ·obtain⟨v,g,rfl⟩:=uE h;refine⟨.none,?_,by simp⟩;unfold Ud at g;simp only[mA];simp only[nH]at g;split at g
  ·rename_i M w;split at g
   ·rename_i c D;cases g;simp only[w,D];exact⟨_,rfl,trivial,rfl,rfl,rfl⟩
   cases g
  ·rename_i M w;simp only[w,g];exact⟨_,rfl,trivial,rfl,rfl,rfl⟩
  cases g
 ·rename_i t x;split at h
  ·rename_i a b c d i;refine⟨.siter A,?_,?_⟩
   ·simp only[mA,i];unfold dT at h;split at h
    ·rename_i l el;cases h;simp only[HW,el];exact⟨_,rfl,trivial,rfl,rfl,rfl⟩
    cases h
   intro _;unfold dT at h;split at h
   ·cases h;exact⟨_,rfl⟩
   cases h
  cases h
 ·obtain⟨n,H,_⟩:=Wd h;refine⟨.none,?_,by rw[H];simp⟩;simp only[mA];exact n
 ·split at h
  ·rename_i a b c d i;obtain⟨v,g,rfl⟩:=uE h;refine⟨.none,?_,by simp⟩;simp only[mA,i];exact(Dp g).r
  cases h
 ·obtain⟨v,g,rfl⟩:=uE h;refine⟨.none,?_,by simp⟩;simp only[mA];split at g
  ·rename_i S;cases g;exact(Fp S).r
  exact(Gp g).r
 ·split at h
  ·rename_i u i
   cases e:u.k.isIface with
   |true=>rw[e]at h;cases h
   |false=>
    rw[e]at h;obtain⟨v,g,rfl⟩:=uE h;refine⟨.none,?_,by simp⟩;simp only[mA,i,e];exact(Ip g).r
  cases h
 ·split at h
  ·rename_i U W J a b c d i;cases h;refine⟨.smap A J,?_,λ_=>⟨_,rfl⟩⟩;simp only[mA];exact⟨_,rfl,trivial,rfl,rfl,rfl⟩
  cases h
 ·split at h
  ·split at h
   ·rename_i U W J a b c d i;obtain⟨n,H,_⟩:=uT h;refine⟨.none,?_,by rw[H];simp⟩;simp only[mA,i];exact n
   cases h
  cases h
 ·split at h
  ·split at h
   ·rename_i U W J a b c d i;obtain⟨n,H,_⟩:=uT h;refine⟨.none,?_,by rw[H];simp⟩;simp only[mA,i];exact n
   cases h
  cases h
 ·split at h
  ·rename_i U W J a b c d i;split at h
   ·rename_i tv w;split at h
    ·rename_i z ez;obtain⟨v,g,rfl⟩:=uE h;refine⟨.none,?_,by simp⟩;simp only[mA,i,w,ez];exact(Bp g).r
    cases h
   cases h
  cases h
 ·split at h
  ·rename_i e a b c d i;split at h
   ·rename_i Z F;obtain⟨v,g,rfl⟩:=uE h;refine⟨.none,?_,by simp⟩;simp only[mA,i,F];exact(np g).r
   cases h
  ·rename_i a b c d i;obtain⟨v,g,rfl⟩:=uE h;refine⟨.none,?_,by simp⟩;simp only[mA,i];exact(Ep g).r
  cases h
 ·split at h
  ·rename_i t x i m;split at h
   ·rename_i e a b c d k;obtain⟨v,g,rfl⟩:=uE h;refine⟨.none,?_,by simp⟩;simp only[mA,i,m,k];exact(fp g).r
   ·rename_i a b c d k;obtain⟨v,g,rfl⟩:=uE h;refine⟨.none,?_,by simp⟩;simp only[mA,i,m,k];exact(Cp g).r
   cases h
  cases h
 ·split at h
  ·rename_i t t' x y i m;have n:=(jB h).1;replace h:=(jB h).2;have ht:=Nat.eq_of_beq_eq_true n;subst ht;split at h
   ·rename_i e a b c d k;split at h
    ·rename_i Z F;obtain⟨note,j,G⟩:=lp (xo:=x) h;refine⟨note,?_,G⟩;simp only[mA,i,m,k,F,if_true];exact j
    cases h
   cases h
  cases h
 ·split at h
  ·rename_i x y m;split at h
   ·rename_i a b ea Q;refine⟨.none,?_,zJ h⟩;simp only[mA,m,ea,Q];have:(if b>a then b else a)=bif fA a b then b else a:=by
     rw[UB];by_cases K:a<b
     ·rw[if_pos (show b>a from K),decide_eq_true K];rfl
     rw[if_neg (show¬b>a from K),decide_eq_false K];rfl
    rw[this];exact rH h
   cases h
  cases h
 cases h
structure IS where
 sl:Tr V
 ob:Tr Ob
 nx:Nat
 dt:List Nat
inductive AE where|normal|exit (i:Nat)|ret
structure GB where
 x:V
 ch:List (Nat×Ob)
 nw:List (Nat×Ob)
 nx:Nat
structure Tc where
 wn:List Nat
 rd:List Nat
structure MA where
 T:Nat->Option TI
 gl:Nat->Option (List PV)
 F:Nat->Option Func
 intr:Nat->List V->Option V
def IS.val(a:Nat->Option (List PV))(s:IS):Operand->V
 |.tmp t=>match s.sl.get t with|some v=>v|none=>.undef
 |.const v=>ON v|.func f=>.fn f []|.global g=>match a g with|some a=>.pv (.ptr a)|none=>.undef
def gD(t:Tr V)(a:Option Nat)(x:V):Tr V:=match a with|none=>t|some d=>t.put d (some x)
def rK(a n:Nat)(l:List Nat):List Nat:=bif Nat.blt n a then n::l else l
def IS.app(b:Nat)(s:IS)(a:Option Nat)(r:RB):IS:=match r.wr with|none=>⟨gD s.sl a r.x,s.ob,s.nx,s.dt⟩|some (n,o)=>bif r.new then⟨gD s.sl a r.x,s.ob.put n (some o),Nat.succ s.nx,s.dt⟩else⟨gD s.sl a r.x,s.ob.put n (some o),s.nx,rK b n s.dt⟩
def Mp:V->List Nat|.arr n _ _=>[n]|_=>[]
def fT:V->List Nat|.arr n _ _=>[n]|.agg a=>a.flatMap Mp|_=>[]
def jJ(a:Nat)(s:IS)(n:Nat):IS:=bif Nat.blt n a then s else(match s.ob.get n with
 |some (.arr a _ _ b)=>match KF b with|some b=>⟨s.sl.map (RC n a b),(s.ob.put n none).map (UD n a b),s.nx,s.dt⟩|none=>s
 |_=>s)
def uO(a:Nat):List Nat->IS->IS|[],s=>s|n::r,s=>uO a r (jJ a s n)
def bO(a:Nat):List Nat->IS->IS
 |[],s=>s|t::r,s=>bO a r (match s.sl.get t with
  |some v=>uO a (fT v) s|none=>s)
def fO:List Operand->List Nat|[]=>[]|.tmp t::r=>t::fO r|_::r=>fO r
def Np:Op->List Nat|.call {callee:=.value _,args,..}=>fO args.toList|.call {callee:=.builtin .append,args,..}=>fO (args.toList.drop 1)|.buildSlice _ _ a=>fO (a.toList.map (·.2))|.makeInterface _ x=>fO [x]|_=>[]
def YH:List Oper->List Nat|[]=>[]|o::r=>Np o.op++YH r
def reach(a:Nat)(b:Tr Ob):Nat->List Nat->Tr Ob->List Nat->Option (Tr Ob×List Nat)
 |0,_,_,_=>none|_+1,[],sub,l=>some (sub,l)|f+1,n::r,sub,l=>bif Nat.blt n a then(match sub.get n with
  |some _=>reach a b f r sub l|none=>match b.get n with|none=>reach a b f r sub l|some o=>reach a b f (o.names++r) (sub.put n (some o)) (n::l))else none
def sK(a b:Nat)(sub c:Tr Ob):Nat->List Nat->Tr Ob->List (Nat×Ob)->Option (List (Nat×Ob))
 |0,_,_,_=>none|_+1,[],_,l=>some l|f+1,n::r,seen,l=>bif Nat.blt n a then(match sub.get n with
   |some _=>sK a b sub c f r seen l|none=>none)else match seen.get n with
  |some _=>sK a b sub c f r seen l|none=>match c.get n with|none=>none|some o=>bif Nat.blt n b then sK a b sub c f (o.names++r) (seen.put n (some o)) ((n,o)::l)else none
def cM:List Nat->Tr Ob->List Nat
 |[],_=>[]|n::r,seen=>match seen.get n with|some _=>cM r seen|none=>n::cM r (seen.put n (some (.box [])))
def gT(a:Tr Ob):List Nat->Option (List (Nat×Ob))
 |[]=>some []|n::r=>match a.get n with
  |some o=>match gT a r with|some l=>some ((n,o)::l)|none=>none
  |none=>none
def mT:List (Nat×Ob)->List Nat|[]=>[]|(_,o)::r=>o.names++mT r
def eM(T:Nat->Option TI)(s:IS):ResultVar->Option V
 |.tmp t=>some (match s.sl.get t with|some v=>v|none=>.undef)|.cell a t=>match T t,s.sl.get a with
  |some b,some (.loc n off)=>match s.ob.get n with|some (.box c)=>OH b.isAgg b.size (c.drop off)|_=>none
  |_,_=>none
def iM(T:Nat->Option TI)(s:IS):List ResultVar->Option (List V)
 |[]=>some []|r::a=>match eM T s r,iM T s a with|some x,some a=>some (x::a)|_,_=>none
def nT(a:Nat):List Nat->List Nat|[]=>[]|n::r=>bif Nat.blt n a then nT a r else n::nT a r
def tK(T:Nat->Option TI)(a:Nat):List ResultVar->IS->IS
 |[],s=>s|r::b,s=>tK T a b (match eM T s r with
  |some v=>uO a (nT a (fT v)) s|none=>s)
def aK(T:Nat->Option TI)(c:Nat)(sub:Tr Ob)(a:List ResultVar)(s:IS):Option GB:=match iM T s a with
 |some a=>match gT s.ob (cM s.dt .nil)with
  |some b=>match sK c s.nx sub s.ob 1000000 ((ZN a).names++mT b) .nil []with|some c=>some ⟨ZN a,b,c,s.nx⟩|none=>none
  |none=>none
 |none=>none
def gO(T:Nat->Option TI)(a:Nat)(sub:Tr Ob)(b:List ResultVar):AE->IS->Option GB|.exit _,_=>none|_,s=>aK T a sub b (tK T a b s)
def cK(a:Nat):List (Nat×Ob)->List Nat->List Nat|[],l=>l|(n,_)::r,l=>cK a r (rK a n l)
def RF:List (Nat×Ob)->Tr Ob->Tr Ob|[],t=>t|(n,o)::r,t=>RF r (t.put n (some o))
def VD:Nat->List V->Tr V->Tr V|_,[],t=>t|k,x::a,t=>VD (Nat.succ k) a (t.put k (some x))
abbrev AQ:=Nat->Nat->Code->IS->(AE->IS->Option GB)->Option GB
abbrev Call:=Nat->List V->IS->Option (GB×List Nat)
def lO(b:MA)(run:AQ)(fn:Func)(c:Code)(args:List V)(a:Nat)(sub:Tr Ob):Option GB:=
 run fn.ntmps a c ⟨VD 0 args .nil,sub,a,[]⟩ (gO b.T a sub fn.results.toList)
def pT(b:Nat)(s:IS)(a:Option Nat)(r:GB):IS:=⟨gD s.sl a r.x,RF r.nw (RF r.ch s.ob),r.nx,cK b r.ch s.dt⟩
def mO:V:=.pv (.tuple [])
def BQ(a:Nat):Option Nat->Bool|some d=>Nat.blt d a|none=>true
def callR(b:Nat)(s:IS)(a:Option Nat):Option (GB×List Nat)->Option (IS×Tc)|some (r,c)=>some (pT b s a r,⟨r.ch.map (·.1)++r.nw.map (·.1),c⟩)|none=>none
def xM(a:MA)(call:Call)(b:Nat)(o:Oper)(s:IS):Option (IS×Tc):=match JC (s.val a.gl) o.op with
 |some (f,args)=>callR b s o.dst (call f args s)|none=>match jD a.T s.nx (s.val a.gl) s.ob.get o.dst o.op with|some r=>some (s.app b o.dst r,⟨match r.wr with|some (n,_)=>[n]|none=>[],aE (s.val a.gl) o.op⟩)|none=>none
def NX(all:List Oper)(s:IS)(j:Nat):V:=match all[j]? with
 |some o=>match o.dst with
  |some d=>match s.sl.get d with|some v=>v|none=>.undef
  |none=>.undef
 |none=>.undef
def OX(a:Array Oper)(c b:Oper):Bool:=
 (match c.dst with|some d=>(b.looksAt a).contains d||b.dst==some d|none=>false)||
 (match b.dst with|some d=>(c.looksAt a).contains d|none=>false)
def rT(a:List Oper):Bool:=
 (List.range a.length).all λj=>match a[j]? with
  |some b=>(BG b).all (λi=>decide (i<j))&&(List.range j).all λi=>match a[i]? with|some c=> !OX a.toArray c b||((cE a []).getD j 0).testBit i|none=>false
  |none=>false
def CQ(a b:Tc):Bool:=a.wn.all (λn=> !zD b.rd n&& !zD b.wn n)&&b.wn.all (λn=> !zD a.rd n)
def eK:List Tc->Bool
 |[]=>true|t::r=>match t.wn with|[]=>eK r|_::_=>false
def nO(c:List Oper)(d:List Tc):Bool:=
 (List.range c.length).all λj=>match d[j]? with
  |some b=>(List.range j).all λi=>match d[i]? with|some a=>CQ a b||((cE c []).getD j 0).testBit i|none=>false
  |none=>false
def iK(a:Nat)(l:List Nat)(s:IS):IS:=bif Nat.beq s.nx a then s else bO a l s
def QX:∀{b:List V}{a:List PV},kE b=some a->b=DA a
 |[],a,h=>by cases h;rfl
 |c::b,a,h=>by
  unfold kE at h;split at h
  ·rename_i p f e d;cases h;have:=QX d;subst this;cases c<;>simp only[V.un]at e<;>cases e;rfl
  cases h
def we:∀{b:List (List V)}{a:List (List PV)},KF b=some a->b=kA a
 |[],a,h=>by cases h;rfl
 |e::b,a,h=>by
  unfold KF at h;split at h
  ·rename_i p d f c;cases h;have g:=we c;have i:=QX f;subst g i;rfl
  cases h
structure Rel(s:IS)(σ:St):Prop where
 sl:∀t,IA σ.slots t=(match s.sl.get t with|some v=>v|none=>.undef)
 ob:∀n,zA σ.objs n=s.ob.get n
 us:∀n∈σ.used,n<s.nx
structure Inv(bs:Nat)(sub:Tr Ob)(s:IS):Prop where
 le:bs<=s.nx
 same:∀n,n<bs->n∉s.dt->s.ob.get n=sub.get n
 old:∀n,n<bs->(s.ob.get n).isSome=true->(sub.get n).isSome=true
 names:∀n o,sub.get n=some o->n<bs/\∀k∈o.names,k<bs
 dts:∀n∈s.dt,n<bs
theorem Rel.val{s:IS}{σ:St}(h:Rel s σ)(a:Nat->Option (List PV)):σ.val a=s.val a:=by
 funext x
 cases x with|tmp t=>exact h.sl t|const v=>rfl|func f=>rfl|global g=>rfl
def Rel.obf{s:IS}{σ:St}(h:Rel s σ):zA σ.objs=s.ob.get:=funext h.ob
def Wk(σ σ':St):Prop:=∀C E a w,Ga C E σ a w->∃b,Ga C b σ' a w
theorem Wk.refl(σ:St):Wk σ σ:=λ_ E _ _ h=>⟨E,h⟩
def Wk.trans{a b c:St}(h:Wk a b)(d:Wk b c):Wk a c:=λC E x w e=>by
 obtain⟨f,g⟩:=h C E x w e;exact d C f x w g
def AWP.wk{X:Env1}{c:Code}{σ σ':St}{Q:EB->St->Prop}(b:Wk σ σ')(h:AWP X c σ' Q):AWP X c σ Q:=by
 intro C E a w d e;obtain⟨f,g⟩:=b C E a w e;exact h C f a w d g
def AWP.post{X:Env1}{c:Code}{σ:St}{Q k:EB->St->Prop}(h:AWP X c σ Q)(l:∀b σ',Q b σ'->(∃σ'',Wk σ' σ''/\k b σ'')/\∀p,b≠.panic p):AWP X c σ k:=by
 intro C E a w m n;refine wp_mono (h C E a w m n) ?_
 rintro e o r ⟨s,σ',b,f,t,g⟩
 obtain⟨⟨σ'',u,i⟩,v⟩:=l b σ' g;obtain⟨j,d⟩:=u C s o r f;refine⟨j,σ'',b,d,?_,i⟩
 cases b with|panic p=>simp_all|_=>exact t
def Pp{n a:Nat}{b:List (List PV)}:∀{x:V},n∉x.names->yE n a b x=x:=by
 intro x h;cases x<;>simp only[yE]
 grind[V.names]
def ye{n b:Nat}{d:List (List PV)}:∀{a:List V},n∉CA a->JE n b d a=a
 |[],_=>rfl|c::a,h=>by
  simp only[CA,List.mem_append,not_or]at h;simp only[JE];rw[Pp h.1,ye h.2]
def Rp{n a:Nat}{b:List (List PV)}{o:Ob}(h:n∉o.names):UD n a b o=o:=by
 cases o with|box c=>simp only[UD];rw[ye h]|_=>rfl
theorem RX{c:Nat}{sub:Tr Ob}{s:IS}(a:Inv c sub s)(n:Nat):Inv c sub (jJ c s n):=by
 unfold jJ
 cases e:Nat.blt n c with
 |true=>exact a|false=>
  simp only[cond_false];rw[qJ]at e;have h:¬n<c:=of_decide_eq_false e;split
  ·rename_i d p r t u;split
   ·rename_i g i;have b:∀m,((s.ob.put n none).map (UD n d g)).get m=if m=n then none else(s.ob.get m).map (UD n d g):=by
     intro m;rw[Tr.get_map,Tr.get_put];split<;>rfl
    refine⟨a.le,?_,?_,a.names,a.dts⟩
    ·intro m f j;rw[b m,if_neg (by omega),a.same m f j]
     cases q:sub.get m with
     |none=>rfl|some o=>
      simp only[Option.map_some];rw[Rp];intro k;exact h ((a.names m o q).2 n k)
    intro m f l;rw[b m,if_neg (by omega)]at l;exact a.old m f (by simp_all)
   exact a
  exact a
theorem ue{a:Nat}{sub:Tr Ob}:∀(l:List Nat){s:IS},Inv a sub s->Inv a sub (uO a l s)
 :=by intro x;induction x<;>grind[RX,uO]
theorem Sp{a:Nat}{sub:Tr Ob}:∀(l:List Nat){s:IS},Inv a sub s->Inv a sub (bO a l s)
 :=by intro x;induction x<;>grind[bO,ue]
def TX{T:Nat->Option TI}{bs:Nat}{sub:Tr Ob}:∀(l:List ResultVar){s:IS},Inv bs sub s->Inv bs sub (tK T bs l s)
 :=by intro x;induction x<;>grind[tK,ue]
def UX{bs:Nat}{s:IS}{σ:St}(b:Rel s σ)(n:Nat):∃σ',Wk σ σ'/\Rel (jJ bs s n) σ':=by
 have d:∃σ',Wk σ σ'/\Rel s σ':=⟨σ,Wk.refl σ,b⟩;unfold jJ
 cases e:Nat.blt n bs with
 |true=>exact d|false=>
  simp only[cond_false];split
  ·rename_i c j k p l;split
   ·rename_i i f;have g:=we f;subst g;have h:zA σ.objs n=some (.arr c j k (kA i)):=(b.ob n).trans l;refine⟨σ.frz n c i,λC E a w o=>o.frz h,⟨?_,?_,b.us⟩⟩
    ·intro t;simp only[St.frz,lX,b.sl,Tr.get_map];cases s.sl.get t<;>rfl
    intro m;simp only[St.frz,zO,b.ob,Tr.get_map,Tr.get_put];split<;>rfl
   omega
  omega
def VX{bs:Nat}:∀(l:List Nat){s:IS}{σ:St},Rel s σ->∃σ',Wk σ σ'/\Rel (uO bs l s) σ'
 |[],s,σ,a=>⟨σ,Wk.refl σ,a⟩|n::r,s,σ,a=>by
  obtain⟨σ1,b,c⟩:=UX (bs:=bs) a n;obtain⟨σ2,d,e⟩:=VX r c;exact⟨σ2,b.trans d,e⟩
def WX{bs:Nat}:∀(l:List Nat){s:IS}{σ:St},Rel s σ->∃σ',Wk σ σ'/\Rel (bO bs l s) σ'
 |[],s,σ,a=>⟨σ,Wk.refl σ,a⟩|t::r,s,σ,a=>by
  unfold bO;split
  ·rename_i v f;obtain⟨σ1,b,c⟩:=VX (bs:=bs) (fT v) a;obtain⟨σ2,d,e⟩:=WX r c;exact⟨σ2,b.trans d,e⟩
  exact WX r a
def XX{T:Nat->Option TI}{bs:Nat}:∀(l:List ResultVar){s:IS}{σ:St},Rel s σ->∃σ',Wk σ σ'/\Rel (tK T bs l s) σ'
 |[],s,σ,a=>⟨σ,Wk.refl σ,a⟩|t::r,s,σ,a=>by
  unfold tK;split
  ·rename_i v f;obtain⟨σ1,b,c⟩:=VX (bs:=bs) (nT bs (fT v)) a;obtain⟨σ2,d,e⟩:=XX r c;exact⟨σ2,b.trans d,e⟩
  exact XX r a
structure YX(nx:Nat)(ob:Tr Ob)(todo:List Nat)(sub:Tr Ob)(l:List Nat):Prop where
 get:∀n o,sub.get n=some o->ob.get n=some o/\n<nx/\n∈l/\∀k∈o.names,k<nx\/k∈todo
 mem:∀n∈l,(sub.get n).isSome=true
def sT{s:Nat}{t:Tr Ob}:∀(f:Nat)(g:List Nat)(sub:Tr Ob)(l:List Nat){i:Tr Ob}{u:List Nat},reach s t f g sub l=some (i,u)->YX s t g sub l->YX s t [] i u/\∀k∈g,k<s
 |0,_,_,_,_,_,h,_=>by cases h
 |f+1,[],sub,l,_,_,h,p=>by cases h;simp_all
 |f+1,n::r,sub,l,i,u,h,p=>by
  obtain⟨y,h⟩:=jB h;have B:=QF y;have e:YX s t r sub l:=⟨λm o j=>⟨(p.get m o j).1,(p.get m o j).2.1,(p.get m o j).2.2.1,λk z=>by
   rcases(p.get m o j).2.2.2 k z with A|A
   ·omega
   grind⟩,p.mem⟩
  split at h
  ·obtain⟨v,w⟩:=sT f r sub l h e;simp_all
  split at h
  ·obtain⟨v,w⟩:=sT f r sub l h e;simp_all
  rename_i C o D;obtain⟨v,w⟩:=sT f (o.names++r) (sub.put n (some o)) (n::l) h (by
   refine⟨λm q j=>?_,λm j=>?_⟩
   ·rw[Tr.get_put]at j;split at j
    ·simp_all
    obtain⟨a,b,c,d⟩:=e.get m q j
    grind
   rw[Tr.get_put];split
   ·rfl
   rcases List.mem_cons.1 j with x|x
   ·omega
   exact p.mem m x)
  simp_all
structure ZX(bs nx:Nat)(sub ob:Tr Ob)(todo:List Nat)(seen:Tr Ob)(l:List (Nat×Ob)):Prop where
 ent:∀n o,(n,o)∈l->bs<=n/\n<nx/\ob.get n=some o/\∀k∈o.names,(sub.get k).isSome=true\/k∈jA l\/k∈todo
 seen:∀n,(seen.get n).isSome=true->n∈jA l
def qY{x A:Nat}{sub B:Tr Ob}:∀(f:Nat)(p:List Nat)(seen:Tr Ob)(l:List (Nat×Ob)){w:List (Nat×Ob)},sK x A sub B f p seen l=some w->ZX x A sub B p seen l->
  (∃i,ZX x A sub B [] i w)/\(∀k∈p,(sub.get k).isSome=true\/k∈jA w)/\∀k∈jA l,k∈jA w
 |0,_,_,_,_,h,_=>by cases h
 |f+1,[],seen,l,_,h,t=>by cases h;exact⟨⟨seen,t⟩,by simp,λk g=>g⟩
 |f+1,n::r,seen,l,w,h,t=>by
  unfold sK at h;have s:((sub.get n).isSome=true\/n∈jA l)->sK x A sub B f r seen l=some w->(∃i,ZX x A sub B [] i w)/\(∀k∈n::r,(sub.get k).isSome=true\/k∈jA w)/\∀k∈jA l,k∈jA w:=by
   intro j h;obtain⟨E,F,D⟩:=qY f r seen l h ⟨λm o u=>⟨(t.ent m o u).1,(t.ent m o u).2.1,(t.ent m o u).2.2.1,λk g=>by
    rcases(t.ent m o u).2.2.2 k g with v|v|v
    ·exact .inl v
    ·exact .inr (.inl v)
    rcases List.mem_cons.1 v with rfl|v
    ·rcases j with j|j
     ·exact .inl j
     exact .inr (.inl j)
    exact .inr (.inr v)⟩,t.seen⟩
   refine⟨E,λk g=>?_,D⟩;rcases List.mem_cons.1 g with rfl|g
   ·rcases j with j|j
    ·exact .inl j
    exact .inr (D _ j)
   exact F k g
  cases e:Nat.blt n x with
  |true=>
   rw[e]at h;simp only[cond_true]at h;split at h
   ·rename_i o C;exact s (.inl (by rw[C];rfl)) h
   cases h
  |false=>
   rw[e]at h;simp only[cond_false]at h;rw[qJ]at e;have G:¬n<x:=of_decide_eq_false e;split at h
   ·rename_i o C;exact s (.inr (t.seen n (by rw[C];rfl))) h
   split at h
   ·cases h
   rename_i H o C;obtain⟨E,h⟩:=jB h;have j:=QF E;obtain⟨F,D,v⟩:=qY f (o.names++r) (seen.put n (some o)) ((n,o)::l) h (by
    refine⟨λm q u=>?_,λm u=>?_⟩
    ·rcases List.mem_cons.1 u with z|z
     ·cases z;exact⟨by omega,j,C,λk g=>.inr (.inr (by simp[g]))⟩
     obtain⟨a,b,c,d⟩:=t.ent m q z;refine⟨a,b,c,λk g=>?_⟩;rcases d k g with y|y|y
     ·exact .inl y
     ·exact .inr (.inl (by simp only[jA,List.map_cons,List.mem_cons];exact .inr y))
     rcases List.mem_cons.1 y with rfl|y
     ·exact .inr (.inl (by simp[jA]))
     exact .inr (.inr (by simp[y]))
    rw[Tr.get_put]at u;simp only[jA,List.map_cons,List.mem_cons];by_cases z:m=n
    ·exact .inl z
    rw[if_neg z]at u;exact .inr (t.seen m u))
   refine⟨F,λk g=>?_,λk g=>v k (by simp only[jA,List.map_cons,List.mem_cons];exact .inr g)⟩;rcases List.mem_cons.1 g with rfl|g
   ·exact .inr (v _ (by simp[jA]))
   exact D k (by simp[g])
def AM:∀{l u:List Nat},(∀n∈l,n∈u)->eE l u
 :=by intro x;induction x<;>simp_all[trivial,eE]
def BM:∀{l u:List (Nat×Ob)},(∀p∈l,zA u p.1=some p.2)->rB l u
 :=by intro x;induction x<;>simp_all[trivial,zA,rB]<;>grind
def mem_mentO{l:List (Nat×Ob)}{n:Nat}:n∈FC l↔∃p∈l,n∈p.2.names:=by
 induction l with|nil=>simp[FC]|cons p r a=>grind[FC]
def mem_namesOb{l:List (Nat×Ob)}{n:Nat}:n∈gC l↔n∈jA l\/n∈FC l:=by
 induction l with
 |nil=>simp[gC,jA,FC]|cons p r a=>
  obtain⟨k,o⟩:=p;have:jA ((k,o)::r)=k::jA r:=rfl
  grind[gC,FC]
theorem NE(a b:List (Nat×Ob)):jA (a++b)=jA a++jA b:=by simp[jA]
def keysO_mem{l:List (Nat×Ob)}{n:Nat}:n∈jA l↔∃o,(n,o)∈l:=by
 simp only[jA,List.mem_map];constructor
 ·rintro⟨⟨k,o⟩,h,rfl⟩;exact⟨o,h⟩
 rintro⟨o,h⟩;exact⟨(n,o),h,rfl⟩
theorem vJ{l:List (Nat×Ob)}{n:Nat}{o:Ob}(h:zA l n=some o):(n,o)∈l:=by
 induction l with
 |nil=>cases h
 |cons p r a=>
  grind[zA,List.mem_cons_of_mem]
def be{l:List (Nat×Ob)}{n:Nat}(h:n∉jA l):zA l n=none:=by
 cases e:zA l n with|none=>rfl|some o=>exact absurd (fC e) h
def de{l:List (Nat×Ob)}{G:Nat->Option Ob}(h:∀n o,(n,o)∈l->G n=some o)(n:Nat):(n∈jA l->zA l n=G n):=by
 grind[dH,vJ]
def pick(sub:Tr Ob)(l:List Nat):List (Nat×Ob):=l.filterMap λn=>(sub.get n).map λo=>(n,o)
def mem_pick{sub:Tr Ob}{l:List Nat}{n:Nat}{o:Ob}:(n,o)∈pick sub l↔n∈l/\sub.get n=some o:=by
 simp only[pick,List.mem_filterMap,Option.map_eq_some_iff,Prod.mk.injEq];constructor
 ·rintro⟨m,a,q,b,rfl,rfl⟩;exact⟨a,b⟩
 rintro⟨a,b⟩;exact⟨n,a,o,b,rfl,rfl⟩
def zY:∀(l:List Nat)(seen:Tr Ob)(n:Nat),n∈l->(seen.get n).isSome=true\/n∈cM l seen
 |[],_,_,h=>by cases h
 |m::r,seen,n,h=>by
  unfold cM;rcases List.mem_cons.1 h with rfl|h
  ·grind
  cases e:seen.get m with
  |some o=>exact zY r seen n h|none=>
   rcases zY r (seen.put m (some (.box []))) n h with a|a
   ·rw[Tr.get_put]at a
    grind
   simp_all
def jY:∀(l:List Nat)(seen:Tr Ob)(n:Nat),n∈cM l seen->n∈l
 |[],_,_,h=>by cases h
 |m::r,seen,n,h=>by
  unfold cM at h;split at h
  ·exact List.mem_cons_of_mem _ (jY r seen n h)
  rcases List.mem_cons.1 h with rfl|h
  ·simp
  exact List.mem_cons_of_mem _ (jY r _ n h)
def me{c:Tr Ob}:∀{l:List Nat}{a:List (Nat×Ob)},gT c l=some a->jA a=l/\∀n o,(n,o)∈a->c.get n=some o
 |[],a,h=>by cases h;exact⟨rfl,by simp⟩
 |m::r,a,h=>by
  unfold gT at h;split at h
  ·rename_i o f;split at h
   ·rename_i l g;cases h;obtain⟨d,i⟩:=me g;refine⟨by simp[jA]at d⊢;exact d,λn q b=>?_⟩;rcases List.mem_cons.1 b with e|b
    ·cases e;exact f
    exact i n q b
   cases h
  cases h
def mem_chNames{l:List (Nat×Ob)}{n:Nat}:n∈mT l↔n∈FC l:=by
 induction l with|nil=>rfl|cons p r a=>grind[mT,FC]
def AE.x:AE->EB|.normal=>.normal|.exit i=>.exit i|.ret=>.ret
def KQ(k:AE->IS->Option GB)(r:GB)(b:Nat)(sub:Tr Ob):EB->St->Prop:=λc σ'=>∃e a,c=AE.x e/\Rel a σ'/\Inv b sub a/\k e a=some r
structure Good(ev:MA)(P:Program)(run:AQ):Prop where
 syn:∀(nt bs:Nat)(c:Code)(s:IS)(k:AE->IS->Option GB)(r:GB),run nt bs c s k=some r->∀(sub:Tr Ob),Inv bs sub s->∃e s',Inv bs sub s'/\k e s'=some r
 awp:∀(nt bs:Nat)(c:Code)(s:IS)(k:AE->IS->Option GB)(r:GB),run nt bs c s k=some r->
  ∀(X:Env1),X.P=P->X.T=ev.T->X.gl=ev.gl->X.nt=nt->(∀n∈X.given,n<bs)->∀(sub:Tr Ob)(σ:St),Rel s σ->Inv bs sub s->AWP X c σ (KQ k r bs sub)
structure SF(ev:MA)(P:Program):Prop where
 T:BB P ev.T
 F:∀f fn,ev.F f=some fn->P.funcs[f]? =some fn/\(fn.name== "runtime.NumGoroutine")=false
 intr:∀f args x,ev.intr f args=some x->AC P ev.gl f args [] (.ret x) []
 mix:P.follows .mixedOrders=true
def Tp{X:Env1}{T:Nat->Option TI}(c:X.T=T){s:IS}{σ:St}(b:Rel s σ)(v:ResultVar):eM T s v=gH X σ v:=by
 cases v with
 |tmp t=>simp only[eM,gH,b.sl]<;>rfl|cell a t=>
  simp only[eM,gH,b.sl,c]
  cases s.sl.get a with
  |none=>cases T t<;>rfl
  |some v=>
   cases T t with
   |none=>rfl|some d=>
    cases v<;>try rfl
    simp only[b.ob]<;>rfl
def vY{X:Env1}{T:Nat->Option TI}(a:X.T=T){s:IS}{σ:St}(b:Rel s σ):∀(l:List ResultVar),iM T s l=lH X σ l
 |[]=>rfl|r::c=>by
  simp only[iM,lH];rw[Tp a b,vY a b c];cases gH X σ r<;>cases lH X σ c<;>rfl
def wY:∀(a:List V)(k:Nat)(t:Tr V)(i:Nat),(VD k a t).get i=if k<=i/\i<k+a.length then a[i-k]? else t.get i
 |[],k,t,i=>by
  grind[VD]
 |x::a,k,t,i=>by
  simp only[VD];rw[wY a (k+1)];rw[Tr.get_put]
  grind
structure Called(P:Program)(gl:Nat->Option (List PV))(s:IS)(f:Nat)(args:List V)(r:GB)(ks:List Nat)(ro o1:List (Nat×Ob)):Prop where
 ac:AC P gl f args (ro++o1) (.ret r.x) (ro++(r.ch++r.nw))
 apart:∀n∈jA ro,n∉jA o1/\n∉jA (r.ch++r.nw)
 subs:∀p∈ro++o1,s.ob.get p.1=some p.2
 kss:∀n∈jA ro++jA o1,n∈ks
 inch:∀n∈jA o1,n∈jA r.ch
 gfn:∃G:Nat->Option Ob,∀n o,(n,o)∈r.ch++r.nw->G n=some o
 chs:∀n∈jA r.ch,n<s.nx/\(s.ob.get n).isSome=true/\n∈jA o1
 nws:∀n∈jA r.nw,s.nx<=n/\n<r.nx
 le:s.nx<=r.nx
 all:∀n∈ks,n∈jA (ro++o1)
def tT{x:MA}{P:Program}{run:AQ}(hg:Good x P run)(he:SF x P){f:Nat}{fn:Func}{c:Code}(hf:x.F f=some fn)(hb:fn.body=some c){args:List V}(hal:args.length<=fn.ntmps){s:IS}{sub:Tr Ob}{R:List Nat}
  (hrc:reach s.nx s.ob 1000000 (CA args) .nil []=some (sub,R)) {r:GB} (hr:lO x run fn c args s.nx sub=some r):∃ro m,Called P x.gl s f args r R ro m:=by
 obtain⟨A,L⟩:=sT _ _ _ _ hrc ⟨λn o h=>(by cases h),(by simp)⟩;obtain⟨hPf,M⟩:=he.F f fn hf
 --G S that are given
 have B:∀n,n∈jA (pick sub (R.filter λn=> !zD (jA r.ch) n))↔(sub.get n).isSome=true/\n∉jA r.ch:=by
  intro n;rw[keysO_mem];constructor
  ·rintro⟨o,h⟩
   obtain⟨g,u⟩:=mem_pick.1 h;refine⟨by rw[u];rfl,λhc=>?_⟩;rw[List.mem_filter,(pH _ _).2 hc]at g;simp at g
  rintro⟨g,u⟩
  obtain⟨o,y⟩:=Option.isSome_iff_exists.1 g;refine⟨o,mem_pick.2 ⟨List.mem_filter.2 ⟨(A.get n o y).2.2.1,?_⟩,y⟩⟩
  cases e:zD (jA r.ch) n with|false=>rfl|true=>grind[absurd,pH]
 have v:∀n,n∈jA (pick sub (R.filter λn=>zD (jA r.ch) n))↔(sub.get n).isSome=true/\n∈jA r.ch:=by
  intro n;rw[keysO_mem];constructor
  ·rintro⟨o,h⟩
   obtain⟨g,u⟩:=mem_pick.1 h;exact⟨by rw[u];rfl,(pH _ _).1 (List.mem_filter.1 g).2⟩
  rintro⟨g,u⟩
  obtain⟨o,y⟩:=Option.isSome_iff_exists.1 g;exact⟨o,mem_pick.2 ⟨List.mem_filter.2 ⟨(A.get n o y).2.2.1,(pH _ _).2 u⟩,y⟩⟩
 generalize hro:pick sub (R.filter λn=> !zD (jA r.ch) n)=ro at B;generalize ho1:pick sub (R.filter λn=>zD (jA r.ch) n)=m at v;have C:∀n o,(n,o)∈ro++m->sub.get n=some o:=by
  intro n o h;rcases List.mem_append.1 h with h|h
  ·rw[<-hro]at h;exact(mem_pick.1 h).2
  rw[<-ho1]at h;exact(mem_pick.1 h).2
 have z:∀n,n∈jA (ro++m)↔(sub.get n).isSome=true:=by
  intro n;rw[NE,List.mem_append,B,v];by_cases h:n∈jA r.ch<;>simp[h]
 have T:∀n,zA (ro++m) n=sub.get n:=by
  intro n;by_cases h:n∈jA (ro++m)
  ·exact de C n h
  rw[be h];rw[z]at h
  cases e:sub.get n with|none=>rfl|some o=>rw[e]at h;exact absurd rfl h
 generalize hms:((CA args++FC (ro++m)).filter λn=> !zD (jA (ro++m)) n)=ms;have w:∀n,n∈ms↔(n∈CA args\/n∈FC (ro++m))/\n∉jA (ro++m):=by
  intro n;rw[<-hms,List.mem_filter,List.mem_append]
  cases e:zD (jA (ro++m)) n with
  |true=>have:=(pH _ _).1 e;simp[this]|false=>
   have:n∉jA (ro++m):=λh=>by rw[(pH _ _).2 h]at e;cases e
   simp[this]
 have j:∀n o,sub.get n=some o->n<s.nx/\∀k∈o.names,k<s.nx:=by
  intro n o h;obtain⟨_,g,_,u⟩:=A.get n o h;exact⟨g,λk b=>by rcases u k b with H|H<;>first|exact H|cases H⟩
 have I:∀n∈ms,n<s.nx:=by
  intro n a;obtain⟨g,_⟩:=(w n).1 a;rcases g with g|g
  ·exact L n g
  obtain⟨p,l,hn'⟩:=mem_mentO.1 g;exact(j p.1 p.2 (C p.1 p.2 l)).2 n hn'
 let X:Env1:=⟨P,x.T,x.gl,[],fn.ntmps,jA (ro++m)++ms,he.T,he.mix⟩;have U:Rel ⟨VD 0 args .nil,sub,s.nx,[]⟩ ⟨TD 0 args,ro++m,jA (ro++m)++ms⟩:=by
  refine⟨λt=>?_,T,λn a=>?_⟩
  ·simp only;rw[lQ,wY];simp only[Nat.zero_le,if_true,Nat.sub_zero,true_and,Nat.zero_add,Tr.get_nil];by_cases h:t<args.length
   ·rw[if_pos h];simp[List.getD,List.getElem?_eq_getElem h]
   rw[if_neg h];simp[List.getD,List.getElem?_eq_none (by omega:args.length<=t)]
  rcases List.mem_append.1 a with a|a
  ·obtain⟨o,y⟩:=Option.isSome_iff_exists.1 ((z n).1 a);exact(j n o y).1
  exact I n a
 have W:Inv s.nx sub ⟨VD 0 args .nil,sub,s.nx,[]⟩:=⟨Nat.le_refl _,λ_ _ _=>rfl,λ_ _ h=>h,j,by simp⟩;have hA:=hg.awp fn.ntmps s.nx c _ _ r hr X rfl rfl rfl rfl U.us sub _ U W
 --G end
 have Y:∀N σ',KQ (gO x.T s.nx sub fn.results.toList) r s.nx sub N σ'->(∃σ'',Wk σ' σ''/\((N=.normal\/N=.ret)/\mM X σ'' fn.results.toList (.ret r.x)/\(∃d,Rel d σ''/\Inv s.nx sub d/\aK x.T s.nx sub fn.results.toList d=some r)))/\∀p,N≠.panic p:=by
  rintro N σ' ⟨e,s',rfl,hR',hI',b⟩
  have J:aK x.T s.nx sub fn.results.toList (tK x.T s.nx fn.results.toList s')=some r->∃σ'',Wk σ' σ''/\(mM X σ'' fn.results.toList (.ret r.x)/\(∃d,Rel d σ''/\Inv s.nx sub d/\aK x.T s.nx sub fn.results.toList d=some r)):=by
   intro b;obtain⟨σ'',g,u⟩:=XX (T:=x.T) (bs:=s.nx) fn.results.toList hR';have H:=TX (T:=x.T) fn.results.toList hI';refine⟨σ'',g,?_,_,u,H,b⟩;unfold aK at b;split at b
   ·rename_i xs O;rw[vY (X:=X) rfl u]at O;split at b
    ·split at b
     ·cases b;simp only[mM,OF,O,Option.map_some]
     cases b
    cases b
   cases b
  cases e with
  |exit i=>cases b
  |normal=>
   obtain⟨σ'',g,u⟩:=J b;exact⟨⟨σ'',g,.inl rfl,u⟩,by simp[AE.x]⟩
  |ret=>
   obtain⟨σ'',g,u⟩:=J b;exact⟨⟨σ'',g,.inr rfl,u⟩,by simp[AE.x]⟩
 --what G last state says of G result; it does not depend on G world
 have E:∀d,Inv s.nx sub d->aK x.T s.nx sub fn.results.toList d=some r->
   (∀n∈jA r.ch,n∈d.dt)/\(∀n∈d.dt,n∈jA r.ch)/\(∀n o,(n,o)∈r.ch++r.nw->d.ob.get n=some o)/\(∀n∈jA r.nw,s.nx<=n/\n<r.nx)/\s.nx<=r.nx/\
   ∀k,k∈r.x.names\/k∈FC (r.ch++r.nw)->(sub.get k).isSome=true\/k∈jA r.nw:=by
  intro d Z b;unfold aK at b;split at b
  ·rename_i xs O;split at b
   ·rename_i ch hch;split at b
    ·rename_i nw hnw;cases b;obtain⟨hck,hce⟩:=me hch;obtain⟨⟨seen',hN⟩,hT1,_⟩:=qY _ _ _ _ hnw ⟨(by simp),(by intro n h;cases h)⟩;refine⟨λn a=>?_,λn a=>?_,λn o hm=>?_,λn a=>?_,Z.le,λk b=>?_⟩
     ·rw[hck]at a;exact jY _ _ n a
     ·rw[hck];rcases zY d.dt .nil n a with h|h
      ·cases h
      exact h
     ·rcases List.mem_append.1 hm with hm|hm
      ·exact hce n o hm
      exact(hN.ent n o hm).2.2.1
     ·obtain⟨o,y⟩:=keysO_mem.1 a;exact⟨(hN.ent n o y).1,(hN.ent n o y).2.1⟩
     rcases b with b|b
     ·exact hT1 k (by simp[b])
     obtain⟨p,l,F⟩:=mem_mentO.1 b;rcases List.mem_append.1 l with l|l
     ·exact hT1 k (by rw[List.mem_append];exact .inr (mem_chNames.2 (mem_mentO.2 ⟨p,l,F⟩)))
     rcases(hN.ent p.1 p.2 l).2.2.2 k F with h|h|h
     ·exact .inl h
     ·exact .inr h
     cases h
    cases b
   cases b
  cases b
 obtain⟨e0,s0,hI1,Q⟩:=hg.syn fn.ntmps s.nx c _ _ r hr sub W;have hk2:aK x.T s.nx sub fn.results.toList (tK x.T s.nx fn.results.toList s0)=some r:=by
  cases e0 with
  |exit i=>cases Q
  |normal=>exact Q|ret=>exact Q
 obtain⟨l1,l2,l3,l4,l5,l6⟩:=E _ (TX (T:=x.T) fn.results.toList hI1) hk2;have hI2:=TX (T:=x.T) (bs:=s.nx) fn.results.toList hI1;have D:∀n∈jA r.ch,(sub.get n).isSome=true:=by
  intro n a;obtain⟨o,y⟩:=keysO_mem.1 a;have g:=l3 n o (by simp[y]);refine hI2.old n ?_ (by rw[g];rfl);exact hI2.dts n (l1 n a)
 have hro':∀n∈jA ro,n∉jA m/\n∉jA (r.ch++r.nw):=by
  intro n a;obtain⟨g,u⟩:=(B n).1 a;refine⟨λh=>u ((v n).1 h).2,λh=>?_⟩;rw[NE,List.mem_append]at h;rcases h with h|h
  ·exact u h
  obtain⟨o,y⟩:=Option.isSome_iff_exists.1 g;have:=(j n o y).1;have:=(l4 n h).1;omega
 refine⟨ro,m,⟨?_,hro',?_,?_,λn a=>((v n).1 a).2,⟨_,l3⟩,?_,l4,l5,λn a=>(z n).2 (A.mem n a)⟩⟩
 ·refine AC.of_body (X:=X) he.T hPf hb M rfl (ms:=ms) rfl hal (AM λn a=>?_) (λn a=>((w n).1 a).2) (λn a h=>?_) (AM λn a=>?_) (AM λn a=>?_) ?_
  ·rw[HE,List.mem_append];exact((w n).1 a).1
  ·rw[NE,List.mem_append,NE,List.mem_append]at h;have h0:=((w n).1 a).2;rw[NE,List.mem_append]at h0;rcases h with h|h|h
   ·exact h0 (.inl h)
   ·exact h0 (.inr ((v n).2 ⟨D n h,h⟩))
   have:=(l4 n h).1;have:=I n a;omega
  ·rw[List.mem_append]at a⊢;by_cases b:n∈jA (ro++m)
   ·exact .inl b
   refine .inr ((w n).2 ⟨?_,b⟩);rcases a with a|a
   ·exact .inl a
   rcases mem_namesOb.1 a with h|h
   ·exact absurd h b
   exact .inr h
  ·rw[List.mem_append]at a;simp only[List.mem_append];have hme:n∈r.x.names\/n∈FC (r.ch++r.nw)->(n∈jA (ro++m)\/n∈ms)\/n∈jA (ro++(r.ch++r.nw)):=by
    intro h;rcases l6 n h with h|h
    ·exact .inl (.inl ((z n).2 h))
    refine .inr ?_;rw[NE,NE,List.mem_append,List.mem_append];exact .inr (.inr h)
   rcases a with a|a
   ·exact hme (.inl a)
   rcases mem_namesOb.1 a with h|h
   ·exact .inr h
   obtain⟨p,l,F⟩:=mem_mentO.1 h;rcases List.mem_append.1 l with l|l
   ·by_cases b:n∈jA (ro++m)
    ·exact .inl (.inl b)
    exact .inl (.inr ((w n).2 ⟨.inr (mem_mentO.2 ⟨p,by simp[l],F⟩),b⟩))
   exact hme (.inr (mem_mentO.2 ⟨p,l,F⟩))
  refine AWP.post hA λN σ' hq=>?_
  obtain⟨⟨σ'',g,u,H,d,h4,h5,h6⟩,h7⟩:=Y N σ' hq;refine⟨⟨σ'',g,?_⟩,h7⟩;obtain⟨m1,m2,m3,_⟩:=E d h5 h6;have K:rB (ro++(r.ch++r.nw)) σ''.objs:=by
   refine BM λp l=>?_
   rw[h4.ob];rcases List.mem_append.1 l with l|l
   ·have h8:=(B p.1).1 (keysO_mem.2 ⟨p.2,l⟩);have h9:=C p.1 p.2 (by simp[l]);rw[h5.same p.1 (j p.1 p.2 h9).1 (λhd=>h8.2 (m2 p.1 hd))];exact h9
   exact m3 p.1 p.2 l
  rcases u with rfl|rfl
  ·exact⟨H,K⟩
  exact⟨H,K⟩
 ·intro p l;exact(A.get p.1 p.2 (C p.1 p.2 l)).1
 ·intro n a;rw[<-NE]at a;obtain⟨o,y⟩:=Option.isSome_iff_exists.1 ((z n).1 a);exact(A.get n o y).2.2.1
 intro n a;have g:=D n a;obtain⟨o,y⟩:=Option.isSome_iff_exists.1 g;refine⟨(j n o y).1,?_,(v n).2 ⟨g,a⟩⟩;rw[(A.get n o y).1];rfl
def Up{o:Option V}{r:RB}(h:ro o=some r):r.wr=none:=by
 obtain⟨v,_,rfl⟩:=uE h;rfl
def Vp{x:V}{r:RB}(h:rb x=some r):r.wr=none:=by cases h;rfl
theorem Wp{b:TI}{a:Nat->Option Ob}{x y:V}{r:RB}(h:rM b a x y=some r){n:Nat}{o:Ob}(c:r.wr=some (n,o)):(a n).isSome=true:=by
 unfold rM at h;split at h
 ·cases h
 replace h:=(jB h).2;replace h:=(jB h).2;split at h
 ·grind
 ·grind
 ·obtain⟨_,_,_,_,_,_,rfl⟩:=Sd h;cases c
 cases h
theorem Xp{e:Nat}{b:TI}{a:Nat->Option Ob}{c:Nat}{x y:V}{r:RB}(h:sM e b a c x y=some r){n:Nat}{o:Ob}(b:r.wr=some (n,o))(b:r.new=false):(a n).isSome=true:=by
 unfold sM at h
 grind
theorem Yp{e:Nat}{a:TI}{b len:Nat}{c:List (List V)}{r:RB}(h:vT e a b len c=some r){n:Nat}{o:Ob}(a:r.wr=some (n,o))(a:r.new=false):False:=by
 unfold vT at h
 grind
def Zp{T:Nat->Option TI}{g:Nat}{val:Operand->V}{d:Nat->Option Ob}{e:Option Nat}{op:Op}{r:RB}(h:jD T g val d e op=some r){n:Nat}{o:Ob}(a:r.wr=some (n,o))(l:r.new=false):(d n).isSome=true:=by
 have f:∀{x:V},rb x=some r->(d n).isSome=true:=λh=>by rw[Vp h]at a;cases a
 have b:∀{x:Option V},ro x=some r->(d n).isSome=true:=λh=>by rw[Up h]at a;cases a
 unfold jD at h;split at h
 ·exact f h
 ·exact f h
 ·grind
 ·grind[AX]
 ·unfold BX at h
  grind
 ·exact b h
 ·grind
 ·grind[Yp]
 ·grind
 ·grind[Wp]
 ·exact b h
 ·grind
 ·grind
 ·grind
 ·exact b h
 ·exact b h
 ·exact b h
 ·exact b h
 ·split at h
  ·unfold dT at h
   grind
  cases h
 ·exact(Wd h).2.2 n o a
 ·grind
 ·exact b h
 ·grind
 ·grind
 ·split at h
  ·split at h
   ·obtain⟨_,_,i,⟨j,c⟩,k⟩:=uT h;rw[c]at a;simp_all
   cases h
  cases h
 ·split at h
  ·split at h
   ·obtain⟨_,_,i,⟨j,c⟩,k⟩:=uT h;rw[c]at a;simp_all
   cases h
  cases h
 ·grind
 ·grind
 ·grind
 ·split at h
  ·grind[Xp]
  cases h
 ·grind
 cases h
def ce{a n m:Nat}{l:List Nat}(h:m∈rK a n l):(m=n/\n<a)\/m∈l:=by
 unfold rK at h
 cases e:Nat.blt n a with
 |true=>rw[e]at h;rcases List.mem_cons.1 h with h|h<;>first|exact .inl ⟨h,QF e⟩|simp_all
 |false=>simp_all
def oe{a n m:Nat}{l:List Nat}(h:m∈l):m∈rK a n l:=by
 grind[rK,Nat.blt,List.mem_cons_of_mem]
theorem xe{a n:Nat}{l:List Nat}(h:n<a):n∈rK a n l:=by
 grind[rK,qJ,decide_eq_true]
def Inv.slot{a:Nat}{sub:Tr Ob}{s:IS}(h:Inv a sub s)(t:Tr V):Inv a sub ⟨t,s.ob,s.nx,s.dt⟩:=⟨h.le,h.same,h.old,h.names,h.dts⟩
def Ae{b:Nat}{sub:Tr Ob}{s:IS}(h:Inv b sub s){r:RB}(f:r.new=true)(c:∃o,r.wr=some (s.nx,o))(d:Option Nat):Inv b sub (s.app b d r):=by
 obtain⟨o,g⟩:=c;unfold IS.app;rw[g,f];refine⟨Nat.le_succ_of_le h.le,λm e i=>?_,λm e a=>?_,h.names,h.dts⟩
 ·have:=h.le;show(s.ob.put s.nx (some o)).get m=_;rw[Tr.get_put,if_neg (by omega)];exact h.same m e i
 have:=h.le;have a:((s.ob.put s.nx (some o)).get m).isSome=true:=a;rw[Tr.get_put,if_neg (by omega)]at a;exact h.old m e a
theorem qq{f:Nat}{sub:Tr Ob}{s:IS}(h:Inv f sub s){T:Nat->Option TI}{val:Operand->V}{g:Option Nat}{op:Op}{r:RB}(u:jD T s.nx val s.ob.get g op=some r)(d:Option Nat):Inv f sub (s.app f d r):=by
 unfold IS.app
 cases v:r.wr with
 |none=>exact h.slot _|some p=>
  obtain⟨n,o⟩:=p
  cases i:r.new with
  |true=>
   obtain⟨note,_,j⟩:=je u;have:=Ae h i (j i) d
   grind[IS.app]
  |false=>
   have a:=Zp u v i;refine⟨h.le,λm b w=>?_,λm b c=>?_,h.names,λm b=>?_⟩
   ·show(s.ob.put n (some o)).get m=_;have k:m≠n:=by grind[xe]
    rw[Tr.get_put,if_neg k];exact h.same m b (λl=>w (oe l))
   ·have c:((s.ob.put n (some o)).get m).isSome=true:=c;rw[Tr.get_put]at c;by_cases e:m=n
    ·subst e;exact h.old m b a
    rw[if_neg e]at c;exact h.old m b c
   rcases ce b with ⟨rfl,t⟩|t
   ·exact t
   exact h.dts m t
def zq(l:List (Nat×Ob))(n m:Nat)(o:Ob):zA (dF l [(n,some o)]) m=if m=n then some o else zA l m:=by
 simp[dF,ZW,fD]
def kY{s:IS}{σ:St}(h:Rel s σ)(d:Option Nat)(x:V)(t:Nat):IA (QC d x σ.slots) t=(match (gD s.sl d x).get t with|some v=>v|none=>.undef):=by
 rw[uM]
 cases d with
 |none=>exact h.sl t|some d=>
  simp only[gD,Tr.get_put];by_cases e:d=t
  ·simp_all
  have a:¬t=d:=λh=>e h.symm
  rw[if_neg (by simp_all),if_neg a];exact h.sl t
def yY:∀(l:List (Nat×Ob))(t:Tr Ob)(G:Nat->Option Ob),(∀n o,(n,o)∈l->G n=some o)->∀n,(RF l t).get n=if n∈jA l then G n else t.get n
 |[],t,G,_,n=>by rfl|(k,o)::r,t,G,h,n=>by
  simp only[RF];rw[yY r _ G (λn q a=>h n q (by simp[a])),Tr.get_put];have:jA ((k,o)::r)=k::jA r:=rfl
  grind
def Be{a m:Nat}:∀{l:List (Nat×Ob)}{d:List Nat},m∈cK a l d->(m∈jA l/\m<a)\/m∈d
 |[],d,h=>.inr h|(n,o)::r,d,h=>by
  simp only[cK]at h;have:jA ((n,o)::r)=n::jA r:=rfl;rcases Be h with h|h
  ·simp_all
  rcases ce h with ⟨rfl,h⟩|h
  ·simp_all
  simp_all
def Ce{a m:Nat}:∀{l:List (Nat×Ob)}{d:List Nat},m∈d->m∈cK a l d
 :=by intro x;induction x<;>simp_all[cK,oe]
def Ee{a m:Nat}(b:m<a):∀{l:List (Nat×Ob)}{d:List Nat},m∈jA l->m∈cK a l d
 |[],d,h=>by grind[jA]|(n,o)::r,d,h=>by
  simp only[cK];rcases List.mem_cons.1 h with rfl|h
  ·exact Ce (xe b)
  exact Ee b h
section
variable{P:Program}{gl:Nat->Option (List PV)}{s:IS}{f:Nat}{args:List V}{r:GB}{ks:List Nat}{o1 ro:List (Nat×Ob)}
def Called.get(h:Called P gl s f args r ks ro o1)(t:Tr Ob):∃G:Nat->Option Ob,(∀n,(RF r.nw (RF r.ch t)).get n=if n∈jA (r.ch++r.nw)then G n else t.get n)/\∀n,zA (r.ch++r.nw) n=if n∈jA (r.ch++r.nw)then G n else none:=by
 obtain⟨G,b⟩:=h.gfn;refine⟨G,λn=>?_,λn=>?_⟩
 ·have:n∈jA (r.ch++r.nw)↔n∈jA r.ch\/n∈jA r.nw:=by rw[NE,List.mem_append]
  rw[yY r.nw _ G (λn o c=>b n o (by simp[c])),yY r.ch _ G (λn o c=>b n o (by simp[c]))]
  grind
 by_cases a:n∈jA (r.ch++r.nw)
 ·rw[if_pos a];exact de b n a
 rw[if_neg a];exact be a
def Called.inv(h:Called P gl s f args r ks ro o1){g:Nat}{sub:Tr Ob}(c:Inv g sub s)(d:Option Nat):Inv g sub (pT g s d r):=by
 obtain⟨G,j,_⟩:=h.get s.ob;have:=c.le;have:=h.le;refine⟨by show g<=r.nx;omega,λm b k=>?_,λm b e=>?_,c.names,λm b=>?_⟩
 ·show(RF r.nw (RF r.ch s.ob)).get m=_;rw[j,if_neg]
  ·exact c.same m b (λi=>k (Ce i))
  rw[NE,List.mem_append]
  rintro(a|a)
  ·exact k (Ee b a)
  have:=(h.nws m a).1;omega
 ·have e:((RF r.nw (RF r.ch s.ob)).get m).isSome=true:=e;rw[j]at e;split at e
  ·rename_i a;rw[NE,List.mem_append]at a;rcases a with a|a
   ·exact c.old m b (h.chs m a).2.1
   have:=(h.nws m a).1;omega
  exact c.old m b e
 rcases Be b with a|a
 ·exact a.2
 exact c.dts m a
def Called.rel(h:Called P gl s f args r ks ro o1){σ:St}(c:Rel s σ)(i:Nat)(d:Option Nat):Rel (pT i s d r) (σ.eff d (bK r.x ro o1 (r.ch++r.nw))):=by
 obtain⟨G,j,e⟩:=h.get s.ob;refine⟨λt=>kY c d r.x t,λn=>?_,λn b=>?_⟩
 ·show zA (dF σ.objs (AG o1 (r.ch++r.nw))) n=(RF r.nw (RF r.ch s.ob)).get n;rw[SH,j,e];by_cases a:n∈jA (r.ch++r.nw)
  ·have g:=dH a
   grind
  rw[if_neg a,if_neg a];rw[if_neg]
  ·exact c.ob n
  intro g;exact a (by rw[NE];simp[h.inch n g])
 show n<r.nx;have:=h.le;rcases List.mem_append.1 b with b|b
 ·obtain⟨a,g⟩:=List.mem_filter.1 b;rw[NE,List.mem_append]at a;rcases a with a|a
  ·have:=(h.chs n a).1;omega
  exact(h.nws n a).2
 have:=c.us n b;omega
def Called.op(h:Called P gl s f args r ks ro o1){X:Env1}(e:X.P=P)(b:X.gl=gl){σ:St}(c:Rel s σ){o:Oper}(g:JC (σ.val X.gl) o.op=some (f,args)):OpW X o σ (bK r.x ro o1 (r.ch++r.nw)):=by
 subst e b;refine OpW.callR f args ro o1 r.x (r.ch++r.nw) g h.ac h.apart (BM λp i=>?_) (λn j k=>?_)
 ·rw[c.ob];exact h.subs p i
 obtain⟨a,d⟩:=List.mem_filter.1 j;rw[NE,List.mem_append]at a;have:=c.us n k;rcases a with a|a
 ·obtain⟨q,l⟩:=dH (h.chs n a).2.2;rw[l]at d;cases d
 have:=(h.nws n a).1;omega
end
def DQ(b:MA)(P:Program)(call:Call):Prop:=∀(f:Nat)(args:List V)(s:IS)(r:GB)(a:List Nat),call f args s=some (r,a)->∃ro c,Called P b.gl s f args r a ro c
def ZH(e:Eff)(a:Tc):Prop:=(∀n∈e.wn,n∈a.wn)/\∀n∈e.rd,n∈a.rd
section
variable{ev:MA}{P:Program}{call:Call}
def jq(c:DQ ev P call){a:Nat}{o:Oper}{s b:IS}{d:Tc}(h:xM ev call a o s=some (b,d)){sub:Tr Ob}(e:Inv a sub s):Inv a sub b:=by
 unfold xM at h;split at h
 ·unfold callR at h;split at h
  ·rename_i r i f;cases h;obtain⟨ro,j,g⟩:=c _ _ _ _ _ f;exact g.inv e _
  cases h
 grind[qq]
def Fe{y:Nat}{o:Oper}{s:IS}{r:RB}{note:dC}(z:PF (mA ev.T note (s.val ev.gl) s.ob.get o.dst o.op) r)(h:r.new=true->∃j,r.wr=some (s.nx,j)){X:Env1}(k:X.T=ev.T)(i:X.gl=ev.gl){σ:St}(f:Rel s σ):
  ∃e,OpW X o σ e/\Rel (s.app y o.dst r) (σ.eff o.dst e)/\ZH e ⟨match r.wr with|some (n,_)=>[n]|none=>[],aE (s.val ev.gl) o.op⟩:=by
 obtain⟨q,A,B,E,l,w⟩:=z;have g:=f.val ev.gl;have u:OpW X o σ (q.eff (aE (σ.val X.gl) o.op)):=by
  refine .step note q ?_ B λn a=>?_
  ·rw[i,k,g,f.obf];exact A
  simp only[R.eff,l,w]at a
  cases b:r.wr with
  |none=>rw[b]at a;simp at a|some p=>
   obtain⟨m,F⟩:=p;rw[b]at a
   cases c:r.new with
   |false=>rw[c]at a;simp at a|true=>
    rw[c]at a;obtain⟨j,d⟩:=h c;rw[b]at d;cases d;simp at a;subst a;intro C;exact absurd (f.us _ C) (Nat.lt_irrefl _)
 refine⟨_,u,?_,?_,?_⟩
 ·--D v
  refine⟨λt=>?_,λn=>?_,λn a=>?_⟩
  ·have:IA (QC o.dst q.out σ.slots) t=_:=kY f o.dst q.out t;show IA (QC o.dst q.out σ.slots) t=_;unfold IS.app
   grind
  ·show zA (dF σ.objs (match q.wr with|some (n,o)=>[(n,some o)]|none=>[])) n=_;rw[l];unfold IS.app
   cases b:r.wr with
   |none=>exact f.ob n|some p=>
    rw[zq,f.ob];cases r.new<;>exact(Tr.get_put _ _ _ _).symm
  have a:n∈(match q.wr,q.new with|some (n,_),true=>[n]|_,_=>[])++σ.used:=a;rw[l,w]at a;unfold IS.app
  cases b:r.wr with
  |none=>rw[b]at a;exact f.us n a|some p=>
   rw[b]at a
   cases c:r.new with
   |false=>rw[c]at a;exact f.us n a|true=>
    rw[c]at a;obtain⟨j,d⟩:=h c;rw[b]at d;cases d;simp at a;show n<Nat.succ s.nx;rcases a with x|x
    ·omega
    exact Nat.lt_succ_of_lt (f.us n x)
 ·grind[Eff.wn,R.eff]
 intro n a;rw[i,g]at a;exact a
def vq(p:DQ ev P call){j:Nat}{o:Oper}{s k:IS}{l:Tc}(h:xM ev call j o s=some (k,l)){X:Env1}(t:X.P=P)(g:X.T=ev.T)(b:X.gl=ev.gl){σ:St}(c:Rel s σ):
  ∃e,OpW X o σ e/\Rel k (σ.eff o.dst e)/\ZH e l:=by
 unfold xM at h;split at h
 ·rename_i f args u;unfold callR at h;split at h
  ·rename_i r A v;cases h;obtain⟨ro,w,d⟩:=p _ _ _ _ _ v;refine⟨_,d.op t b c (by rw[c.val,b];exact u),d.rel c j _,λn a=>?_,λn a=>?_⟩
   ·have a:n∈(AG w (r.ch++r.nw)).map (·.1):=a;simp only[AG,List.map_append,List.map_map,List.mem_append]at a⊢;rcases a with a|a
    ·obtain⟨m,x,rfl⟩:=List.mem_map.1 a;have:=d.inch m (List.mem_filter.1 x).1;exact .inl this
    grind
   exact d.kss n a
  cases h
 split at h
 ·rename_i r y;cases h;obtain⟨note,z,i⟩:=je y;exact Fe z i g b c
 cases h
end
def uY:∀(l:List (Option Nat×Eff))(k:Nat)(s:St),GA (λ_=>true) k l s=GA (λ_=>true) 0 l s|[],k,s=>rfl|p::r,k,s=>by simp[GA,if_true,uY]
def bY{s:IS}{σ:St}(a:Rel s σ)(all:List Oper)(j:Nat):NX all s j=gv all σ j:=by
 unfold NX gv
 cases all[j]? with
 |none=>rfl|some o=>
  simp only
  cases o.dst with|none=>rfl|some d=>simp only[a.sl]<;>rfl
section
variable{ev:MA}{P:Program}{call:Call}
def Ge{s:IS}{σ:St}(a:Rel s σ)(d:Option Nat):Rel ⟨gD s.sl d mO,s.ob,s.nx,s.dt⟩ (σ.eff d IE):=
 ⟨λt=>kY a d mO t,λn=>a.ob n,λn b=>a.us n (by grind[St.eff,IE])⟩
def TcsOK(b:List Eff)(a:List Tc):Prop:=a.length=b.length/\∀(i:Nat)(e:Eff)(c:Tc),b[i]? =some e->a[i]? =some c->ZH e c
def TcsOK.cons{e:Eff}{tc:Tc}{c:List Eff}{a:List Tc}(h:ZH e tc)(d:TcsOK c a):TcsOK (e::c) (tc::a):=by
 refine⟨by simp[d.1],λi f b g j=>?_⟩
 cases i with|zero=>simp_all|succ i=>exact d.2 i f b (by simp_all) (by simp_all)
def He{X:Env1}{C:Ctx}(x:BB X.P X.T)(y:GOK X.gl C.E0.H)(r:C.nt=X.nt){g:List Oper}{Q:Exit->Act->World->Prop}{o:Oper}{f:List Oper}{e:Eff}{σ:St}{E:Env}{a:Act}{w:World}(h:WI X g o σ e)(l:Ga C E σ a w)
  (s:∀E a w,Ga C E (σ.eff o.dst e) a w->wpList X.P g.toArray Q f a w):wpList X.P g.toArray Q (o::f) a w:=by
 obtain⟨u,z⟩:=h;have i:∀d,o.dst=some d->d<C.nt:=by
  intro d e;rw[e]at u;rw[r];exact u
 have:OpW X o σ e->o.wp X.P a w (wpList X.P g.toArray Q f) Q:=λt=>t.sound x y l i s
 unfold wpList;rcases z with ⟨c,t⟩|⟨j,m,b,c,p,⟨k,t⟩|⟨k,rfl⟩⟩|⟨j,m,c,p,rfl⟩
 ·rw[if_pos (by simp[Region.wanted,c])];simp_all
 ·have n:=uX l p;rw[if_pos (by simp[Region.wanted,c,n,k])];simp_all
 ·have n:=uX l p;rw[if_neg (by simp[Region.wanted,c,n,k])];exact s E _ w (PS l i)
 have n:=yd l p;rw[if_neg (by simp[Region.wanted,c,n])];exact s E _ w (PS l i)
def Ie{X:Env1}{C:Ctx}(j:BB X.P X.T)(k:GOK X.gl C.E0.H)(c:C.nt=X.nt){b:List Oper}{Q:Exit->Act->World->Prop}:∀(l:List Oper)(f:List Eff)(σ:St)(E:Env)(a:Act)(w:World),fM X b l f σ->Ga C E σ a w->
  (∀E a w,Ga C E (GA (λ_=>true) 0 (zB l f) σ) a w->Q .normal a w)->wpList X.P b.toArray Q l a w
 |[],[],σ,E,a,w,_,d,g=>g E a w d|[],_::_,_,_,_,_,h,_,_=>h.elim|o::b,[],_,_,_,_,h,_,_=>h.elim|o::b,e::f,σ,E,a,w,h,d,g=>He j k c h.1 d λl m n i=>Ie j k c b f _ l m n h.2 i λE a w d=>by
  refine g E a w ?_;simp only[zB,List.map_cons,List.zip_cons_cons,GA,if_true];rw[uY];exact d
def AWP.seqR{X:Env1}{id:Nat}{b:Array Oper}{c:List Eff}{σ:St}{Q:EB->St->Prop}(h:fM X b.toList b.toList c σ)(f:Q .normal (GA (λ_=>true) 0 (zB b.toList c) σ)):AWP X (.region id b false) σ Q:=by
 intro C E a w e d;refine wp_region_list ?_;have:=Ie X.ok e.glob e.nt (Q:=XI C Q) b.toList c σ E a w h d (λE a w d=>⟨E,_,.normal,d,rfl,f⟩);omega
def AWP.anyR{X:Env1}{id:Nat}{b:Array Oper}{c:List Eff}{σ:St}{Q:EB->St->Prop}(h:c.length=b.toList.length)(j:fM X b.toList b.toList c σ)(l:dM b.toList c=true)(m:Q .normal (GA (λ_=>true) 0 (zB b.toList c) σ)):AWP X (.region id b true) σ Q:=by
 intro C E a w f d;refine wp_region_any X.mix ?_;have e:Ga C E σ a {w with drawn:=w.drawn+1}:=d.drew;have:∀(r:List (Option Nat×Eff))(k:Nat)(s:St),GA (λ_=>false) k r s=s:=by
  intro r;induction r with|nil=>intro k s;rfl|cons p r o=>grind[GA]
 have:∀i,(Array.replicate b.size false).getD i false=false:=by
  intro i;rw[Array.getD_eq_getD_getElem?,Array.getElem?_replicate];split<;>rfl
 have:=Ko (X:=X) (C:=C) (Q:=XI C Q) X.ok f.glob f.nt h j l (λE a w d=>⟨E,_,.normal,d,rfl,m⟩) b.size (Array.replicate b.size false) E a _ (by simp) (by
  simp) (by
  simp_all) (e.of_ext (by
   simp_all) (by
   simp_all) (by
   simp_all))
 omega
def dY:∀{b:List Tc},eK b=true->∀t∈b,t.wn=[]
 |[],_,_,h=>by cases h
 |t::r,h,u,a=>by
  unfold eK at h;split at h
  ·rename_i e;rcases List.mem_cons.1 a with rfl|a
   ·exact e
   exact dY h u a
  cases h
def wq{c:Array Oper}{k m:Oper}{e d:Eff}{o p:Tc}(r:ZH e o)(g:ZH d p)(f:CQ o p=true)(t:CD c k e m d=true):OX c k m=true:=by
 unfold CQ at f;rw[Bool.and_eq_true,List.all_eq_true,List.all_eq_true]at f;have b:∀(l:List Nat)(n:Nat),(!zD l n)=true->n∉l:=λl n h s=>by rw[(pH l n).2 s]at h;cases h
 have:(e.wn.any λn=>d.rd.contains n||d.wn.contains n)=false:=by
  rw[List.any_eq_false];intro n i a;have j:=f.1 n (r.1 n i);rw[Bool.and_eq_true]at j;simp only[Bool.or_eq_true,List.contains_iff_mem]at a;rcases a with a|a
  ·exact b _ _ j.1 (g.2 n a)
  exact b _ _ j.2 (g.1 n a)
 have:(d.wn.any λn=>e.rd.contains n)=false:=by
  rw[List.any_eq_false];intro n i a;simp only[List.contains_iff_mem]at a;exact b _ _ (f.2 n (g.1 n i)) (r.2 n a)
 grind[CD,OX]
def Je{a:List Oper}{d:List Eff}{b:List Tc}(o:rT a=true)(e:eK b.reverse=true\/nO a b=true)(B:d.length=a.length)(p:TcsOK d b):dM a d=true:=by
 unfold dM;unfold rT at o;rw[List.all_eq_true]at o⊢;intro j r;have s:j<a.length:=by simpa using r
 have c:=o j r;have l:j<d.length:=by omega
 have m:j<b.length:=by rw[p.1];omega
 rw[List.getElem?_eq_getElem s]at c⊢;rw[List.getElem?_eq_getElem l];simp only[Bool.and_eq_true,List.all_eq_true]at c⊢;refine⟨c.1,λi t=>?_⟩;have x:i<j:=by simpa using t
 have f:=c.2 i t;rw[List.getElem?_eq_getElem (show i<a.length by omega)]at f⊢;rw[List.getElem?_eq_getElem (show i<d.length by omega)];simp only[Bool.or_eq_true]at f⊢;by_cases w:CD a.toArray a[i] d[i] a[j] d[j]=true
 ·right;have u:=p.2 i _ _ (List.getElem?_eq_getElem (show i<d.length by omega)) (List.getElem?_eq_getElem (show i<b.length by omega));have v:=p.2 j _ _ (List.getElem?_eq_getElem l) (List.getElem?_eq_getElem m);have n:CQ b[i] b[j]=true->((cE a []).getD j 0).testBit i=true:=by
   intro y;have:=wq u v y w;rcases f with h|h
   ·rw[this]at h;cases h
   exact h
  rcases e with e|e
  ·refine n ?_;have z:=dY e b[i] (by simp);have A:=dY e b[j] (by simp);simp[CQ,z,A]
  unfold nO at e;rw[List.all_eq_true]at e;have g:=e j r;rw[List.getElem?_eq_getElem m]at g;simp only[List.all_eq_true]at g;have k:=g i t;rw[List.getElem?_eq_getElem (show i<b.length by omega)]at k;simp only[Bool.or_eq_true]at k;rcases k with h|h
  ·exact n h
  exact h
 left;simpa using w
def kq{a:Nat}{sub:Tr Ob}(l:List Nat){s:IS}(b:Inv a sub s):Inv a sub (iK a l s):=by
 grind[iK,Nat.beq,Sp]
def aT{bs:Nat}(l:List Nat){s:IS}{σ:St}(a:Rel s σ):∃σ',Wk σ σ'/\Rel (iK bs l s) σ':=by
 unfold iK;cases Nat.beq s.nx bs
 ·exact WX l a
 grind[Wk.refl]
end
end Go.Lg
