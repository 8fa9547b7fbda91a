/- The engine that computes runs; no conditions. -/
import Derived.Test.YtmihmecnjjmdgaaGreatDoorAgainA4
set_option linter.all false
namespace Go.Lg
inductive Tr(α:Type) where|nil|node (l:Tr α) (v:Option α) (r:Tr α)
theorem NE{a b:Nat}(h:a=b):Nat.beq a b=true:=by subst h;exact Nat.beq_refl a
theorem MK{a b:Nat}(h:a≠b):Nat.beq a b=false:=by
 cases e:Nat.beq a b with|false=>rfl|true=>simp_all
def Tr.get{α:Type}:Tr α->Nat->Option α|.nil,_=>none|.node l v r,i=>bif Nat.beq i 0 then v else bif Nat.beq (Nat.mod i 2) 1 then l.get (Nat.div i 2)else r.get (Nat.pred (Nat.div i 2))
def Tr.putF{α:Type}:Nat->Tr α->Nat->Option α->Tr α|0,t,_,_=>t|f+1,.nil,i,x=>bif Nat.beq i 0 then .node .nil x .nil else bif Nat.beq (Nat.mod i 2) 1 then .node (Tr.putF f .nil (Nat.div i 2) x) none .nil else .node .nil none (Tr.putF f .nil (Nat.pred (Nat.div i 2)) x)|f+1,.node l v r,i,x=>bif Nat.beq i 0 then .node l x r else bif Nat.beq (Nat.mod i 2) 1 then .node (Tr.putF f l (Nat.div i 2) x) v r else .node l v (Tr.putF f r (Nat.pred (Nat.div i 2)) x)
def Tr.put{α:Type}(t:Tr α)(i:Nat)(x:Option α):Tr α:=Tr.putF (Nat.succ i) t i x
def Tr.map{α β:Type}(f:α->β):Tr α->Tr β|.nil=>.nil|.node l v r=>.node (l.map f) (v.map f) (r.map f)
def Tr.get_nil{α:Type}(i:Nat):(Tr.nil:Tr α).get i=none:=rfl
def Tr.get_node{α:Type}(l:Tr α)(v:Option α)(r:Tr α)(i:Nat):(Tr.node l v r).get i=if i=0 then v else if i%2=1 then l.get (i / 2)else r.get (i / 2-1):=by
 show(bif Nat.beq i 0 then v else bif Nat.beq (Nat.mod i 2) 1 then l.get (Nat.div i 2)else r.get (Nat.pred (Nat.div i 2)))=_;by_cases h:i=0
 ·simp_all
 rw[if_neg h,MK h];by_cases a:i%2=1
 ·rw[if_pos a,show Nat.beq (Nat.mod i 2) 1=true from NE a];rfl
 rw[if_neg a,show Nat.beq (Nat.mod i 2) 1=false from MK a];rfl
def Tr.get_putF{α:Type}:∀(f:Nat)(t:Tr α)(i:Nat)(x:Option α)(j:Nat),i<f->(Tr.putF f t i x).get j=if j=i then x else t.get j
 |0,_,_,_,_,h=>absurd h (Nat.not_lt_zero _)|f+1,t,i,x,j,h=>by
  have key:∀(l:Tr α)(v:Option α)(r:Tr α),
    (bif Nat.beq i 0 then Tr.node l x r else bif Nat.beq (Nat.mod i 2) 1 then .node (Tr.putF f l (Nat.div i 2) x) v r else .node l v (Tr.putF f r (Nat.pred (Nat.div i 2)) x)).get j=if j=i then x else(Tr.node l v r).get j:=by
   intro l v r;by_cases d:i=0
   ·subst d;show(Tr.node l x r).get j=_;rw[Tr.get_node,Tr.get_node];simp_all
   rw[show Nat.beq i 0=false from MK d];simp only[cond_false];by_cases e:i%2=1
   ·rw[show Nat.beq (Nat.mod i 2) 1=true from NE e];simp only[cond_true];rw[Tr.get_node,Tr.get_node];have c:=Tr.get_putF f l (i / 2) x (j / 2) (by omega);by_cases b:j=0
    ·grind
    rw[if_neg b,if_neg b];by_cases a:j%2=1
    ·rw[if_pos a,if_pos a];refine c.trans ?_
     grind
    grind
   rw[show Nat.beq (Nat.mod i 2) 1=false from MK e];simp only[cond_false];rw[Tr.get_node,Tr.get_node];have c:=Tr.get_putF f r (i / 2-1) x (j / 2-1) (by omega);by_cases b:j=0
   ·grind
   rw[if_neg b,if_neg b];by_cases a:j%2=1
   ·rw[if_pos a,if_pos a,if_neg (by omega)]
   rw[if_neg a,if_neg a];refine c.trans ?_
   grind
  cases t with
  |nil=>
   have:=key .nil none .nil;simp only[Tr.get_node,Tr.get_nil,ite_self]at this⊢;exact this
  |node l v r=>exact key l v r
theorem Tr.get_put{α:Type}(t:Tr α)(i:Nat)(x:Option α)(j:Nat):(t.put i x).get j=if j=i then x else t.get j:=Tr.get_putF _ t i x j (Nat.lt_succ_self i)
def Tr.get_map{α β:Type}(f:α->β):∀(t:Tr α)(i:Nat),(t.map f).get i=(t.get i).map f
 |.nil,_=>rfl|.node l v r,i=>by
  show(Tr.node (l.map f) (v.map f) (r.map f)).get i=_;rw[Tr.get_node,Tr.get_node];split
  ·rfl
  split
  ·exact Tr.get_map f l _
  exact Tr.get_map f r _
def NK{α:Type}:List α->Nat->List α
 |[],_=>[]|a::l,n=>match n with|0=>a::l|m+1=>NK l m
def yT{α:Type}:∀(l:List α)(n:Nat),NK l n=l.drop n|[],n=>by simp[NK]|a::l,0=>rfl|a::l,n+1=>by simp[NK,List.drop_succ_cons,yT]
def cO{α:Type}:List α->Nat->Option (List α)
 |[],n=>match n with|0=>some []|_+1=>none
 |a::l,n=>match n with
  |0=>some []|m+1=>match cO l m with|some r=>some (a::r)|none=>none
def uT{α:Type}:∀(l:List α)(n:Nat),cO l n=if n<=l.length then some (l.take n)else none
 |[],0=>rfl|[],n+1=>rfl|a::l,0=>rfl|a::l,n+1=>by
  simp only[cO,uT l n,List.length_cons,Nat.add_le_add_iff_right]
  grind
def VB{α:Type}:List α->Nat->Option α
 |[],_=>none|a::l,n=>match n with|0=>some a|m+1=>VB l m
def NH{α:Type}:∀(l:List α)(n:Nat),VB l n=l[n]?|[],n=>by simp[VB]|a::l,0=>rfl|a::l,n+1=>by simp[VB,NH]
def tI{α:Type}:List α->Nat->List α->Option (List α)
 |a,0,[]=>some a|[],0,_::_=>none|_::a,0,y::b=>match tI a 0 b with|some r=>some (y::r)|none=>none
 |[],_+1,_=>none|c::a,n+1,b=>match tI a n b with|some r=>some (c::r)|none=>none
def bT{α:Type}:∀(a:List α)(n:Nat)(b r:List α),tI a n b=some r->n+b.length<=a.length/\r=a.take n++b++a.drop (n+b.length)
 |a,0,[],r,h=>by grind[tI,Option.some.injEq]|[],0,_::_,r,h=>by grind[tI]|c::a,0,y::b,r,h=>by
  simp only[tI]at h;split at h
  ·rename_i d e;obtain⟨f,g⟩:=bT a 0 b d e;simp_all
  cases h
 |[],n+1,b,r,h=>by grind[tI]|c::a,n+1,b,r,h=>by
  simp only[tI]at h;split at h
  ·rename_i d e;obtain⟨f,g⟩:=bT a n b d e
   grind
  cases h
structure RB where
 x:V
 wr:Option (Nat×Ob)
 new:Bool
def rb(x:V):Option RB:=some ⟨x,none,false⟩
def mD:List Nat->Nat->Bool|[],_=>false|k::r,n=>bif Nat.beq k n then true else mD r n
theorem OH:∀(l:List Nat)(n:Nat),mD l n=true↔n∈l
 :=by intro x;induction x<;>simp_all[mD,NE,MK,cond_false,List.mem_cons,absurd]<;>grind
def eA:Int->Bool|.ofNat n=>Nat.ble n 9223372036854775807|.negSucc n=>Nat.ble n 9223372036854775807
def Ap{x:Int}(h:eA x=true):vO x:=by
 cases x with|ofNat n=>have:=Nat.le_of_ble_eq_true h;constructor<;>simp only[Int.ofNat_eq_natCast]<;>omega|negSucc n=>have:=Nat.le_of_ble_eq_true h;constructor<;>omega
def fA:Int->Int->Bool|.ofNat m,.ofNat n=>Nat.blt m n|.negSucc m,.negSucc n=>Nat.blt n m|.negSucc _,.ofNat _=>true|.ofNat _,.negSucc _=>false
theorem sJ(m n:Nat):Nat.blt m n=decide (m<n):=by
 grind[Nat.blt,Nat.le_of_ble_eq_true,decide_eq_true,decide_eq_false,Nat.ble,Nat.ble_eq_true_of_le]
theorem WB(a b:Int):fA a b=decide (a<b):=by
 cases a<;>cases b<;>simp only[fA]
 ·rw[sJ];simp
 ·rfl
 ·grind
 grind[sJ]
def mB:Int->Int->Bool|.ofNat m,.ofNat n=>Nat.beq m n|.negSucc m,.negSucc n=>Nat.beq m n|_,_=>false
def Xd(m n:Nat):Nat.beq m n=decide (m=n):=by
 grind[NE,MK]
def aI(a b:Int):mB a b=decide (a=b):=by
 cases a<;>cases b<;>simp only[mB]
 ·rw[Xd];grind
 ·rfl
 ·rfl
 simp[Xd]
def Got(o:Option R)(x:V):Prop:=∃q,o=some q/\q.cond/\q.out=x/\q.wr=none/\q.new=false
def bv(b:Bool):V:=.pv (.bool b)
def qH(x:Int):Option V:=bif eA x then some (.pv (.int x))else none
def PK(op:BinOp)(a b:Int):Option V:=match op with|.add=>qH (a+b)|.sub=>qH (a-b)|.mul=>qH (a*b)|.rem=>bif mB b 0 then none else some (.pv (.int (a.tmod b)))|.lss=>some (bv (fA a b))|.leq=>some (bv (!fA b a))|.gtr=>some (bv (fA b a))|.geq=>some (bv (!fA a b))|.eql=>some (bv (mB a b))|.neq=>some (bv (!mB a b))|_=>none
def Bp{op:BinOp}{a b:Int}{x:V}(h:PK op a b=some x):Got (JS op a b) x:=by
 have i:∀c:Int,qH c=some x->Got (some (R.ofIf (vO c) (.pv (.int c)))) x:=by
  intro c f;unfold qH at f
  cases e:eA c with
  |true=>rw[e]at f;cases f;exact⟨_,rfl,Ap e,rfl,rfl,rfl⟩
  |false=>rw[e]at f;cases f
 have g:∀c d:Bool,c=d->some (bv c)=some x->Got (qC d) x:=by
  intro c d e f;subst e;cases f;exact⟨_,rfl,trivial,rfl,rfl,rfl⟩
 cases op<;>simp only[PK]at h<;>try cases h<;>done
 case add=>exact i _ h
 case sub=>exact i _ h
 case mul=>exact i _ h
 case rem=>
  cases e:mB b 0 with
  |true=>rw[e]at h;cases h
  |false=>
   rw[e]at h;cases h;rw[aI]at e;exact⟨_,rfl,(show b≠0 by simp_all),rfl,rfl,rfl⟩
 case lss=>exact g _ _ (WB a b) h
 case leq=>exact g _ _ (by rw[WB];by_cases j:b<a<;>simp[j]<;>omega) h
 case gtr=>exact g _ _ (WB b a) h
 case geq=>exact g _ _ (by rw[WB];by_cases j:a<b<;>simp[j]<;>omega) h
 case eql=>exact g _ _ (aI a b) h
 case neq=>exact g _ _ (by rw[aI]) h
def Nat.leB(a b:Nat):Bool:=Nat.ble a b
def zC(n:Nat):List (List PV)->Bool|[]=>true|y::r=>bif Nat.beq y.length n then zC n r else false
def LM{n:Nat}:∀{l:List (List PV)},zC n l=true->∀y∈l,y.length=n
 |[],_,_,h=>by cases h
 |y::r,h,z,a=>by
  unfold zC at h
  cases e:Nat.beq y.length n with
  |false=>rw[e]at h;cases h
  |true=>
   rw[e]at h;rcases List.mem_cons.1 a with rfl|a
   ·simp_all
   exact LM h z a
def oC(n:Nat):List (List V)->Bool|[]=>true|y::r=>bif Nat.beq y.length n then oC n r else false
def BQ{n:Nat}:∀{l:List (List V)},oC n l=true->∀y∈l,y.length=n
 |[],_,_,h=>by cases h
 |y::r,h,z,a=>by
  unfold oC at h
  cases e:Nat.beq y.length n with
  |false=>rw[e]at h;cases h
  |true=>
   rw[e]at h;rcases List.mem_cons.1 a with rfl|a
   ·simp_all
   exact BQ h z a
def MM:List V->Bool|[]=>true|y::r=>bif y.one then MM r else false
def CQ:∀{l:List V},MM l=true->l.all V.one=true
 |[],_=>rfl|y::r,h=>by
  unfold MM at h
  cases e:y.one with
  |false=>rw[e]at h;cases h
  |true=>rw[e]at h;simp only[List.all_cons,e,Bool.true_and];exact CQ h
def mC:List (List V)->Bool|[]=>true|y::r=>bif MM y then mC r else false
def DQ:∀{l:List (List V)},mC l=true->∀y∈l,y.all V.one=true
 |[],_,_,h=>by cases h
 |y::r,h,z,a=>by
  unfold mC at h
  cases e:MM y with
  |false=>rw[e]at h;cases h
  |true=>
   rw[e]at h;rcases List.mem_cons.1 a with rfl|a
   ·exact CQ e
   exact DQ h z a
def dT(agg:Bool)(n:Nat)(a:List PV):Option V:=match agg with
 |true=>match cO a n with|some l=>some (.pv (.agg l))|none=>none
 |false=>match a with|c::_=>some (.pv c)|[]=>none
def Yd{agg:Bool}{n:Nat}{a:List PV}{x:V}(h:dT agg n a=some x):Got (kQ agg n a) x:=by
 unfold dT at h
 cases agg with
 |true=>
  simp only[uT]at h;by_cases e:n<=a.length
  ·rw[if_pos e]at h;cases h;exact⟨_,rfl,e,rfl,rfl,rfl⟩
  simp_all
 |false=>
  cases a with
  |nil=>cases h
  |cons c a=>cases h;exact⟨_,rfl,trivial,rfl,rfl,rfl⟩
def EQ:List V->Option (List PV)
 |[]=>some []|c::a=>match c with
  |.pv p=>match EQ a with|some r=>some (p::r)|none=>none
  |_=>none
def DX:∀(l:List V),EQ l=tE l
 |[]=>rfl|c::a=>by
  cases c<;>simp only[EQ,tE,V.un,DX a]
  grind
def GQ(a:List V):V:=match EQ a with|some b=>.pv (.agg b)|none=>.agg a
def EX(a:List V):GQ a=WG a:=by unfold GQ WG;rw[DX];cases tE a<;>rfl
def HQ(agg:Bool)(n:Nat)(a:List V):Option V:=match agg with
 |true=>match cO a n with|some l=>some (GQ l)|none=>none
 |false=>match a with|c::_=>some c|[]=>none
def Zd(agg:Bool)(n:Nat)(a:List V):HQ agg n a=fI agg n a:=by
 unfold HQ fI
 cases agg with
 |true=>
  simp only[if_true,uT,EX]
  grind
 |false=>rfl
def FX(a:TI)(d:Nat->Option Ob)(x:V):Option V:=match x with
 |.pv (.ptr b)=>dT a.isAgg a.size b|.pv (.nptr b)=>dT a.isAgg a.size b|.loc n off=>match d n with|some (.box b)=>HQ a.isAgg a.size (NK b off)|_=>none
 |.eloc n c i off=>match d n with
  |some (.arr b _ _ d)=>match VB d i with|some e=>bif Nat.beq c b then HQ a.isAgg a.size (NK e off)else none|none=>none
  |_=>none
 |_=>none
def Cp{d:TI}{f:Nat->Option Ob}{x y:V}(h:FX d f x=some y):Got (eM d f x) y:=by
 unfold FX at h;unfold eM;split at h
 ·exact Yd h
 ·exact Yd h
 ·split at h
  ·rename_i j e;rw[Zd,yT]at h;simp only[e,h];exact⟨_,rfl,trivial,rfl,rfl,rfl⟩
  cases h
 ·rename_i n b i off;split at h
  ·rename_i a k l m e;rw[NH]at h;split at h
   ·rename_i o g
    cases c:Nat.beq b a with
    |false=>rw[c]at h;cases h
    |true=>
     rw[c]at h;simp only[cond_true]at h;rw[Zd,yT]at h;simp only[e,g,h];exact⟨_,rfl,Nat.eq_of_beq_eq_true c,rfl,rfl,rfl⟩
   cases h
  cases h
 cases h
def yG(o:Option R)(r:RB):Prop:=∃q,o=some q/\q.cond/\q.out=r.x/\q.wr=r.wr/\q.new=r.new
def Got.r{o:Option R}{x:V}(h:Got o x):yG o ⟨x,none,false⟩:=h
def jB{α:Type}{c:Bool}{a:Option α}{x:α}(h:(bif c then a else none)=some x):c=true/\a=some x:=by
 grind
def uG{m n:Nat}(h:Nat.blt m n=true):m<n:=by rw[sJ]at h;exact of_decide_eq_true h
def IQ(q:PV)(y:V):Option RB:=match q with
 |.nptr a=>match a with
  |c::_=>match c with
   |.flg p=>match y with
    |.pv z=>match z with|.bool b=>bif (bif b then p else true)then some ⟨.undef,none,false⟩else none|_=>none
    |_=>none
   |_=>none
  |[]=>none
 |_=>none
def je{q:PV}{y:V}{r:RB}(h:IQ q y=some r):∃p l b,q=.nptr (.flg p::l)/\y=.pv (.bool b)/\(b=true->p=true)/\r=⟨.undef,none,false⟩:=by
 unfold IQ at h;split at h
 ·grind
 cases h
def NM(c:TI)(a:Nat->Option Ob)(x y:V):Option RB:=match zG y with
 |none=>none|some b=>bif Nat.beq b.length c.size then(bif MM b then(match x with
  |.loc n off=>match a n with
   |some (.box c)=>match tI c off b with|some r=>some ⟨.undef,some (n,.box r),false⟩|none=>none
   |_=>none
  |.eloc n c i off=>match a n with
   |some (.arr a d g f)=>bif Nat.beq c a then(bif Nat.ble (off+b.length) d then(match VB f i with
    |some e=>some ⟨.undef,some (n,.arr a d g (f.set i (zE e off b))),false⟩|none=>none)else none)else none
   |_=>none
  |.pv q=>IQ q y|_=>none)else none)else none
def we{k:TI}{m:Nat->Option Ob}{x y:V}{r:RB}(h:NM k m x y=some r):yG (iM k m x y) r:=by
 unfold NM at h;unfold iM;split at h
 ·cases h
 rename_i v o;have a:=(jB h).1;replace h:=(jB h).2;have s:=(jB h).1;replace h:=(jB h).2;have a:=Nat.eq_of_beq_eq_true a;simp only[o];split at h
 ·rename_i n off;split at h
  ·rename_i w c;split at h
   ·rename_i q z;cases h;obtain⟨d,f⟩:=bT w off v q z;simp only[c];exact⟨_,rfl,⟨a,d,CQ s⟩,rfl,by rw[f];rfl,rfl⟩
   cases h
  cases h
 ·rename_i n A i off;split at h
  ·rename_i t D E u c;have d:=(jB h).1;replace h:=(jB h).2;have f:=(jB h).1;replace h:=(jB h).2;split at h
   ·rename_i e g;cases h;rw[NH]at g;have j:i<u.length:=(List.getElem?_eq_some_iff.1 g).1;have B:u.getD i []=e:=by rw[List.getD_eq_getElem?_getD,g];rfl
    simp only[c];exact⟨_,rfl,⟨Nat.eq_of_beq_eq_true d,j,a,Nat.le_of_ble_eq_true f,CQ s⟩,rfl,by rw[B],rfl⟩
   cases h
  cases h
 ·obtain⟨p,l,b,rfl,rfl,C,rfl⟩:=je h;refine⟨_,rfl,⟨?_,C⟩,rfl,rfl,rfl⟩;cases o;exact a.symm
 cases h
def OE:Int->Option Nat|.ofNat n=>some n|.negSucc _=>none
theorem QK{i:Int}{n:Nat}(h:OE i=some n):i=n:=by
 cases i with|ofNat k=>grind[OE,Option.some.injEq]|negSucc k=>cases h
def fT(T:Nat->Option TI)(b:Nat->Option Ob)(t:Nat)(x i:V):Option V:=match i with
 |.pv (.int z)=>match OE z with
  |some k=>match T t with
   |some ⟨.slice e,_,_,_,_⟩=>match T e with
    |some c=>match x with
     |.pv (.slice d)=>match VB d k with|some e=>bif zC c.size d then some (.pv (.ptr e))else none|none=>none
     |.arr n a len=>match b n with|some (.arr b f _ d)=>bif Nat.beq a b then(bif Nat.blt k len then(bif Nat.beq f c.size then(bif Nat.ble len d.length then some (.eloc n a k 0)else none)else none)else none)else none|_=>none
     |_=>none
    |none=>none
   |some ⟨.array m e,_,_,_,_⟩=>match T e with|some c=>bif Nat.blt k m then AK x (k*c.size)else none|none=>none
   |_=>none
  |none=>none
 |_=>none
def Dp{T:Nat->Option TI}{p:Nat->Option Ob}{t:Nat}{x i y:V}(h:fT T p t x i=some y):Got (xM T p t x i) y:=by
 unfold fT at h;unfold xM;split at h
 ·rename_i z;split at h
  ·rename_i k s;have u:=QK s;subst u;simp only[Int.toNat_natCast];split at h
   ·rename_i e a b c d g;simp only[g];split at h
    ·rename_i v f;simp only[f];split at h
     ·rename_i j;split at h
      ·rename_i w l;obtain⟨n,h⟩:=jB h;cases h;rw[NH]at l;have A:k<j.length:=(List.getElem?_eq_some_iff.1 l).1;have B:j.getD k []=w:=by rw[List.getD_eq_getElem?_getD,l];rfl
       refine⟨_,rfl,?_,by rw[B];rfl,rfl,rfl⟩;exact⟨by omega,by omega,LM n⟩
      cases h
     ·split at h
      ·rename_i r F G j C;obtain⟨o,h⟩:=jB h;obtain⟨n,h⟩:=jB h;obtain⟨D,h⟩:=jB h;obtain⟨E,h⟩:=jB h;cases h;simp only[C];refine⟨_,rfl,?_,rfl,rfl,rfl⟩;exact⟨Nat.eq_of_beq_eq_true o,by omega,by have:=uG n;omega,Nat.eq_of_beq_eq_true D,Nat.le_of_ble_eq_true E⟩
      cases h
     cases h
    cases h
   ·rename_i m e a b c d g;simp only[g];split at h
    ·rename_i v f;obtain⟨o,h⟩:=jB h;simp only[f,h];refine⟨_,rfl,?_,rfl,rfl,rfl⟩;exact⟨by omega,by have:=uG o;omega⟩
    cases h
   cases h
  cases h
 cases h
def GX(c:Nat->Option Ob)(x:V):Option V:=match x with
 |.pv (.slice a)=>some (.pv (.int (.ofNat a.length)))|.pv .nils=>some (.pv (.int 0))|.gsl _ _ a=>some (.pv (.int (.ofNat a.length)))|.arr n b len=>match c n with|some (.arr a _ _ _)=>bif Nat.beq b a then some (.pv (.int (.ofNat len)))else none|_=>none
 |_=>none
def Ep{a:Nat->Option Ob}{x y:V}(h:GX a x=some y):Got (AM a x) y:=by
 unfold GX at h;unfold AM;split at h
 ·cases h;exact⟨_,rfl,trivial,rfl,rfl,rfl⟩
 ·cases h;exact⟨_,rfl,trivial,rfl,rfl,rfl⟩
 ·cases h;exact⟨_,rfl,trivial,rfl,rfl,rfl⟩
 ·split at h
  ·rename_i b e f g c;obtain⟨d,h⟩:=jB h;cases h;simp only[c];exact⟨_,rfl,Nat.eq_of_beq_eq_true d,rfl,rfl,rfl⟩
  cases h
 cases h
def l8:V->Bool|.pv .nils=>true|_=>false
def OM(e:Nat)(c:TI)(i:Nat->Option Ob)(j:Nat)(x y:V):Option RB:=match x with
 |.arr n b len=>match i n,FH y with
  |some (.arr f g h d),some a=>bif Nat.beq b f&&Nat.ble len d.length&&Nat.beq h e&&Nat.beq g c.size&&Nat.blt 0 g&&oC g a&&mC a&&Nat.ble (len+a.length) maxLen&&Nat.ble ((len+a.length)*c.bytes) 140737488355328 then
    some ⟨.arr n (b+1) (len+a.length),some (n,.arr (b+1) g h (d.take len++a)),false⟩else none
  |_,_=>none
 |.gsl n b _=>match i n with
  |some (.grow f g h d)=>match y with
   |.pv (.slice a)=>bif Nat.beq b f&&Nat.beq h e&&Nat.beq g c.size&&Nat.blt 0 g&&zC g a&&mC (kA a)&&Nat.ble (d.length+a.length) maxLen&&Nat.ble ((d.length+a.length)*c.bytes) 140737488355328 then
    some ⟨.gsl n (b+1) (d++a),some (n,.grow (b+1) g h (d++a)),false⟩else none
   |_=>none
  |_=>none
 |.fsl d=>match y with
  |.pv (.slice (y::a))=>bif zC c.size d&&zC c.size (y::a)&&Nat.blt 0 c.size&&Nat.ble (d.length+(y::a).length) maxLen&&Nat.ble ((d.length+(y::a).length)*c.bytes) 140737488355328 then
    some ⟨.pv (.slice (d++y::a)),none,false⟩else none
  |_=>none
 |.pv .nils=>match FH y with
  |some a=>bif Nat.blt 0 c.size&&oC c.size a&&mC a&&Nat.ble a.length maxLen&&Nat.ble (a.length*c.bytes) 140737488355328 then
    some ⟨.arr j 1 a.length,some (j,.arr 1 c.size e a),true⟩else none
  |none=>none
 |_=>none
def Fp{e:Nat}{j:TI}{v:Nat->Option Ob}{k:Nat}{xo:Operand}{x y:V}{r:RB}(h:OM e j v k x y=some r):
  ∃note,yG (gI e j v note xo x y) r/\(r.new=true->∃o,r.wr=some (k,o)):=by
 unfold OM at h;split at h
 ·rename_i n l len;split at h
  ·rename_i i w z A B m p;obtain⟨a,h⟩:=jB h;cases h;simp only[Bool.and_eq_true]at a;obtain⟨⟨⟨⟨⟨⟨⟨⟨b,c⟩,d⟩,f⟩,g⟩,s⟩,t⟩,u⟩,C⟩:=a;refine⟨.none,?_,by simp⟩;simp only[gI,m,p];exact⟨_,rfl,⟨Nat.eq_of_beq_eq_true b,Nat.le_of_ble_eq_true c,Nat.eq_of_beq_eq_true d,Nat.eq_of_beq_eq_true f,uG g,BQ s,DQ t,Nat.le_of_ble_eq_true u,Nat.le_of_ble_eq_true C⟩,rfl,rfl,rfl⟩
  cases h
 ·rename_i n l D;split at h
  ·rename_i i w z A m;split at h
   ·obtain⟨a,h⟩:=jB h;cases h;simp only[Bool.and_eq_true]at a;obtain⟨⟨⟨⟨⟨⟨⟨b,c⟩,d⟩,f⟩,g⟩,s⟩,t⟩,u⟩:=a;refine⟨.none,?_,by simp⟩;simp only[gI,m];exact⟨_,rfl,⟨⟨Nat.eq_of_beq_eq_true b,Nat.eq_of_beq_eq_true c,Nat.eq_of_beq_eq_true d,uG f⟩,LM g,DQ s,Nat.le_of_ble_eq_true t,Nat.le_of_ble_eq_true u⟩,rfl,rfl,rfl⟩
   cases h
  cases h
 ·split at h
  ·obtain⟨a,h⟩:=jB h;cases h;simp only[Bool.and_eq_true]at a;obtain⟨⟨⟨⟨b,c⟩,d⟩,f⟩,g⟩:=a;refine⟨.none,?_,by simp⟩;exact⟨_,rfl,⟨LM b,LM c,uG d,by simp,Nat.le_of_ble_eq_true f,Nat.le_of_ble_eq_true g⟩,rfl,rfl,rfl⟩
  cases h
 ·split at h
  ·rename_i B p;obtain⟨a,h⟩:=jB h;cases h;simp only[Bool.and_eq_true]at a;obtain⟨⟨⟨⟨b,c⟩,d⟩,f⟩,g⟩:=a;refine⟨.arr k j.size e,?_,λ_=>⟨_,rfl⟩⟩;simp only[gI,p];exact⟨_,rfl,⟨by first|rfl|trivial,by first|rfl|trivial,uG b,BQ c,DQ d,Nat.le_of_ble_eq_true f,Nat.le_of_ble_eq_true g⟩,rfl,rfl,rfl⟩
  cases h
 cases h
def JQ(b:TI)(c:Nat->Option Ob)(x:V)(f d e:Option V):Option V:=match x,f,d,e with
 |.pv (.slice a),some (.pv (.int l)),none,none=>match OE l with|some k=>bif Nat.ble k a.length&&zC b.size a then some (.pv (.slice (a.drop k)))else none|none=>none
 |.pv (.slice a),none,some (.pv (.int h)),none=>match OE h with|some k=>bif Nat.ble k a.length then some (.pv (.slice (a.take k)))else none|none=>none
 |.arr n b len,none,some (.pv (.int h)),none=>match OE h,c n with|some k,some (.arr c _ _ _)=>bif Nat.beq b c&&Nat.ble k len then some (.arr n b k)else none|_,_=>none
 |.pv (.slice a),none,some (.pv (.int h)),some (.pv (.int m))=>match OE h,OE m with|some k,some l=>bif Nat.beq k a.length&&Nat.beq l a.length then some (.fsl a)else none|_,_=>none
 |.pv .nils,f,d,e=>bif dJ f&&dJ d&&dJ e&&(!e.isSome||d.isSome)then some (.pv .nils)else none|_,_,_,_=>none
def Gp{e:TI}{f:Nat->Option Ob}{x y:V}{g i j:Option V}(h:JQ e f x g i j=some y):Got (BM e f x g i j) y:=by
 unfold JQ at h;unfold BM;split at h
 ·split at h
  ·rename_i k b;have c:=QK b;subst c;obtain⟨a,h⟩:=jB h;cases h;simp only[Bool.and_eq_true]at a;have d:=Nat.le_of_ble_eq_true a.1;refine⟨_,rfl,?_,by rfl,rfl,rfl⟩;exact⟨by omega,by omega,LM a.2⟩
  cases h
 ·split at h
  ·rename_i k b;have c:=QK b;subst c;obtain⟨a,h⟩:=jB h;cases h;have d:=Nat.le_of_ble_eq_true a;refine⟨_,rfl,?_,by rfl,rfl,rfl⟩;exact⟨by omega,by omega⟩
  cases h
 ·split at h
  ·rename_i k m r s t b n;have c:=QK b;subst c;obtain⟨a,h⟩:=jB h;cases h;simp only[Bool.and_eq_true]at a;have d:=Nat.le_of_ble_eq_true a.2;simp only[n];refine⟨_,rfl,?_,by rfl,rfl,rfl⟩;exact⟨Nat.eq_of_beq_eq_true a.1,by omega,by omega⟩
  cases h
 ·split at h
  ·rename_i k l b o;have c:=QK b;have p:=QK o;obtain⟨a,h⟩:=jB h;cases h;simp only[Bool.and_eq_true]at a;have d:=Nat.eq_of_beq_eq_true a.1;have u:=Nat.eq_of_beq_eq_true a.2;refine⟨_,rfl,?_,rfl,rfl,rfl⟩;exact⟨by omega,by omega⟩
  cases h
 ·obtain⟨a,h⟩:=jB h;cases h;simp only[a,cond_true];exact⟨_,rfl,trivial,rfl,rfl,rfl⟩
 cases h
def LQ(b:List (Nat×Nat))(cells:List V):List (Nat×V)->Option (List V)
 |[]=>some cells|(i,x)::a=>match VB b i with
  |some (off,size)=>match zG x with
   |some c=>bif Nat.beq c.length size then(match tI cells off c with
    |some r=>LQ b r a|none=>none)else none
   |none=>none
  |none=>none
def IX{c:List (Nat×Nat)}:∀{l:List (Nat×V)}{cells a:List V},LQ c cells l=some a->XG c cells l=some a
 |[],_,_,h=>h|(i,x)::d,cells,a,h=>by
  unfold LQ at h;unfold XG;rw[NH]at h;split at h
  ·rename_i off size f;split at h
   ·rename_i e g;obtain⟨b,h⟩:=jB h;have b:=Nat.eq_of_beq_eq_true b;split at h
    ·rename_i r j;obtain⟨m,k⟩:=bT cells off e r j;simp only[f,g];rw[if_pos ⟨b,by omega⟩];have:zE cells off e=r:=by rw[k];rfl
     rw[this];exact IX h
    cases h
   cases h
  cases h
def gT:Nat->List (Nat×V)->Option (List (List V))
 |_,[]=>some []|k,(i,x)::a=>bif Nat.beq i k then(match zG x with
   |some b=>match gT (Nat.succ k) a with|some a=>some (b::a)|none=>none
   |none=>none)else none
def JX:∀{l:List (Nat×V)}{k:Nat}{a:List (List V)},gT k l=some a->cM k l=some a
 |[],_,_,h=>h|(i,x)::b,k,a,h=>by
  unfold cM;obtain⟨c,h⟩:=jB h;rw[if_pos (Nat.eq_of_beq_eq_true c)];split at h
  ·rename_i g d;split at h
   ·rename_i e f;cases h;simp only[d,JX f]
   cases h
  cases h
def mT(e:Nat)(b:TI)(c len:Nat)(a:List (List V)):Option RB:=
 bif Nat.beq a.length len&&Nat.ble len 16777216&&Nat.ble (len*b.size) 16777216&&oC b.size a then(match jG a with
  |some d=>some ⟨.pv (.slice d),none,false⟩|none=>some ⟨.arr c 0 len,some (c,.arr 0 b.size e a),true⟩)else none
def Ip{e:Nat}{a:TI}{b len:Nat}{c:List (List V)}{r:RB}(h:mT e a b len c=some r):∃note,yG (JW e a note len c) r/\(r.new=true->∃o,r.wr=some (b,o)):=by
 obtain⟨d,h⟩:=jB h;simp only[Bool.and_eq_true]at d;obtain⟨⟨⟨g,i⟩,j⟩,k⟩:=d;have f:=And.intro (Nat.eq_of_beq_eq_true g) (And.intro (Nat.le_of_ble_eq_true i) (And.intro (Nat.le_of_ble_eq_true j) (BQ k)));split at h
 ·rename_i m l;cases h;refine⟨.none,⟨_,rfl,f,?_,rfl,rfl⟩,by simp⟩;simp[R.ofIf,jO,l]
 cases h;exact⟨.arr b a.size e,⟨_,rfl,⟨f,rfl,rfl⟩,rfl,rfl,rfl⟩,λ_=>⟨_,rfl⟩⟩
def KX(T:Nat->Option TI)(a t:Nat):Option RB:=match T t with|some b=>some ⟨.loc a 0,some (a,.box (iA b.zc)),true⟩|none=>none
def LX(a:Nat)(x:V):Option RB:=match zG x with|some b=>bif MM b then some ⟨.loc a 0,some (a,.box b),true⟩else none|none=>none
def MX(T:Nat->Option TI)(t:Nat)(c:List (Nat×V)):Option V:=match T t with
 |some ⟨.struct b _,_,_,_,a⟩=>match LQ b (iA a) c with|some b=>some (GQ b)|none=>none
 |some ⟨.array m e,_,_,_,a⟩=>match T e with
  |some d=>match LQ (xK d.size m 0) (iA a) c with|some b=>some (GQ b)|none=>none
  |none=>none
 |_=>none
def ye(x:V)(i:Nat):Option V:=match x with
 |.pv (.tuple a)=>match VB a i with|some c=>some (.pv c)|none=>none
 |.tuple a=>VB a i|_=>none
def zH:IntKind->IntKind->Bool|.u8,.u8=>true|.u32,.u32=>true|.i32,.i32=>true|_,_=>false
def Jp{a b:IntKind}(h:zH a b=true):a=b:=by cases a<;>cases b<;>first|rfl|cases h
def OX(x:Int):Option Int:=bif eA x then some x else none
def PE(k:IntKind)(x:Int):Option V:=match OX x with|some y=>some (.pv (.num k y))|none=>none
def nT{k:IntKind}{x:Int}{v:V}(h:PE k x=some v):v=.pv (.num k x):=by
 grind[PE,OX]
def PM(op:BinOp)(k:IntKind)(a b:Int):Option V:=match op with|.add=>PE k (k.wrap (a+b))|.sub=>PE k (k.wrap (a-b))|.and=>PE k (OA .and k a b)|.or=>PE k (OA .or k a b)|.andNot=>PE k (OA .andNot k a b)|.lss=>some (bv (fA a b))|.leq=>some (bv (!fA b a))|.gtr=>some (bv (fA b a))|.geq=>some (bv (!fA a b))|.eql=>some (bv (mB a b))|.neq=>some (bv (!mB a b))|_=>none
def Mp{op:BinOp}{k:IntKind}{a b:Int}{x:V}(h:PM op k a b=some x):Got (KS op k a b) x:=by
 have f:∀c d:Bool,c=d->some (bv c)=some x->Got (qC d) x:=by
  intro c d e i;subst e;cases i;exact⟨_,rfl,trivial,rfl,rfl,rfl⟩
 have g:∀c:Int,PE k c=some x->Got (some (R.of (.pv (.num k c)))) x:=by
  intro c i;rw[nT i];exact⟨_,rfl,trivial,rfl,rfl,rfl⟩
 cases op<;>simp only[PM]at h<;>try cases h<;>done
 case add=>exact g _ h
 case sub=>exact g _ h
 case and=>exact g _ h
 case or=>exact g _ h
 case andNot=>exact g _ h
 case lss=>exact f _ _ (WB a b) h
 case leq=>exact f _ _ (by rw[WB];by_cases j:b<a<;>simp[j]<;>omega) h
 case gtr=>exact f _ _ (WB b a) h
 case geq=>exact f _ _ (by rw[WB];by_cases j:a<b<;>simp[j]<;>omega) h
 case eql=>exact f _ _ (aI a b) h
 case neq=>exact f _ _ (by rw[aI]) h
def eO(op:BinOp)(k:IntKind)(a n:Int):Option V:=match op with|.shl=>bif fA n 0 then none else PE k (k.wrap (a*2^(min n.toNat k.bits)))|.shr=>bif fA n 0 then none else PE k (a.fdiv (2^(min n.toNat k.bits)))|_=>none
def Np{op:BinOp}{k:IntKind}{a n:Int}{x:V}(h:eO op k a n=some x):Got (LS op k a n) x:=by
 have d:∀c:Int,(bif fA n 0 then none else PE k c)=some x->Got (some (R.ofIf (0<=n) (.pv (.num k c)))) x:=by
  intro c b
  cases e:fA n 0 with
  |true=>rw[e]at b;cases b
  |false=>
   rw[e]at b;rw[nT b];rw[WB]at e;exact⟨_,rfl,(show 0<=n by simp_all),rfl,rfl,rfl⟩
 cases op<;>simp only[eO]at h<;>try cases h<;>done
 case shl=>exact d _ h
 case shr=>exact d _ h
def QM(k:TK)(op:BinOp)(x y:V)(c:Operand):Option V:=match x,y with
 |.pv (.int a),.pv (.int b)=>PK op a b|.pv (.num j a),.pv (.num d b)=>bif zH j d then PM op j a b else none|.pv (.num j a),.pv (.int n)=>eO op j a n|.pv (.str a),.pv (.str b)=>match op with|.eql=>some (bv (XE a b))|.neq=>some (bv (!XE a b))|_=>none
 |x,y=>match op with
  |.eql=>match kO k x y c with|some b=>some (bv b)|none=>none
  |.neq=>match kO k x y c with|some b=>some (bv (!b))|none=>none
  |_=>none
def Pp{k:TK}{op:BinOp}{x y z:V}{a:Operand}(h:QM k op x y a=some z):Got (yO k op x y a) z:=by
 have d:∀c:Bool,some (bv c)=some z->Got (qC c) z:=by
  intro c e;cases e;exact⟨_,rfl,trivial,rfl,rfl,rfl⟩
 unfold QM at h;split at h
 ·exact Bp h
 ·have f:=Jp (jB h).1;replace h:=(jB h).2;subst f;simp only[yO,if_true];exact Mp h
 ·exact Np h
 ·split at h
  ·exact d _ h
  ·exact d _ h
  cases h
 have key:∀b,kO k x y a=some b->((op=.eql/\z=bv b)\/(op=.neq/\z=bv (!b)))->Got (yO k op x y a) z:=by
  unfold yO
  grind
 grind
def MQ:Bool->Bool->Bool|true,b=>b|false,true=>false|false,false=>true
def pT{a b:Bool}(h:MQ a b=true):a=b:=by cases a<;>cases b<;>first|rfl|cases h
def rT(s:Bool)(b:Nat->Option Ob)(m k v:V):Option RB:=match m with
 |.map n=>match uO k with
  |some a=>match b n with|some (.smap b c)=>bif MQ b s&&MQ a.kind s then some ⟨.undef,some (n,.smap b (jE c a v)),false⟩else none|_=>none
  |none=>none
 |_=>none
def sT{s:Bool}{b:Nat->Option Ob}{m k v:V}{r:RB}(h:rT s b m k v=some r):yG (fJ s b m k v) r/\r.new=false/\∃n,(∃o,r.wr=some (n,o))/\(b n).isSome=true:=by
 unfold rT at h;split at h
 ·rename_i n;split at h
  ·rename_i a e;split at h
   ·rename_i f g d;have c:=(jB h).1;cases (jB h).2;simp only[Bool.and_eq_true]at c;refine⟨?_,rfl,n,⟨_,rfl⟩,by rw[d];rfl⟩;simp only[fJ,e,d];exact⟨_,rfl,⟨pT c.1,pT c.2⟩,rfl,rfl,rfl⟩
   cases h
  cases h
 cases h
def QX(s ok:Bool)(z:PV)(b:Nat->Option Ob)(m k:V):Option V:=match m with
 |.map n=>match uO k with
  |some a=>match b n with
   |some (.smap b c)=>bif MQ b s&&MQ a.kind s then(match aF c a,ok with
    |some x,true=>some (.tuple [x,.pv (.bool true)])|none,true=>some (.pv (.tuple [z,.bool false]))|some x,false=>some x|none,false=>some (.pv z))else none
   |_=>none
  |none=>none
 |_=>none
def Rp{s ok:Bool}{z:PV}{c:Nat->Option Ob}{m k x:V}(h:QX s ok z c m k=some x):Got (CK s ok z c m k) x:=by
 unfold QX at h;split at h
 ·split at h
  ·rename_i a d;split at h
   ·rename_i i e f;have b:=(jB h).1;replace h:=(jB h).2;simp only[Bool.and_eq_true]at b;simp only[CK,d,f];refine⟨_,rfl,⟨pT b.1,pT b.2⟩,?_,rfl,rfl⟩;cases g:aF e a<;>cases ok<;>rw[g]at h<;>cases h<;>rfl
   cases h
  cases h
 cases h
def RX:V->Option V|.pv (.str l)=>some (.pv (.int (.ofNat l.length)))|_=>none
def Sp{x y:V}(h:RX x=some y):Got (LW x) y:=by
 unfold RX at h;split at h
 ·cases h;exact⟨_,rfl,trivial,rfl,rfl,rfl⟩
 cases h
def TX(x i:V):Option V:=match x with
 |.pv (.str l)=>match i with
  |.pv (.int z)=>match OE z with
   |some k=>match VB l k with|some b=>some (.pv (.num .u8 (.ofNat b)))|none=>none
   |none=>none
  |_=>none
 |_=>none
def Tp{x i y:V}(h:TX x i=some y):Got (MW x i) y:=by
 unfold TX at h;split at h
 ·rename_i l;split at h
  ·split at h
   ·rename_i k c;have d:=QK c;subst d;split at h
    ·rename_i b a;cases h;rw[NH]at a;have e:k<l.length:=(List.getElem?_eq_some_iff.1 a).1;have f:l.getD k 0=b:=by rw[List.getD_eq_getElem?_getD,a];rfl
     refine⟨_,rfl,⟨by omega,by omega⟩,?_,rfl,rfl⟩;simp only[R.ofIf,Int.toNat_natCast,f];rfl
    cases h
   cases h
  cases h
 cases h
def tT(d:Nat):Option V->Option Nat|none=>some d|some (.pv (.int k))=>OE k|_=>none
def ue{d n:Nat}{x:Option V}(h:tT d x=some n):lJ (d:Int) x=some (n:Int):=by
 unfold tT at h
 grind[lJ,QK]
def UX(x:V)(c d e:Option V):Option V:=match x with
 |.pv (.str l)=>match e with
  |none=>match tT 0 c,tT l.length d with
   |some a,some b=>bif Nat.ble a b&&Nat.ble b l.length then(match cO (NK l a) (b-a)with
    |some r=>some (.pv (.str r))|none=>none)else none
   |_,_=>none
  |some _=>none
 |_=>none
def Up{x y:V}{e j k:Option V}(h:UX x e j k=some y):Got (NS x e j k) y:=by
 unfold UX at h;split at h
 ·split at h
  ·split at h
   ·rename_i a b l m;have f:=(jB h).1;replace h:=(jB h).2;simp only[Bool.and_eq_true]at f;have n:=Nat.le_of_ble_eq_true f.1;have o:=Nat.le_of_ble_eq_true f.2;split at h
    ·rename_i r d;cases h;rw[uT,yT]at d;split at d
     ·cases d;have g:=ue l;have i:=ue m;have c:lJ 0 e=some (a:Int):=g;simp only[NS,c,i];refine⟨_,rfl,⟨by omega,by omega,by omega⟩,?_,rfl,rfl⟩;simp[R.ofIf]
     cases d
    cases h
   cases h
  cases h
 cases h
def aT(a:Nat):V->Option RB|.pv (.str l)=>some ⟨.loc a 0,some (a,.siter l 0),true⟩|_=>none
def VX(a:Nat->Option Ob):V->Option RB
 |.loc n 0=>match a n with
  |some (.siter l p)=>match VB l p with|some b=>bif Nat.blt b 128 then some ⟨.pv (.tuple [.bool true,.int (.ofNat p),.num .i32 (.ofNat b)]),some (n,.siter l (p+1)),false⟩else none|none=>some ⟨.pv (.tuple [.bool false]),none,false⟩
  |_=>none
 |_=>none
def be{a:Nat->Option Ob}{x:V}{r:RB}(h:VX a x=some r):yG (bO a x) r/\r.new=false/\∀n o,r.wr=some (n,o)->(a n).isSome=true:=by
 unfold VX at h;split at h
 ·split at h
  ·rename_i l p d;rw[NH]at h;split at h
   ·rename_i b c;have f:=uG (jB h).1;cases (jB h).2;refine⟨?_,rfl,λg o e=>by simp_all⟩;simp only[bO,d,c];exact⟨_,rfl,f,rfl,rfl,rfl⟩
   rename_i c;cases h;refine⟨?_,rfl,λg o e=>by cases e⟩;simp only[bO,d,c];exact⟨_,rfl,trivial,rfl,rfl,rfl⟩
  cases h
 cases h
def WX(T:Nat->Option TI)(s t:Nat)(x:V):Option V:=match T s with
 |some _=>match T t with
  |some ⟨.num k,_,_,_,_⟩=>match x with|.pv (.num _ n)=>PE k (k.wrap n)|.pv (.int n)=>PE k (k.wrap n)|_=>none
  |some ⟨.int,_,_,_,_⟩=>match x with|.pv (.num _ n)=>qH (IntKind.i64.wrap n)|.pv (.int n)=>qH (IntKind.i64.wrap n)|_=>none
  |_=>none
 |none=>none
def XX(T:Nat->Option TI)(s t:Nat)(x:V):Option V:=match T s with
 |some ⟨.slice e,_,_,_,_⟩=>match T t with
  |some ⟨.str,_,_,_,_⟩=>match x with
   |.pv (.slice a)=>match T e with
    |some ⟨.num .u8,_,_,_,_⟩=>match hJ a with|some (b::l)=>some (.pv (.str (b::l)))|_=>none
    |_=>none
   |_=>none
  |_=>none
 |_=>none
def de{x:Int}{v:V}(h:qH x=some v):v=.pv (.int x):=by
 grind[qH]
def Vp{T:Nat->Option TI}{s t:Nat}{x y:V}:WX T s t x=some y->Got (match T s,T t,x with
  |some _,some ⟨.num k,_,_,_,_⟩,.pv (.num _ n)=>some (R.of (.pv (.num k (k.wrap n))))|some _,some ⟨.num k,_,_,_,_⟩,.pv (.int n)=>some (R.of (.pv (.num k (k.wrap n))))|some _,some ⟨.int,_,_,_,_⟩,.pv (.num _ n)=>some (R.of (.pv (.int (IntKind.i64.wrap n))))|some _,some ⟨.int,_,_,_,_⟩,.pv (.int n)=>some (R.of (.pv (.int (IntKind.i64.wrap n))))|some ⟨.slice e,_,_,_,_⟩,some ⟨.str,_,_,_,_⟩,.pv (.slice f)=>match T e,hJ f with|some ⟨.num .u8,_,_,_,_⟩,some (b::l)=>some (R.of (.pv (.str (b::l))))|_,_=>none
  |_,_,_=>none) y:=by
 intro h;unfold WX at h;split at h
 ·rename_i i f;split at h
  ·rename_i k a b c d g;split at h
   ·simp only[f,g];rw[nT h];exact⟨_,rfl,trivial,rfl,rfl,rfl⟩
   ·simp only[f,g];rw[nT h];exact⟨_,rfl,trivial,rfl,rfl,rfl⟩
   cases h
  ·rename_i a b c d g;split at h
   ·simp only[f,g];rw[de h];exact⟨_,rfl,trivial,rfl,rfl,rfl⟩
   ·simp only[f,g];rw[de h];exact⟨_,rfl,trivial,rfl,rfl,rfl⟩
   cases h
  cases h
 cases h
def Wp{T:Nat->Option TI}{s t:Nat}{x y:V}:XX T s t x=some y->Got (match T s,T t,x with
  |some _,some ⟨.num k,_,_,_,_⟩,.pv (.num _ n)=>some (R.of (.pv (.num k (k.wrap n))))|some _,some ⟨.num k,_,_,_,_⟩,.pv (.int n)=>some (R.of (.pv (.num k (k.wrap n))))|some _,some ⟨.int,_,_,_,_⟩,.pv (.num _ n)=>some (R.of (.pv (.int (IntKind.i64.wrap n))))|some _,some ⟨.int,_,_,_,_⟩,.pv (.int n)=>some (R.of (.pv (.int (IntKind.i64.wrap n))))|some ⟨.slice e,_,_,_,_⟩,some ⟨.str,_,_,_,_⟩,.pv (.slice a)=>match T e,hJ a with|some ⟨.num .u8,_,_,_,_⟩,some (b::l)=>some (R.of (.pv (.str (b::l))))|_,_=>none
  |_,_,_=>none) y:=by
 intro h;unfold XX at h;split at h
 ·rename_i a;split at h
  ·rename_i c;split at h
   ·split at h
    ·rename_i d;split at h
     ·rename_i f;cases h;simp only[a,c,d,f];exact⟨_,rfl,trivial,rfl,rfl,rfl⟩
     cases h
    cases h
   cases h
  cases h
 cases h
def YX(a:TI)(t:Nat)(ok:Bool)(x:V):Option V:=match x with
 |.pv (.iface b p)=>bif Nat.beq b t then(match ok with
   |true=>some (.pv (.tuple [p,.bool true]))|false=>some (.pv p))
  else(match ok with
   |true=>match gJ a with|some z=>some (.pv (.tuple [z,.bool false]))|none=>none
   |false=>none)
 |.pv .nilif=>match ok with
   |true=>match gJ a with|some z=>some (.pv (.tuple [z,.bool false]))|none=>none
   |false=>none
 |_=>none
def Xp{c:TI}{t:Nat}{ok:Bool}{x y:V}(h:YX c t ok x=some y):Got (MS c t ok x) y:=by
 unfold YX at h;unfold MS;split at h
 ·rename_i d p;simp only
  cases e:Nat.beq d t with
  |true=>
   rw[e]at h;rw[if_pos (Nat.eq_of_beq_eq_true e)];cases ok<;>cases h<;>exact⟨_,rfl,trivial,rfl,rfl,rfl⟩
  |false=>
   rw[e]at h;have a:¬d=t:=λf=>by rw[NE f]at e;cases e
   rw[if_neg a]
   cases ok with
   |false=>cases h
   |true=>
    simp only at h;split at h
    ·rename_i z b;cases h;simp only[b];exact⟨_,rfl,trivial,rfl,rfl,rfl⟩
    cases h
 ·cases ok with
  |false=>cases h
  |true=>
   simp only at h;split at h
   ·rename_i z b;cases h;simp only[b];exact⟨_,rfl,trivial,rfl,rfl,rfl⟩
   cases h
 cases h
def me(x:V):Option V:=match x with|.pv (.ptr a)=>some (.pv (.ptr a))|.pv (.nptr a)=>some (.pv (.nptr a))|.loc n off=>some (.loc n off)|.eloc n v i o=>some (.eloc n v i o)|_=>none
def ce(T:Nat->Option TI)(t f:Nat)(x:V):Option V:=match T t with
 |some ⟨.struct a _,_,_,_,_⟩=>match a[f]? with|some (off,size)=>bif Nat.beq size 0 then none else AK x off|none=>none
 |_=>none
def oe(T:Nat->Option TI)(t f:Nat)(x:V):Option V:=match T t with
 |some ⟨.struct a pl,_,_,_,_⟩=>bif pl.elem f then(match a[f]? with
  |some (off,_)=>(match x with
   |.pv (.agg a)=>(match a[off]? with|some c=>some (.pv c)|none=>none)|.agg a=>a[off]?|_=>none)
  |none=>none)else none
 |_=>none
def ro(x:Option V):Option RB:=match x with|some v=>some ⟨v,none,false⟩|none=>none
def nD(T:Nat->Option TI)(h:Nat)(val:Operand->V)(d:Nat->Option Ob)(j:Option Nat)(op:Op):Option RB:=match op with
 |.move x=>rb (val x)|.assign x=>rb (val x)|.pick c a b=>match val c with|.pv (.bool true)=>rb (val a)|.pv (.bool false)=>rb (val b)|_=>none
 |.alloc t=>KX T h t|.box _ x=>LX h (val x)|.build t parts=>ro (MX T t (parts.toList.map λp=>(p.1,val p.2)))|.makeFunc (.func f) first g=>match first.toList with
  |[]=>rb (.fn f (g.toList.map val))|a::l=>match g.toList with|[]=>rb (.bfn f ((a::l).map val))|_::_=>none
 |.buildSlice t len parts=>match T t with
  |some ⟨.slice e,_,_,_,_⟩=>match T e with
   |some l=>match gT 0 (parts.toList.map λp=>(p.1,val p.2))with|some g=>mT e l h len g|none=>none
   |none=>none
  |_=>none
 |.load t x=>match T t with|some g=>ro (FX g d (val x))|none=>none
 |.store t x y=>match j with
  |none=>match T t with|some g=>NM g d (val x) (val y)|none=>none
  |some _=>none
 |.nilCheck x=>ro (me (val x))|.binOp b t x y _=>match T t with|some g=>ro (QM g.k b (val x) (val y) y)|none=>none
 |.unOp .not _ x=>match val x with|.pv (.bool b)=>rb (bv (!b))|_=>none
 |.makeInterface t x=>match T t with
  |some g=>match val x with|.pv p=>bif g.k.isIface then none else rb (.pv (.iface t p))|_=>none
  |none=>none
 |.fieldAddr t x f=>ro (ce T t f (val x))|.field t x f=>ro (oe T t f (val x))|.indexAddr t x i=>ro (fT T d t (val x) (val i))|.extract x i=>ro (ye (val x) i)|.range t x=>match T t with|some ⟨.str,_,_,_,_⟩=>aT h (val x)|_=>none
 |.next x true=>VX d (val x)|.index t x i=>match T t with|some ⟨.str,_,_,_,_⟩=>ro (TX (val x) (val i))|_=>none
 |.convert s t x=>ro (match WX T s t (val x)with
  |some y=>some y|none=>XX T s t (val x))
 |.typeAssert x _ t ok=>match T t with|some g=>bif g.k.isIface then none else ro (YX g t ok (val x))|none=>none
 |.makeMap t none=>match T t with|some ⟨.smap _ _ s,_,_,_,_⟩=>some ⟨.map h,some (h,.smap s []),true⟩|_=>none
 |.mapUpdate t m k v=>match j with
  |none=>match T t with|some ⟨.smap _ _ s,_,_,_,_⟩=>rT s d (val m) (val k) (val v)|_=>none
  |some _=>none
 |.insert t m k v=>match j with
  |none=>match T t with|some ⟨.smap _ _ s,_,_,_,_⟩=>rT s d (val m) (val k) (val v)|_=>none
  |some _=>none
 |.lookup t m k ok=>match T t with
  |some ⟨.smap _ g s,_,_,_,_⟩=>match T g with
   |some g=>match gJ g with|some z=>ro (QX s ok z d (val m) (val k))|none=>none
   |none=>none
  |_=>none
 |.slice t x g i j=>match T t with
  |some ⟨.slice e,_,_,_,_⟩=>match T e with|some l=>ro (JQ l d (val x) (g.map val) (i.map val) (j.map val))|none=>none
  |some ⟨.str,_,_,_,_⟩=>ro (UX (val x) (g.map val) (i.map val) (j.map val))|_=>none
 |.call {callee:=.builtin .len,args,argTypes}=>match argTypes.toList,args.toList with
  |[t],[x]=>match T t with|some ⟨.slice _,_,_,_,_⟩=>ro (GX d (val x))|some ⟨.str,_,_,_,_⟩=>ro (RX (val x))|_=>none
  |_,_=>none
 |.call {callee:=.builtin .append,args,argTypes}=>match argTypes.toList,args.toList with
  |[t,g],[x,y]=>bif Nat.beq t g then(match T t with
    |some ⟨.slice e,_,_,_,_⟩=>match T e with|some l=>OM e l d h (val x) (val y)|none=>none
    |_=>none)else none
  |_,_=>none
 |.call {callee:=.builtin .max,args,argTypes:=_}=>match args.toList with
  |[x,y]=>match val x,val y with|.pv (.int a),.pv (.int b)=>rb (.pv (.int (bif fA a b then b else a)))|_,_=>none
  |_=>none
 |_=>none
def PH{x:V}{r:RB}(h:rb x=some r){f:Prop}:yG (some ⟨True,f,x,none,false⟩) r:=by
 cases h;exact⟨_,rfl,trivial,rfl,rfl,rfl⟩
def eE{o:Option V}{r:RB}(h:ro o=some r):∃v,o=some v/\r=⟨v,none,false⟩:=by
 unfold ro at h
 grind
def tJ{x:V}{r:RB}(h:rb x=some r){a:Nat}:r.new=true->∃q,r.wr=some (a,q):=by
 cases h;simp
def Yp{T:Nat->Option TI}{t:Nat}{g:List (Nat×V)}{x:V}(h:MX T t g=some x):
  Got (match T t with
  |some ⟨.struct k _,_,_,_,d⟩=>(XG k (iA d) g).map (λf=>R.of (WG f))|some ⟨.array m e,_,_,_,d⟩=>match T e with|some l=>(XG (xK l.size m 0) (iA d) g).map (λf=>R.of (WG f))|none=>none
  |_=>none) x:=by
 unfold MX at h;split at h
 ·rename_i k pl a b c d i
  try simp only[i]
  split at h
  ·rename_i f j;cases h;rw[IX j,EX];exact⟨_,rfl,trivial,rfl,rfl,rfl⟩
  cases h
 ·rename_i m e a b c d i
  try simp only[i]
  split at h
  ·rename_i l n
   try simp only[n]
   split at h
   ·rename_i f j;cases h;rw[IX j,EX];exact⟨_,rfl,trivial,rfl,rfl,rfl⟩
   cases h
  cases h
 cases h
def xe{T:Nat->Option TI}{A:Nat}{val:Operand->V}{L:Nat->Option Ob}{s:Option Nat}{op:Op}{r:RB}(h:nD T A val L s op=some r):
  ∃note,yG (gA T note val L s op) r/\(r.new=true->∃o,r.wr=some (A,o)):=by
 unfold nD at h;split at h
 ·refine⟨.none,?_,tJ h⟩;simp only[gA,BK];exact PH h
 ·refine⟨.none,?_,tJ h⟩;simp only[gA,BK];exact PH h
 ·rename_i c a b;have key:∀(I:Bool),val c=.pv (.bool I)->rb (bif I then val a else val b)=some r->yG (gA T .none val L s (.pick c a b)) r:=by
   intro I B j;simp only[gA,B];cases I<;>simp only[cond_true,cond_false]at j
   ·split
    ·rename_i C X Y;rw[Y]at j;cases C;exact PH j
    ·simp_all
    ·exact PH j
    simp_all
   split
   ·rename_i C X Y;rw[X]at j;cases C;exact PH j
   ·exact PH j
   ·simp_all
   simp_all
  split at h
  ·rename_i B;exact⟨.none,key true B h,tJ h⟩
  ·rename_i B;exact⟨.none,key false B h,tJ h⟩
  cases h
 ·rename_i t;unfold KX at h;split at h
  ·rename_i u i;cases h;refine⟨.box A,?_,λ_=>⟨_,rfl⟩⟩;simp only[gA,i];exact⟨_,rfl,trivial,rfl,rfl,rfl⟩
  cases h
 ·rename_i t x;unfold LX at h;split at h
  ·rename_i M D;obtain⟨n,h⟩:=jB h;cases h;refine⟨.box A,?_,λ_=>⟨_,rfl⟩⟩;simp only[gA,D];rw[if_pos (CQ n)];exact⟨_,rfl,trivial,rfl,rfl,rfl⟩
  cases h
 ·rename_i t parts;obtain⟨v,g,rfl⟩:=eE h;refine⟨.none,?_,by simp⟩;simp only[gA];exact(Yp g).r
 ·rename_i f first E
  split at h
  ·rename_i e;refine⟨.none,?_,tJ h⟩;have N:first.size=0:=by rw[<-Array.length_toList,e];rfl
   simp only[gA,N,if_true];exact PH h
  rename_i a l e;split at h
  ·rename_i O;refine⟨.none,?_,tJ h⟩;have N:¬first.size=0:=by rw[<-Array.length_toList,e];simp
   have C:E.size=0:=by rw[<-Array.length_toList,O];rfl
   simp only[gA,N,C,if_true,if_false,e];exact PH h
  cases h
 ·rename_i t len parts;split at h
  ·rename_i e a b c d i;split at h
   ·rename_i Z F;split at h
    ·rename_i es P;obtain⟨note,j,G⟩:=Ip h;refine⟨note,?_,G⟩;simp only[gA,i,F,JX P];exact j
    cases h
   cases h
  cases h
 ·rename_i t x;split at h
  ·rename_i u i;obtain⟨v,g,rfl⟩:=eE h;refine⟨.none,?_,by simp⟩;simp only[gA,i];exact(Cp g).r
  cases h
 ·rename_i t x y;split at h
  ·split at h
   ·rename_i u i;refine⟨.none,?_,?_⟩
    ·simp only[gA,i];exact we h
    obtain⟨q,_,_,_,_,_⟩:=we h;unfold NM at h;intro G;exfalso;revert G h;simp only[IQ]
    repeat' (first|split|(intro h;cases h)|simp only[cond] )
    all_goals (intro h;first|(cases h;done)|(cases h;simp))
   cases h
  cases h
 ·obtain⟨v,g,rfl⟩:=eE h;refine⟨.none,?_,by simp⟩;unfold me at g;simp only[gA];split at g<;>rename_i w<;>cases g<;>rw[w]<;>exact⟨_,rfl,trivial,rfl,rfl,rfl⟩
 ·split at h
  ·rename_i u i;obtain⟨v,g,rfl⟩:=eE h;refine⟨.none,?_,by simp⟩;simp only[gA,i];exact(Pp g).r
  cases h
 ·split at h
  ·rename_i b Q;refine⟨.none,?_,tJ h⟩;simp only[gA,Q,qC];exact PH h
  cases h
 ·split at h
  ·rename_i u i;split at h
   ·rename_i p P
    cases e:u.k.isIface with
    |true=>rw[e]at h;cases h
    |false=>
     rw[e]at h;refine⟨.none,?_,tJ h⟩;simp only[gA,i,P,e];exact PH h
   cases h
  cases h
 ·obtain⟨v,g,rfl⟩:=eE h;refine⟨.none,?_,by simp⟩;unfold ce at g;simp only[gA];split at g
  ·rename_i fs pl a b c d i;split at g
   ·rename_i off size R
    cases e:Nat.beq size 0 with
    |true=>rw[e]at g;cases g
    |false=>
     rw[e]at g;simp only[cond_false]at g;have hs:¬size=0:=λO=>by rw[NE O]at e;cases e
     simp only[i,R,hs,if_false,g];exact⟨_,rfl,trivial,rfl,rfl,rfl⟩
   cases g
  cases g
 ·obtain⟨v,g,rfl⟩:=eE h;refine⟨.none,?_,by simp⟩;unfold oe at g;simp only[gA];split at g
  ·rename_i fs pl a b c d i
   cases e:pl.elem _ with
   |false=>rw[e]at g;cases g
   |true=>
    rw[e]at g;simp only[cond_true]at g;split at g
    ·rename_i off size R;simp only[i,R,e,cond_true];split at g
     ·split at g
      ·rename_i m _ c D;cases g;simp only[m,D,Option.map_some];exact⟨_,rfl,trivial,rfl,rfl,rfl⟩
      cases g
     ·rename_i M m;simp only[m,g,Option.map_some];exact⟨_,rfl,trivial,rfl,rfl,rfl⟩
     cases g
    cases g
  cases g
 ·obtain⟨v,g,rfl⟩:=eE h;refine⟨.none,?_,by simp⟩;simp only[gA];exact(Dp g).r
 ·obtain⟨v,g,rfl⟩:=eE h;refine⟨.none,?_,by simp⟩;unfold ye at g;simp only[gA];simp only[NH]at g;split at g
  ·rename_i M w;split at g
   ·rename_i c D;cases g;simp only[w,D];exact⟨_,rfl,trivial,rfl,rfl,rfl⟩
   cases g
  ·rename_i M w;simp only[w,g];exact⟨_,rfl,trivial,rfl,rfl,rfl⟩
  cases g
 ·rename_i t x;split at h
  ·rename_i a b c d i;refine⟨.siter A,?_,?_⟩
   ·simp only[gA,i];unfold aT at h;split at h
    ·rename_i l el;cases h;simp only[KW,el];exact⟨_,rfl,trivial,rfl,rfl,rfl⟩
    cases h
   intro _;unfold aT at h;split at h
   ·cases h;exact⟨_,rfl⟩
   cases h
  cases h
 ·obtain⟨n,H,_⟩:=be h;refine⟨.none,?_,by rw[H];simp⟩;simp only[gA];exact n
 ·split at h
  ·rename_i a b c d i;obtain⟨v,g,rfl⟩:=eE h;refine⟨.none,?_,by simp⟩;simp only[gA,i];exact(Tp g).r
  cases h
 ·obtain⟨v,g,rfl⟩:=eE h;refine⟨.none,?_,by simp⟩;simp only[gA];split at g
  ·rename_i S;cases g;exact(Vp S).r
  exact(Wp g).r
 ·split at h
  ·rename_i u i
   cases e:u.k.isIface with
   |true=>rw[e]at h;cases h
   |false=>
    rw[e]at h;obtain⟨v,g,rfl⟩:=eE h;refine⟨.none,?_,by simp⟩;simp only[gA,i,e];exact(Xp g).r
  cases h
 ·split at h
  ·rename_i U W J a b c d i;cases h;refine⟨.smap A J,?_,λ_=>⟨_,rfl⟩⟩;simp only[gA];exact⟨_,rfl,trivial,rfl,rfl,rfl⟩
  cases h
 ·split at h
  ·split at h
   ·rename_i U W J a b c d i;obtain⟨n,H,_⟩:=sT h;refine⟨.none,?_,by rw[H];simp⟩;simp only[gA,i];exact n
   cases h
  cases h
 ·split at h
  ·split at h
   ·rename_i U W J a b c d i;obtain⟨n,H,_⟩:=sT h;refine⟨.none,?_,by rw[H];simp⟩;simp only[gA,i];exact n
   cases h
  cases h
 ·split at h
  ·rename_i U W J a b c d i;split at h
   ·rename_i tv w;split at h
    ·rename_i z ez;obtain⟨v,g,rfl⟩:=eE h;refine⟨.none,?_,by simp⟩;simp only[gA,i,w,ez];exact(Rp g).r
    cases h
   cases h
  cases h
 ·split at h
  ·rename_i e a b c d i;split at h
   ·rename_i Z F;obtain⟨v,g,rfl⟩:=eE h;refine⟨.none,?_,by simp⟩;simp only[gA,i,F];exact(Gp g).r
   cases h
  ·rename_i a b c d i;obtain⟨v,g,rfl⟩:=eE h;refine⟨.none,?_,by simp⟩;simp only[gA,i];exact(Up g).r
  cases h
 ·split at h
  ·rename_i t x i m;split at h
   ·rename_i e a b c d k;obtain⟨v,g,rfl⟩:=eE h;refine⟨.none,?_,by simp⟩;simp only[gA,i,m,k];exact(Ep g).r
   ·rename_i a b c d k;obtain⟨v,g,rfl⟩:=eE h;refine⟨.none,?_,by simp⟩;simp only[gA,i,m,k];exact(Sp g).r
   cases h
  cases h
 ·split at h
  ·rename_i t t' x y i m;have n:=(jB h).1;replace h:=(jB h).2;have ht:=Nat.eq_of_beq_eq_true n;subst ht;split at h
   ·rename_i e a b c d k;split at h
    ·rename_i Z F;obtain⟨note,j,G⟩:=Fp (xo:=x) h;refine⟨note,?_,G⟩;simp only[gA,i,m,k,F,if_true];exact j
    cases h
   cases h
  cases h
 ·split at h
  ·rename_i x y m;split at h
   ·rename_i a b ea Q;refine⟨.none,?_,tJ h⟩;simp only[gA,m,ea,Q];have:(if b>a then b else a)=bif fA a b then b else a:=by
     rw[WB];by_cases K:a<b
     ·rw[if_pos (show b>a from K),decide_eq_true K];rfl
     rw[if_neg (show¬b>a from K),decide_eq_false K];rfl
    rw[this];exact PH h
   cases h
  cases h
 cases h
structure IS where
 sl:Tr V
 ob:Tr Ob
 nx:Nat
 dt:List Nat
inductive AE where|normal|exit (i:Nat)|ret
structure GB where
 x:V
 ch:List (Nat×Ob)
 nw:List (Nat×Ob)
 nx:Nat
structure Tc where
 wn:List Nat
 rd:List Nat
structure MA where
 T:Nat->Option TI
 gl:Nat->Option (List PV)
 F:Nat->Option Func
 intr:Nat->List V->Option V
def IS.val(a:Nat->Option (List PV))(s:IS):Operand->V
 |.tmp t=>match s.sl.get t with|some v=>v|none=>.undef
 |.const v=>zO v|.func f=>.fn f []|.global g=>match a g with|some a=>.pv (.ptr a)|none=>.undef
def ZC(t:Tr V)(a:Option Nat)(x:V):Tr V:=match a with|none=>t|some d=>t.put d (some x)
def RK(a n:Nat)(l:List Nat):List Nat:=bif Nat.blt n a then n::l else l
def IS.app(b:Nat)(s:IS)(a:Option Nat)(r:RB):IS:=match r.wr with|none=>⟨ZC s.sl a r.x,s.ob,s.nx,s.dt⟩|some (n,o)=>bif r.new then⟨ZC s.sl a r.x,s.ob.put n (some o),Nat.succ s.nx,s.dt⟩else⟨ZC s.sl a r.x,s.ob.put n (some o),s.nx,RK b n s.dt⟩
def Zp:V->List Nat|.arr n _ _=>[n]|_=>[]
def eT:V->List Nat|.arr n _ _=>[n]|.agg a=>a.flatMap Zp|_=>[]
def aJ(a:Nat)(s:IS)(n:Nat):IS:=bif Nat.blt n a then s else(match s.ob.get n with
 |some (.arr a _ _ b)=>match jG b with|some b=>⟨s.sl.map (QC n a b),(s.ob.put n none).map (ND n a b),s.nx,s.dt⟩|none=>s
 |_=>s)
def iO(a:Nat):List Nat->IS->IS|[],s=>s|n::r,s=>iO a r (aJ a s n)
def oO(a:Nat):List Nat->IS->IS
 |[],s=>s|t::r,s=>oO a r (match s.sl.get t with
  |some v=>iO a (eT v) s|none=>s)
def xO:List Operand->List Nat|[]=>[]|.tmp t::r=>t::xO r|_::r=>xO r
def zq:Op->List Nat|.call {callee:=.value _,args,..}=>xO args.toList|.call {callee:=.builtin .append,args,..}=>xO (args.toList.drop 1)|.buildSlice _ _ a=>xO (a.toList.map (·.2))|.makeInterface _ x=>xO [x]|_=>[]
def QH:List Oper->List Nat|[]=>[]|o::r=>zq o.op++QH r
def reach(a:Nat)(b:Tr Ob):Nat->List Nat->Tr Ob->List Nat->Option (Tr Ob×List Nat)
 |0,_,_,_=>none|_+1,[],sub,l=>some (sub,l)|f+1,n::r,sub,l=>bif Nat.blt n a then(match sub.get n with
  |some _=>reach a b f r sub l|none=>match b.get n with|none=>reach a b f r sub l|some o=>reach a b f (o.names++r) (sub.put n (some o)) (n::l))else none
def UK(a b:Nat)(sub c:Tr Ob):Nat->List Nat->Tr Ob->List (Nat×Ob)->Option (List (Nat×Ob))
 |0,_,_,_=>none|_+1,[],_,l=>some l|f+1,n::r,seen,l=>bif Nat.blt n a then(match sub.get n with
   |some _=>UK a b sub c f r seen l|none=>none)else match seen.get n with
  |some _=>UK a b sub c f r seen l|none=>match c.get n with|none=>none|some o=>bif Nat.blt n b then UK a b sub c f (o.names++r) (seen.put n (some o)) ((n,o)::l)else none
def RM:List Nat->Tr Ob->List Nat
 |[],_=>[]|n::r,seen=>match seen.get n with|some _=>RM r seen|none=>n::RM r (seen.put n (some (.box [])))
def iT(a:Tr Ob):List Nat->Option (List (Nat×Ob))
 |[]=>some []|n::r=>match a.get n with
  |some o=>match iT a r with|some l=>some ((n,o)::l)|none=>none
  |none=>none
def oT:List (Nat×Ob)->List Nat|[]=>[]|(_,o)::r=>o.names++oT r
def SM(T:Nat->Option TI)(s:IS):ResultVar->Option V
 |.tmp t=>some (match s.sl.get t with|some v=>v|none=>.undef)|.cell a t=>match T t,s.sl.get a with
  |some b,some (.loc n off)=>match s.ob.get n with|some (.box c)=>fI b.isAgg b.size (c.drop off)|_=>none
  |_,_=>none
def TM(T:Nat->Option TI)(s:IS):List ResultVar->Option (List V)
 |[]=>some []|r::a=>match SM T s r,TM T s a with|some x,some a=>some (x::a)|_,_=>none
def xT(a:Nat):List Nat->List Nat|[]=>[]|n::r=>bif Nat.blt n a then xT a r else n::xT a r
def VK(T:Nat->Option TI)(a:Nat):List ResultVar->IS->IS
 |[],s=>s|r::b,s=>VK T a b (match SM T s r with
  |some v=>iO a (xT a (eT v)) s|none=>s)
def WK(T:Nat->Option TI)(c:Nat)(sub:Tr Ob)(a:List ResultVar)(s:IS):Option GB:=match TM T s a with
 |some a=>match iT s.ob (RM s.dt .nil)with
  |some b=>match UK c s.nx sub s.ob 1000000 ((nO a).names++oT b) .nil []with|some c=>some ⟨nO a,b,c,s.nx⟩|none=>none
  |none=>none
 |none=>none
def AO(T:Nat->Option TI)(a:Nat)(sub:Tr Ob)(b:List ResultVar):AE->IS->Option GB|.exit _,_=>none|_,s=>WK T a sub b (VK T a b s)
def XK(a:Nat):List (Nat×Ob)->List Nat->List Nat|[],l=>l|(n,_)::r,l=>XK a r (RK a n l)
def dG:List (Nat×Ob)->Tr Ob->Tr Ob|[],t=>t|(n,o)::r,t=>dG r (t.put n (some o))
def uE:Nat->List V->Tr V->Tr V|_,[],t=>t|k,x::a,t=>uE (Nat.succ k) a (t.put k (some x))
abbrev BO:=Nat->Nat->Code->IS->(AE->IS->Option GB)->Option GB
abbrev Call:=Nat->List V->IS->Option (GB×List Nat)
def UM(b:MA)(run:BO)(fn:Func)(c:Code)(args:List V)(a:Nat)(sub:Tr Ob):Option GB:=
 run fn.ntmps a c ⟨uE 0 args .nil,sub,a,[]⟩ (AO b.T a sub fn.results.toList)
def m8(a:MA)(run:BO)(f:Nat)(args:List V)(s:IS):Option (GB×List Nat):=match a.intr f args with
 |some x=>some (⟨x,[],[],s.nx⟩,[])|none=>match a.F f with
  |some fn=>match fn.body with
   |some c=>bif Nat.ble args.length fn.ntmps then(match reach s.nx s.ob 1000000 (BA args) .nil []with
    |some (sub,b)=>match UM a run fn c args s.nx sub with|some r=>some (r,b)|none=>none
    |none=>none)else none
   |none=>none
  |none=>none
def AT(b:Nat)(s:IS)(a:Option Nat)(r:GB):IS:=⟨ZC s.sl a r.x,dG r.nw (dG r.ch s.ob),r.nx,XK b r.ch s.dt⟩
def YK:V:=.pv (.tuple [])
def CO(a:Nat):Option Nat->Bool|some d=>Nat.blt d a|none=>true
def callR(b:Nat)(s:IS)(a:Option Nat):Option (GB×List Nat)->Option (IS×Tc)|some (r,c)=>some (AT b s a r,⟨r.ch.map (·.1)++r.nw.map (·.1),c⟩)|none=>none
def cJ(a:MA)(call:Call)(b:Nat)(o:Oper)(s:IS):Option (IS×Tc):=match OC (s.val a.gl) o.op with
 |some (f,args)=>callR b s o.dst (call f args s)|none=>match nD a.T s.nx (s.val a.gl) s.ob.get o.dst o.op with|some r=>some (s.app b o.dst r,⟨match r.wr with|some (n,_)=>[n]|none=>[],vE (s.val a.gl) o.op⟩)|none=>none
def CT(all:List Oper)(s:IS)(j:Nat):V:=match all[j]? with
 |some o=>match o.dst with
  |some d=>match s.sl.get d with|some v=>v|none=>.undef
  |none=>.undef
 |none=>.undef
def jq:Bool->Bool->Bool|true,b=>b|false,true=>false|false,false=>true
def vq(c:MA)(call:Call)(a d:Nat)(all:List Oper)(o:Oper)(s:IS):Option (IS×Tc):=
 bif CO a o.dst then(match o.guard with
  |none=>cJ c call d o s|some (j,a)=>match CT all s j with|.pv (.bool b)=>bif jq b a then cJ c call d o s else some (⟨ZC s.sl o.dst YK,s.ob,s.nx,s.dt⟩,⟨[],[]⟩)|.pv (.tuple [])=>some (⟨ZC s.sl o.dst YK,s.ob,s.nx,s.dt⟩,⟨[],[]⟩)|_=>none)else none
def Ae(c:MA)(call:Call)(d e:Nat)(all:List Oper):List Oper->IS->List Tc->Option (IS×List Tc)
 |[],s,b=>some (s,b)|o::a,s,b=>match vq c call d e all o s with|some (f,g)=>Ae c call d e all a f (g::b)|none=>none
def ZX(a:Array Oper)(c b:Oper):Bool:=
 (match c.dst with|some d=>(b.looksAt a).contains d||b.dst==some d|none=>false)||
 (match b.dst with|some d=>(c.looksAt a).contains d|none=>false)
def NQ(a:List Oper):Bool:=
 (List.range a.length).all λj=>match a[j]? with
  |some b=>(oF b).all (λi=>decide (i<j))&&(List.range j).all λi=>match a[i]? with|some c=> !ZX a.toArray c b||((aE a []).getD j 0).testBit i|none=>false
  |none=>false
def OQ(a b:Tc):Bool:=a.wn.all (λn=> !mD b.rd n&& !mD b.wn n)&&b.wn.all (λn=> !mD a.rd n)
def eJ:List Tc->Bool
 |[]=>true|t::r=>match t.wn with|[]=>eJ r|_::_=>false
def VM(c:List Oper)(d:List Tc):Bool:=
 (List.range c.length).all λj=>match d[j]? with
  |some b=>(List.range j).all λi=>match d[i]? with|some a=>OQ a b||((aE c []).getD j 0).testBit i|none=>false
  |none=>false
def iJ(a:Nat)(l:List Nat)(s:IS):IS:=bif Nat.beq s.nx a then s else oO a l s
def r8(d:MA)(call:Call)(e c:Nat)(a:List Oper)(b:Bool)(s:IS):Option IS:=match Ae d call e c a a (iJ c (QH a) s) []with|some (c,d)=>bif b then(bif NQ a then(bif eJ d then some c else bif VM a d.reverse then some c else none)else none)else some c|none=>none
def qY:∀{b:List V}{a:List PV},tE b=some a->b=iA a
 |[],a,h=>by cases h;rfl
 |c::b,a,h=>by
  unfold tE at h;split at h
  ·rename_i p f e d;cases h;have:=qY d;subst this;cases c<;>simp only[V.un]at e<;>cases e;rfl
  cases h
def Be:∀{b:List (List V)}{a:List (List PV)},jG b=some a->b=kA a
 |[],a,h=>by cases h;rfl
 |e::b,a,h=>by
  unfold jG at h;split at h
  ·rename_i p d f c;cases h;have g:=Be c;have i:=qY f;subst g i;rfl
  cases h
structure Rel(s:IS)(σ:St):Prop where
 sl:∀t,HA σ.slots t=(match s.sl.get t with|some v=>v|none=>.undef)
 ob:∀n,zA σ.objs n=s.ob.get n
 us:∀n∈σ.used,n<s.nx
structure Inv(bs:Nat)(sub:Tr Ob)(s:IS):Prop where
 le:bs<=s.nx
 same:∀n,n<bs->n∉s.dt->s.ob.get n=sub.get n
 old:∀n,n<bs->(s.ob.get n).isSome=true->(sub.get n).isSome=true
 names:∀n o,sub.get n=some o->n<bs/\∀k∈o.names,k<bs
 dts:∀n∈s.dt,n<bs
theorem Rel.val{s:IS}{σ:St}(h:Rel s σ)(a:Nat->Option (List PV)):σ.val a=s.val a:=by
 funext x
 cases x with|tmp t=>exact h.sl t|const v=>rfl|func f=>rfl|global g=>rfl
def Rel.obf{s:IS}{σ:St}(h:Rel s σ):zA σ.objs=s.ob.get:=funext h.ob
def Wk(σ σ':St):Prop:=∀C E a w,Ga C E σ a w->∃b,Ga C b σ' a w
theorem Wk.refl(σ:St):Wk σ σ:=λ_ E _ _ h=>⟨E,h⟩
def Wk.trans{a b c:St}(h:Wk a b)(d:Wk b c):Wk a c:=λC E x w e=>by
 obtain⟨f,g⟩:=h C E x w e;exact d C f x w g
def AWP.wk{X:Env1}{c:Code}{σ σ':St}{Q:uB->St->Prop}(b:Wk σ σ')(h:AWP X c σ' Q):AWP X c σ Q:=by
 intro C E a w d e;obtain⟨f,g⟩:=b C E a w e;exact h C f a w d g
def AWP.post{X:Env1}{c:Code}{σ:St}{Q k:uB->St->Prop}(h:AWP X c σ Q)(l:∀b σ',Q b σ'->(∃σ'',Wk σ' σ''/\k b σ'')/\∀p,b≠.panic p):AWP X c σ k:=by
 intro C E a w m n;refine wp_mono (h C E a w m n) ?_
 rintro e o r ⟨s,σ',b,f,t,g⟩
 obtain⟨⟨σ'',u,i⟩,v⟩:=l b σ' g;obtain⟨j,d⟩:=u C s o r f;refine⟨j,σ'',b,d,?_,i⟩
 cases b with|panic p=>simp_all|_=>exact t
def wq{n a:Nat}{b:List (List PV)}:∀{x:V},n∉x.names->yE n a b x=x:=by
 intro x h;cases x<;>simp only[yE]
 grind[V.names]
def Ce{n b:Nat}{d:List (List PV)}:∀{a:List V},n∉BA a->ME n b d a=a
 |[],_=>rfl|c::a,h=>by
  simp only[BA,List.mem_append,not_or]at h;simp only[ME];rw[wq h.1,Ce h.2]
def kq{n a:Nat}{b:List (List PV)}{o:Ob}(h:n∉o.names):ND n a b o=o:=by
 cases o with|box c=>simp only[ND];rw[Ce h]|_=>rfl
theorem zY{c:Nat}{sub:Tr Ob}{s:IS}(a:Inv c sub s)(n:Nat):Inv c sub (aJ c s n):=by
 unfold aJ
 cases e:Nat.blt n c with
 |true=>exact a|false=>
  simp only[cond_false];rw[sJ]at e;have h:¬n<c:=of_decide_eq_false e;split
  ·rename_i d p r t u;split
   ·rename_i g i;have b:∀m,((s.ob.put n none).map (ND n d g)).get m=if m=n then none else(s.ob.get m).map (ND n d g):=by
     intro m;rw[Tr.get_map,Tr.get_put];split<;>rfl
    refine⟨a.le,?_,?_,a.names,a.dts⟩
    ·intro m f j;rw[b m,if_neg (by omega),a.same m f j]
     cases q:sub.get m with
     |none=>rfl|some o=>
      simp only[Option.map_some];rw[kq];intro k;exact h ((a.names m o q).2 n k)
    intro m f l;rw[b m,if_neg (by omega)]at l;exact a.old m f (by simp_all)
   exact a
  exact a
theorem Ee{a:Nat}{sub:Tr Ob}:∀(l:List Nat){s:IS},Inv a sub s->Inv a sub (iO a l s)
 :=by intro x;induction x<;>grind[zY,iO]
theorem yq{a:Nat}{sub:Tr Ob}:∀(l:List Nat){s:IS},Inv a sub s->Inv a sub (oO a l s)
 :=by intro x;induction x<;>grind[oO,Ee]
def jY{T:Nat->Option TI}{bs:Nat}{sub:Tr Ob}:∀(l:List ResultVar){s:IS},Inv bs sub s->Inv bs sub (VK T bs l s)
 :=by intro x;induction x<;>grind[VK,Ee]
def vY{bs:Nat}{s:IS}{σ:St}(b:Rel s σ)(n:Nat):∃σ',Wk σ σ'/\Rel (aJ bs s n) σ':=by
 have d:∃σ',Wk σ σ'/\Rel s σ':=⟨σ,Wk.refl σ,b⟩;unfold aJ
 cases e:Nat.blt n bs with
 |true=>exact d|false=>
  simp only[cond_false];split
  ·rename_i c j k p l;split
   ·rename_i i f;have g:=Be f;subst g;have h:zA σ.objs n=some (.arr c j k (kA i)):=(b.ob n).trans l;refine⟨σ.frz n c i,λC E a w o=>o.frz h,⟨?_,?_,b.us⟩⟩
    ·intro t;simp only[St.frz,sX,b.sl,Tr.get_map];cases s.sl.get t<;>rfl
    intro m;simp only[St.frz,rO,b.ob,Tr.get_map,Tr.get_put];split<;>rfl
   omega
  omega
def wY{bs:Nat}:∀(l:List Nat){s:IS}{σ:St},Rel s σ->∃σ',Wk σ σ'/\Rel (iO bs l s) σ'
 |[],s,σ,a=>⟨σ,Wk.refl σ,a⟩|n::r,s,σ,a=>by
  obtain⟨σ1,b,c⟩:=vY (bs:=bs) a n;obtain⟨σ2,d,e⟩:=wY r c;exact⟨σ2,b.trans d,e⟩
def kY{bs:Nat}:∀(l:List Nat){s:IS}{σ:St},Rel s σ->∃σ',Wk σ σ'/\Rel (oO bs l s) σ'
 |[],s,σ,a=>⟨σ,Wk.refl σ,a⟩|t::r,s,σ,a=>by
  unfold oO;split
  ·rename_i v f;obtain⟨σ1,b,c⟩:=wY (bs:=bs) (eT v) a;obtain⟨σ2,d,e⟩:=kY r c;exact⟨σ2,b.trans d,e⟩
  exact kY r a
def yY{T:Nat->Option TI}{bs:Nat}:∀(l:List ResultVar){s:IS}{σ:St},Rel s σ->∃σ',Wk σ σ'/\Rel (VK T bs l s) σ'
 |[],s,σ,a=>⟨σ,Wk.refl σ,a⟩|t::r,s,σ,a=>by
  unfold VK;split
  ·rename_i v f;obtain⟨σ1,b,c⟩:=wY (bs:=bs) (xT bs (eT v)) a;obtain⟨σ2,d,e⟩:=yY r c;exact⟨σ2,b.trans d,e⟩
  exact yY r a
structure uY(nx:Nat)(ob:Tr Ob)(todo:List Nat)(sub:Tr Ob)(l:List Nat):Prop where
 get:∀n o,sub.get n=some o->ob.get n=some o/\n<nx/\n∈l/\∀k∈o.names,k<nx\/k∈todo
 mem:∀n∈l,(sub.get n).isSome=true
def DT{s:Nat}{t:Tr Ob}:∀(f:Nat)(g:List Nat)(sub:Tr Ob)(l:List Nat){i:Tr Ob}{u:List Nat},reach s t f g sub l=some (i,u)->uY s t g sub l->uY s t [] i u/\∀k∈g,k<s
 |0,_,_,_,_,_,h,_=>by cases h
 |f+1,[],sub,l,_,_,h,p=>by cases h;simp_all
 |f+1,n::r,sub,l,i,u,h,p=>by
  obtain⟨y,h⟩:=jB h;have B:=uG y;have e:uY s t r sub l:=⟨λm o j=>⟨(p.get m o j).1,(p.get m o j).2.1,(p.get m o j).2.2.1,λk z=>by
   rcases(p.get m o j).2.2.2 k z with A|A
   ·omega
   grind⟩,p.mem⟩
  split at h
  ·obtain⟨v,w⟩:=DT f r sub l h e;simp_all
  split at h
  ·obtain⟨v,w⟩:=DT f r sub l h e;simp_all
  rename_i C o D;obtain⟨v,w⟩:=DT f (o.names++r) (sub.put n (some o)) (n::l) h (by
   refine⟨λm q j=>?_,λm j=>?_⟩
   ·rw[Tr.get_put]at j;split at j
    ·simp_all
    obtain⟨a,b,c,d⟩:=e.get m q j
    grind
   rw[Tr.get_put];split
   ·rfl
   rcases List.mem_cons.1 j with x|x
   ·omega
   exact p.mem m x)
  simp_all
structure bY(bs nx:Nat)(sub ob:Tr Ob)(todo:List Nat)(seen:Tr Ob)(l:List (Nat×Ob)):Prop where
 ent:∀n o,(n,o)∈l->bs<=n/\n<nx/\ob.get n=some o/\∀k∈o.names,(sub.get k).isSome=true\/k∈jA l\/k∈todo
 seen:∀n,(seen.get n).isSome=true->n∈jA l
def dY{x A:Nat}{sub B:Tr Ob}:∀(f:Nat)(p:List Nat)(seen:Tr Ob)(l:List (Nat×Ob)){w:List (Nat×Ob)},UK x A sub B f p seen l=some w->bY x A sub B p seen l->
  (∃i,bY x A sub B [] i w)/\(∀k∈p,(sub.get k).isSome=true\/k∈jA w)/\∀k∈jA l,k∈jA w
 |0,_,_,_,_,h,_=>by cases h
 |f+1,[],seen,l,_,h,t=>by cases h;exact⟨⟨seen,t⟩,by simp,λk g=>g⟩
 |f+1,n::r,seen,l,w,h,t=>by
  unfold UK at h;have s:((sub.get n).isSome=true\/n∈jA l)->UK x A sub B f r seen l=some w->(∃i,bY x A sub B [] i w)/\(∀k∈n::r,(sub.get k).isSome=true\/k∈jA w)/\∀k∈jA l,k∈jA w:=by
   intro j h;obtain⟨E,F,D⟩:=dY f r seen l h ⟨λm o u=>⟨(t.ent m o u).1,(t.ent m o u).2.1,(t.ent m o u).2.2.1,λk g=>by
    rcases(t.ent m o u).2.2.2 k g with v|v|v
    ·exact .inl v
    ·exact .inr (.inl v)
    rcases List.mem_cons.1 v with rfl|v
    ·rcases j with j|j
     ·exact .inl j
     exact .inr (.inl j)
    exact .inr (.inr v)⟩,t.seen⟩
   refine⟨E,λk g=>?_,D⟩;rcases List.mem_cons.1 g with rfl|g
   ·rcases j with j|j
    ·exact .inl j
    exact .inr (D _ j)
   exact F k g
  cases e:Nat.blt n x with
  |true=>
   rw[e]at h;simp only[cond_true]at h;split at h
   ·rename_i o C;exact s (.inl (by rw[C];rfl)) h
   cases h
  |false=>
   rw[e]at h;simp only[cond_false]at h;rw[sJ]at e;have G:¬n<x:=of_decide_eq_false e;split at h
   ·rename_i o C;exact s (.inr (t.seen n (by rw[C];rfl))) h
   split at h
   ·cases h
   rename_i H o C;obtain⟨E,h⟩:=jB h;have j:=uG E;obtain⟨F,D,v⟩:=dY f (o.names++r) (seen.put n (some o)) ((n,o)::l) h (by
    refine⟨λm q u=>?_,λm u=>?_⟩
    ·rcases List.mem_cons.1 u with z|z
     ·cases z;exact⟨by omega,j,C,λk g=>.inr (.inr (by simp[g]))⟩
     obtain⟨a,b,c,d⟩:=t.ent m q z;refine⟨a,b,c,λk g=>?_⟩;rcases d k g with y|y|y
     ·exact .inl y
     ·exact .inr (.inl (by simp only[jA,List.map_cons,List.mem_cons];exact .inr y))
     rcases List.mem_cons.1 y with rfl|y
     ·exact .inr (.inl (by simp[jA]))
     exact .inr (.inr (by simp[y]))
    rw[Tr.get_put]at u;simp only[jA,List.map_cons,List.mem_cons];by_cases z:m=n
    ·exact .inl z
    rw[if_neg z]at u;exact .inr (t.seen m u))
   refine⟨F,λk g=>?_,λk g=>v k (by simp only[jA,List.map_cons,List.mem_cons];exact .inr g)⟩;rcases List.mem_cons.1 g with rfl|g
   ·exact .inr (v _ (by simp[jA]))
   exact D k (by simp[g])
def WM:∀{l u:List Nat},(∀n∈l,n∈u)->cE l u
 :=by intro x;induction x<;>simp_all[trivial,cE]
def XM:∀{l u:List (Nat×Ob)},(∀p∈l,zA u p.1=some p.2)->lB l u
 :=by intro x;induction x<;>simp_all[trivial,zA,lB]<;>grind
def mem_mentO{l:List (Nat×Ob)}{n:Nat}:n∈LC l↔∃p∈l,n∈p.2.names:=by
 induction l with|nil=>simp[LC]|cons p r a=>grind[LC]
def mem_namesOb{l:List (Nat×Ob)}{n:Nat}:n∈lC l↔n∈jA l\/n∈LC l:=by
 induction l with
 |nil=>simp[lC,jA,LC]|cons p r a=>
  obtain⟨k,o⟩:=p;have:jA ((k,o)::r)=k::jA r:=rfl
  grind[lC,LC]
theorem vF(a b:List (Nat×Ob)):jA (a++b)=jA a++jA b:=by simp[jA]
def keysO_mem{l:List (Nat×Ob)}{n:Nat}:n∈jA l↔∃o,(n,o)∈l:=by
 simp only[jA,List.mem_map];constructor
 ·rintro⟨⟨k,o⟩,h,rfl⟩;exact⟨o,h⟩
 rintro⟨o,h⟩;exact⟨(n,o),h,rfl⟩
theorem oJ{l:List (Nat×Ob)}{n:Nat}{o:Ob}(h:zA l n=some o):(n,o)∈l:=by
 induction l with
 |nil=>cases h
 |cons p r a=>
  grind[zA,List.mem_cons_of_mem]
def Fe{l:List (Nat×Ob)}{n:Nat}(h:n∉jA l):zA l n=none:=by
 cases e:zA l n with|none=>rfl|some o=>exact absurd (rC e) h
def Ge{l:List (Nat×Ob)}{G:Nat->Option Ob}(h:∀n o,(n,o)∈l->G n=some o)(n:Nat):(n∈jA l->zA l n=G n):=by
 grind[GH,oJ]
def pick(sub:Tr Ob)(l:List Nat):List (Nat×Ob):=l.filterMap λn=>(sub.get n).map λo=>(n,o)
def mem_pick{sub:Tr Ob}{l:List Nat}{n:Nat}{o:Ob}:(n,o)∈pick sub l↔n∈l/\sub.get n=some o:=by
 simp only[pick,List.mem_filterMap,Option.map_eq_some_iff,Prod.mk.injEq];constructor
 ·rintro⟨m,a,q,b,rfl,rfl⟩;exact⟨a,b⟩
 rintro⟨a,b⟩;exact⟨n,a,o,b,rfl,rfl⟩
def fY:∀(l:List Nat)(seen:Tr Ob)(n:Nat),n∈l->(seen.get n).isSome=true\/n∈RM l seen
 |[],_,_,h=>by cases h
 |m::r,seen,n,h=>by
  unfold RM;rcases List.mem_cons.1 h with rfl|h
  ·grind
  cases e:seen.get m with
  |some o=>exact fY r seen n h|none=>
   rcases fY r (seen.put m (some (.box []))) n h with a|a
   ·rw[Tr.get_put]at a
    grind
   simp_all
def gY:∀(l:List Nat)(seen:Tr Ob)(n:Nat),n∈RM l seen->n∈l
 |[],_,_,h=>by cases h
 |m::r,seen,n,h=>by
  unfold RM at h;split at h
  ·exact List.mem_cons_of_mem _ (gY r seen n h)
  rcases List.mem_cons.1 h with rfl|h
  ·simp
  exact List.mem_cons_of_mem _ (gY r _ n h)
def He{c:Tr Ob}:∀{l:List Nat}{a:List (Nat×Ob)},iT c l=some a->jA a=l/\∀n o,(n,o)∈a->c.get n=some o
 |[],a,h=>by cases h;exact⟨rfl,by simp⟩
 |m::r,a,h=>by
  unfold iT at h;split at h
  ·rename_i o f;split at h
   ·rename_i l g;cases h;obtain⟨d,i⟩:=He g;refine⟨by simp[jA]at d⊢;exact d,λn q b=>?_⟩;rcases List.mem_cons.1 b with e|b
    ·cases e;exact f
    exact i n q b
   cases h
  cases h
def mem_chNames{l:List (Nat×Ob)}{n:Nat}:n∈oT l↔n∈LC l:=by
 induction l with|nil=>rfl|cons p r a=>grind[oT,LC]
def AE.x:AE->uB|.normal=>.normal|.exit i=>.exit i|.ret=>.ret
def KQ(k:AE->IS->Option GB)(r:GB)(b:Nat)(sub:Tr Ob):uB->St->Prop:=λc σ'=>∃e a,c=AE.x e/\Rel a σ'/\Inv b sub a/\k e a=some r
structure Good(ev:MA)(P:Program)(run:BO):Prop where
 syn:∀(nt bs:Nat)(c:Code)(s:IS)(k:AE->IS->Option GB)(r:GB),run nt bs c s k=some r->∀(sub:Tr Ob),Inv bs sub s->∃e s',Inv bs sub s'/\k e s'=some r
 awp:∀(nt bs:Nat)(c:Code)(s:IS)(k:AE->IS->Option GB)(r:GB),run nt bs c s k=some r->
  ∀(X:Env1),X.P=P->X.T=ev.T->X.gl=ev.gl->X.nt=nt->(∀n∈X.given,n<bs)->∀(sub:Tr Ob)(σ:St),Rel s σ->Inv bs sub s->AWP X c σ (KQ k r bs sub)
structure fG(ev:MA)(P:Program):Prop where
 T:EB P ev.T
 F:∀f fn,ev.F f=some fn->P.funcs[f]? =some fn/\(fn.name== "runtime.NumGoroutine")=false
 intr:∀f args x,ev.intr f args=some x->AC P ev.gl f args [] (.ret x) []
 mix:P.follows .mixedOrders=true
def uq{X:Env1}{T:Nat->Option TI}(c:X.T=T){s:IS}{σ:St}(b:Rel s σ)(v:ResultVar):SM T s v=KH X σ v:=by
 cases v with
 |tmp t=>simp only[SM,KH,b.sl]<;>rfl|cell a t=>
  simp only[SM,KH,b.sl,c]
  cases s.sl.get a with
  |none=>cases T t<;>rfl
  |some v=>
   cases T t with
   |none=>rfl|some d=>
    cases v<;>try rfl
    simp only[b.ob]<;>rfl
def hY{X:Env1}{T:Nat->Option TI}(a:X.T=T){s:IS}{σ:St}(b:Rel s σ):∀(l:List ResultVar),TM T s l=LH X σ l
 |[]=>rfl|r::c=>by
  simp only[TM,LH];rw[uq a b,hY a b c];cases KH X σ r<;>cases LH X σ c<;>rfl
def lY:∀(a:List V)(k:Nat)(t:Tr V)(i:Nat),(uE k a t).get i=if k<=i/\i<k+a.length then a[i-k]? else t.get i
 |[],k,t,i=>by
  grind[uE]
 |x::a,k,t,i=>by
  simp only[uE];rw[lY a (k+1)];rw[Tr.get_put]
  grind
structure Called(P:Program)(gl:Nat->Option (List PV))(s:IS)(f:Nat)(args:List V)(r:GB)(ks:List Nat)(ro o1:List (Nat×Ob)):Prop where
 ac:AC P gl f args (ro++o1) (.ret r.x) (ro++(r.ch++r.nw))
 apart:∀n∈jA ro,n∉jA o1/\n∉jA (r.ch++r.nw)
 subs:∀p∈ro++o1,s.ob.get p.1=some p.2
 kss:∀n∈jA ro++jA o1,n∈ks
 inch:∀n∈jA o1,n∈jA r.ch
 gfn:∃G:Nat->Option Ob,∀n o,(n,o)∈r.ch++r.nw->G n=some o
 chs:∀n∈jA r.ch,n<s.nx/\(s.ob.get n).isSome=true/\n∈jA o1
 nws:∀n∈jA r.nw,s.nx<=n/\n<r.nx
 le:s.nx<=r.nx
 all:∀n∈ks,n∈jA (ro++o1)
def ET{x:MA}{P:Program}{run:BO}(hg:Good x P run)(he:fG x P){f:Nat}{fn:Func}{c:Code}(hf:x.F f=some fn)(hb:fn.body=some c){args:List V}(hal:args.length<=fn.ntmps){s:IS}{sub:Tr Ob}{R:List Nat}
  (hrc:reach s.nx s.ob 1000000 (BA args) .nil []=some (sub,R)) {r:GB} (hr:UM x run fn c args s.nx sub=some r):∃ro m,Called P x.gl s f args r R ro m:=by
 obtain⟨A,L⟩:=DT _ _ _ _ hrc ⟨λn o h=>(by cases h),(by simp)⟩;obtain⟨hPf,M⟩:=he.F f fn hf
 --G S that are given
 have B:∀n,n∈jA (pick sub (R.filter λn=> !mD (jA r.ch) n))↔(sub.get n).isSome=true/\n∉jA r.ch:=by
  intro n;rw[keysO_mem];constructor
  ·rintro⟨o,h⟩
   obtain⟨g,u⟩:=mem_pick.1 h;refine⟨by rw[u];rfl,λhc=>?_⟩;rw[List.mem_filter,(OH _ _).2 hc]at g;simp at g
  rintro⟨g,u⟩
  obtain⟨o,y⟩:=Option.isSome_iff_exists.1 g;refine⟨o,mem_pick.2 ⟨List.mem_filter.2 ⟨(A.get n o y).2.2.1,?_⟩,y⟩⟩
  cases e:mD (jA r.ch) n with|false=>rfl|true=>grind[absurd,OH]
 have v:∀n,n∈jA (pick sub (R.filter λn=>mD (jA r.ch) n))↔(sub.get n).isSome=true/\n∈jA r.ch:=by
  intro n;rw[keysO_mem];constructor
  ·rintro⟨o,h⟩
   obtain⟨g,u⟩:=mem_pick.1 h;exact⟨by rw[u];rfl,(OH _ _).1 (List.mem_filter.1 g).2⟩
  rintro⟨g,u⟩
  obtain⟨o,y⟩:=Option.isSome_iff_exists.1 g;exact⟨o,mem_pick.2 ⟨List.mem_filter.2 ⟨(A.get n o y).2.2.1,(OH _ _).2 u⟩,y⟩⟩
 generalize hro:pick sub (R.filter λn=> !mD (jA r.ch) n)=ro at B;generalize ho1:pick sub (R.filter λn=>mD (jA r.ch) n)=m at v;have C:∀n o,(n,o)∈ro++m->sub.get n=some o:=by
  intro n o h;rcases List.mem_append.1 h with h|h
  ·rw[<-hro]at h;exact(mem_pick.1 h).2
  rw[<-ho1]at h;exact(mem_pick.1 h).2
 have z:∀n,n∈jA (ro++m)↔(sub.get n).isSome=true:=by
  intro n;rw[vF,List.mem_append,B,v];by_cases h:n∈jA r.ch<;>simp[h]
 have T:∀n,zA (ro++m) n=sub.get n:=by
  intro n;by_cases h:n∈jA (ro++m)
  ·exact Ge C n h
  rw[Fe h];rw[z]at h
  cases e:sub.get n with|none=>rfl|some o=>rw[e]at h;exact absurd rfl h
 generalize hms:((BA args++LC (ro++m)).filter λn=> !mD (jA (ro++m)) n)=ms;have w:∀n,n∈ms↔(n∈BA args\/n∈LC (ro++m))/\n∉jA (ro++m):=by
  intro n;rw[<-hms,List.mem_filter,List.mem_append]
  cases e:mD (jA (ro++m)) n with
  |true=>have:=(OH _ _).1 e;simp[this]|false=>
   have:n∉jA (ro++m):=λh=>by rw[(OH _ _).2 h]at e;cases e
   simp[this]
 have j:∀n o,sub.get n=some o->n<s.nx/\∀k∈o.names,k<s.nx:=by
  intro n o h;obtain⟨_,g,_,u⟩:=A.get n o h;exact⟨g,λk b=>by rcases u k b with H|H<;>first|exact H|cases H⟩
 have I:∀n∈ms,n<s.nx:=by
  intro n a;obtain⟨g,_⟩:=(w n).1 a;rcases g with g|g
  ·exact L n g
  obtain⟨p,l,hn'⟩:=mem_mentO.1 g;exact(j p.1 p.2 (C p.1 p.2 l)).2 n hn'
 let X:Env1:=⟨P,x.T,x.gl,[],fn.ntmps,jA (ro++m)++ms,he.T,he.mix⟩;have U:Rel ⟨uE 0 args .nil,sub,s.nx,[]⟩ ⟨kE 0 args,ro++m,jA (ro++m)++ms⟩:=by
  refine⟨λt=>?_,T,λn a=>?_⟩
  ·simp only;rw[iQ,lY];simp only[Nat.zero_le,if_true,Nat.sub_zero,true_and,Nat.zero_add,Tr.get_nil];by_cases h:t<args.length
   ·rw[if_pos h];simp[List.getD,List.getElem?_eq_getElem h]
   rw[if_neg h];simp[List.getD,List.getElem?_eq_none (by omega:args.length<=t)]
  rcases List.mem_append.1 a with a|a
  ·obtain⟨o,y⟩:=Option.isSome_iff_exists.1 ((z n).1 a);exact(j n o y).1
  exact I n a
 have W:Inv s.nx sub ⟨uE 0 args .nil,sub,s.nx,[]⟩:=⟨Nat.le_refl _,λ_ _ _=>rfl,λ_ _ h=>h,j,by simp⟩;have hA:=hg.awp fn.ntmps s.nx c _ _ r hr X rfl rfl rfl rfl U.us sub _ U W
 --G end
 have Y:∀N σ',KQ (AO x.T s.nx sub fn.results.toList) r s.nx sub N σ'->(∃σ'',Wk σ' σ''/\((N=.normal\/N=.ret)/\KM X σ'' fn.results.toList (.ret r.x)/\(∃d,Rel d σ''/\Inv s.nx sub d/\WK x.T s.nx sub fn.results.toList d=some r)))/\∀p,N≠.panic p:=by
  rintro N σ' ⟨e,s',rfl,hR',hI',b⟩
  have J:WK x.T s.nx sub fn.results.toList (VK x.T s.nx fn.results.toList s')=some r->∃σ'',Wk σ' σ''/\(KM X σ'' fn.results.toList (.ret r.x)/\(∃d,Rel d σ''/\Inv s.nx sub d/\WK x.T s.nx sub fn.results.toList d=some r)):=by
   intro b;obtain⟨σ'',g,u⟩:=yY (T:=x.T) (bs:=s.nx) fn.results.toList hR';have H:=jY (T:=x.T) fn.results.toList hI';refine⟨σ'',g,?_,_,u,H,b⟩;unfold WK at b;split at b
   ·rename_i xs O;rw[hY (X:=X) rfl u]at O;split at b
    ·split at b
     ·cases b;simp only[KM,kG,O,Option.map_some]
     cases b
    cases b
   cases b
  cases e with
  |exit i=>cases b
  |normal=>
   obtain⟨σ'',g,u⟩:=J b;exact⟨⟨σ'',g,.inl rfl,u⟩,by simp[AE.x]⟩
  |ret=>
   obtain⟨σ'',g,u⟩:=J b;exact⟨⟨σ'',g,.inr rfl,u⟩,by simp[AE.x]⟩
 --what G last state says of G result; it does not depend on G world
 have E:∀d,Inv s.nx sub d->WK x.T s.nx sub fn.results.toList d=some r->
   (∀n∈jA r.ch,n∈d.dt)/\(∀n∈d.dt,n∈jA r.ch)/\(∀n o,(n,o)∈r.ch++r.nw->d.ob.get n=some o)/\(∀n∈jA r.nw,s.nx<=n/\n<r.nx)/\s.nx<=r.nx/\
   ∀k,k∈r.x.names\/k∈LC (r.ch++r.nw)->(sub.get k).isSome=true\/k∈jA r.nw:=by
  intro d Z b;unfold WK at b;split at b
  ·rename_i xs O;split at b
   ·rename_i ch hch;split at b
    ·rename_i nw hnw;cases b;obtain⟨hck,hce⟩:=He hch;obtain⟨⟨seen',hN⟩,hT1,_⟩:=dY _ _ _ _ hnw ⟨(by simp),(by intro n h;cases h)⟩;refine⟨λn a=>?_,λn a=>?_,λn o hm=>?_,λn a=>?_,Z.le,λk b=>?_⟩
     ·rw[hck]at a;exact gY _ _ n a
     ·rw[hck];rcases fY d.dt .nil n a with h|h
      ·cases h
      exact h
     ·rcases List.mem_append.1 hm with hm|hm
      ·exact hce n o hm
      exact(hN.ent n o hm).2.2.1
     ·obtain⟨o,y⟩:=keysO_mem.1 a;exact⟨(hN.ent n o y).1,(hN.ent n o y).2.1⟩
     rcases b with b|b
     ·exact hT1 k (by simp[b])
     obtain⟨p,l,F⟩:=mem_mentO.1 b;rcases List.mem_append.1 l with l|l
     ·exact hT1 k (by rw[List.mem_append];exact .inr (mem_chNames.2 (mem_mentO.2 ⟨p,l,F⟩)))
     rcases(hN.ent p.1 p.2 l).2.2.2 k F with h|h|h
     ·exact .inl h
     ·exact .inr h
     cases h
    cases b
   cases b
  cases b
 obtain⟨e0,s0,hI1,Q⟩:=hg.syn fn.ntmps s.nx c _ _ r hr sub W;have hk2:WK x.T s.nx sub fn.results.toList (VK x.T s.nx fn.results.toList s0)=some r:=by
  cases e0 with
  |exit i=>cases Q
  |normal=>exact Q|ret=>exact Q
 obtain⟨l1,l2,l3,l4,l5,l6⟩:=E _ (jY (T:=x.T) fn.results.toList hI1) hk2;have hI2:=jY (T:=x.T) (bs:=s.nx) fn.results.toList hI1;have D:∀n∈jA r.ch,(sub.get n).isSome=true:=by
  intro n a;obtain⟨o,y⟩:=keysO_mem.1 a;have g:=l3 n o (by simp[y]);refine hI2.old n ?_ (by rw[g];rfl);exact hI2.dts n (l1 n a)
 have hro':∀n∈jA ro,n∉jA m/\n∉jA (r.ch++r.nw):=by
  intro n a;obtain⟨g,u⟩:=(B n).1 a;refine⟨λh=>u ((v n).1 h).2,λh=>?_⟩;rw[vF,List.mem_append]at h;rcases h with h|h
  ·exact u h
  obtain⟨o,y⟩:=Option.isSome_iff_exists.1 g;have:=(j n o y).1;have:=(l4 n h).1;omega
 refine⟨ro,m,⟨?_,hro',?_,?_,λn a=>((v n).1 a).2,⟨_,l3⟩,?_,l4,l5,λn a=>(z n).2 (A.mem n a)⟩⟩
 ·refine AC.of_body (X:=X) he.T hPf hb M rfl (ms:=ms) rfl hal (WM λn a=>?_) (λn a=>((w n).1 a).2) (λn a h=>?_) (WM λn a=>?_) (WM λn a=>?_) ?_
  ·rw[YE,List.mem_append];exact((w n).1 a).1
  ·rw[vF,List.mem_append,vF,List.mem_append]at h;have h0:=((w n).1 a).2;rw[vF,List.mem_append]at h0;rcases h with h|h|h
   ·exact h0 (.inl h)
   ·exact h0 (.inr ((v n).2 ⟨D n h,h⟩))
   have:=(l4 n h).1;have:=I n a;omega
  ·rw[List.mem_append]at a⊢;by_cases b:n∈jA (ro++m)
   ·exact .inl b
   refine .inr ((w n).2 ⟨?_,b⟩);rcases a with a|a
   ·exact .inl a
   rcases mem_namesOb.1 a with h|h
   ·exact absurd h b
   exact .inr h
  ·rw[List.mem_append]at a;simp only[List.mem_append];have hme:n∈r.x.names\/n∈LC (r.ch++r.nw)->(n∈jA (ro++m)\/n∈ms)\/n∈jA (ro++(r.ch++r.nw)):=by
    intro h;rcases l6 n h with h|h
    ·exact .inl (.inl ((z n).2 h))
    refine .inr ?_;rw[vF,vF,List.mem_append,List.mem_append];exact .inr (.inr h)
   rcases a with a|a
   ·exact hme (.inl a)
   rcases mem_namesOb.1 a with h|h
   ·exact .inr h
   obtain⟨p,l,F⟩:=mem_mentO.1 h;rcases List.mem_append.1 l with l|l
   ·by_cases b:n∈jA (ro++m)
    ·exact .inl (.inl b)
    exact .inl (.inr ((w n).2 ⟨.inr (mem_mentO.2 ⟨p,by simp[l],F⟩),b⟩))
   exact hme (.inr (mem_mentO.2 ⟨p,l,F⟩))
  refine AWP.post hA λN σ' hq=>?_
  obtain⟨⟨σ'',g,u,H,d,h4,h5,h6⟩,h7⟩:=Y N σ' hq;refine⟨⟨σ'',g,?_⟩,h7⟩;obtain⟨m1,m2,m3,_⟩:=E d h5 h6;have K:lB (ro++(r.ch++r.nw)) σ''.objs:=by
   refine XM λp l=>?_
   rw[h4.ob];rcases List.mem_append.1 l with l|l
   ·have h8:=(B p.1).1 (keysO_mem.2 ⟨p.2,l⟩);have h9:=C p.1 p.2 (by simp[l]);rw[h5.same p.1 (j p.1 p.2 h9).1 (λhd=>h8.2 (m2 p.1 hd))];exact h9
   exact m3 p.1 p.2 l
  rcases u with rfl|rfl
  ·exact⟨H,K⟩
  exact⟨H,K⟩
 ·intro p l;exact(A.get p.1 p.2 (C p.1 p.2 l)).1
 ·intro n a;rw[<-vF]at a;obtain⟨o,y⟩:=Option.isSome_iff_exists.1 ((z n).1 a);exact(A.get n o y).2.2.1
 intro n a;have g:=D n a;obtain⟨o,y⟩:=Option.isSome_iff_exists.1 g;refine⟨(j n o y).1,?_,(v n).2 ⟨g,a⟩⟩;rw[(A.get n o y).1];rfl
def bq{o:Option V}{r:RB}(h:ro o=some r):r.wr=none:=by
 obtain⟨v,_,rfl⟩:=eE h;rfl
def dq{x:V}{r:RB}(h:rb x=some r):r.wr=none:=by cases h;rfl
theorem fq{b:TI}{a:Nat->Option Ob}{x y:V}{r:RB}(h:NM b a x y=some r){n:Nat}{o:Ob}(c:r.wr=some (n,o)):(a n).isSome=true:=by
 unfold NM at h;split at h
 ·cases h
 replace h:=(jB h).2;replace h:=(jB h).2;split at h
 ·grind
 ·grind
 ·obtain⟨_,_,_,_,_,_,rfl⟩:=je h;cases c
 cases h
theorem lq{e:Nat}{b:TI}{a:Nat->Option Ob}{c:Nat}{x y:V}{r:RB}(h:OM e b a c x y=some r){n:Nat}{o:Ob}(b:r.wr=some (n,o))(b:r.new=false):(a n).isSome=true:=by
 unfold OM at h
 grind
theorem mq{e:Nat}{a:TI}{b len:Nat}{c:List (List V)}{r:RB}(h:mT e a b len c=some r){n:Nat}{o:Ob}(a:r.wr=some (n,o))(a:r.new=false):False:=by
 unfold mT at h
 grind
def nq{T:Nat->Option TI}{g:Nat}{val:Operand->V}{d:Nat->Option Ob}{e:Option Nat}{op:Op}{r:RB}(h:nD T g val d e op=some r){n:Nat}{o:Ob}(a:r.wr=some (n,o))(l:r.new=false):(d n).isSome=true:=by
 have f:∀{x:V},rb x=some r->(d n).isSome=true:=λh=>by rw[dq h]at a;cases a
 have b:∀{x:Option V},ro x=some r->(d n).isSome=true:=λh=>by rw[bq h]at a;cases a
 unfold nD at h;split at h
 ·exact f h
 ·exact f h
 ·grind
 ·grind[KX]
 ·unfold LX at h
  grind
 ·exact b h
 ·grind
 ·grind[mq]
 ·grind
 ·grind[fq]
 ·exact b h
 ·grind
 ·grind
 ·grind
 ·exact b h
 ·exact b h
 ·exact b h
 ·exact b h
 ·split at h
  ·unfold aT at h
   grind
  cases h
 ·exact(be h).2.2 n o a
 ·grind
 ·exact b h
 ·grind
 ·grind
 ·split at h
  ·split at h
   ·obtain⟨_,_,i,⟨j,c⟩,k⟩:=sT h;rw[c]at a;simp_all
   cases h
  cases h
 ·split at h
  ·split at h
   ·obtain⟨_,_,i,⟨j,c⟩,k⟩:=sT h;rw[c]at a;simp_all
   cases h
  cases h
 ·grind
 ·grind
 ·grind
 ·split at h
  ·grind[lq]
  cases h
 ·grind
 cases h
def Ie{a n m:Nat}{l:List Nat}(h:m∈RK a n l):(m=n/\n<a)\/m∈l:=by
 unfold RK at h
 cases e:Nat.blt n a with
 |true=>rw[e]at h;rcases List.mem_cons.1 h with h|h<;>first|exact .inl ⟨h,uG e⟩|simp_all
 |false=>simp_all
def Je{a n m:Nat}{l:List Nat}(h:m∈l):m∈RK a n l:=by
 grind[RK,Nat.blt,List.mem_cons_of_mem]
theorem Ke{a n:Nat}{l:List Nat}(h:n<a):n∈RK a n l:=by
 grind[RK,sJ,decide_eq_true]
def Inv.slot{a:Nat}{sub:Tr Ob}{s:IS}(h:Inv a sub s)(t:Tr V):Inv a sub ⟨t,s.ob,s.nx,s.dt⟩:=⟨h.le,h.same,h.old,h.names,h.dts⟩
def Le{b:Nat}{sub:Tr Ob}{s:IS}(h:Inv b sub s){r:RB}(f:r.new=true)(c:∃o,r.wr=some (s.nx,o))(d:Option Nat):Inv b sub (s.app b d r):=by
 obtain⟨o,g⟩:=c;unfold IS.app;rw[g,f];refine⟨Nat.le_succ_of_le h.le,λm e i=>?_,λm e a=>?_,h.names,h.dts⟩
 ·have:=h.le;show(s.ob.put s.nx (some o)).get m=_;rw[Tr.get_put,if_neg (by omega)];exact h.same m e i
 have:=h.le;have a:((s.ob.put s.nx (some o)).get m).isSome=true:=a;rw[Tr.get_put,if_neg (by omega)]at a;exact h.old m e a
theorem pq{f:Nat}{sub:Tr Ob}{s:IS}(h:Inv f sub s){T:Nat->Option TI}{val:Operand->V}{g:Option Nat}{op:Op}{r:RB}(u:nD T s.nx val s.ob.get g op=some r)(d:Option Nat):Inv f sub (s.app f d r):=by
 unfold IS.app
 cases v:r.wr with
 |none=>exact h.slot _|some p=>
  obtain⟨n,o⟩:=p
  cases i:r.new with
  |true=>
   obtain⟨note,_,j⟩:=xe u;have:=Le h i (j i) d
   grind[IS.app]
  |false=>
   have a:=nq u v i;refine⟨h.le,λm b w=>?_,λm b c=>?_,h.names,λm b=>?_⟩
   ·show(s.ob.put n (some o)).get m=_;have k:m≠n:=by grind[Ke]
    rw[Tr.get_put,if_neg k];exact h.same m b (λl=>w (Je l))
   ·have c:((s.ob.put n (some o)).get m).isSome=true:=c;rw[Tr.get_put]at c;by_cases e:m=n
    ·subst e;exact h.old m b a
    rw[if_neg e]at c;exact h.old m b c
   rcases Ie b with ⟨rfl,t⟩|t
   ·exact t
   exact h.dts m t
def rq(l:List (Nat×Ob))(n m:Nat)(o:Ob):zA (iF l [(n,some o)]) m=if m=n then some o else zA l m:=by
 simp[iF,jX,lD]
def mY{s:IS}{σ:St}(h:Rel s σ)(d:Option Nat)(x:V)(t:Nat):HA (YC d x σ.slots) t=(match (ZC s.sl d x).get t with|some v=>v|none=>.undef):=by
 rw[EM]
 cases d with
 |none=>exact h.sl t|some d=>
  simp only[ZC,Tr.get_put];by_cases e:d=t
  ·simp_all
  have a:¬t=d:=λh=>e h.symm
  rw[if_neg (by simp_all),if_neg a];exact h.sl t
def nY:∀(l:List (Nat×Ob))(t:Tr Ob)(G:Nat->Option Ob),(∀n o,(n,o)∈l->G n=some o)->∀n,(dG l t).get n=if n∈jA l then G n else t.get n
 |[],t,G,_,n=>by rfl|(k,o)::r,t,G,h,n=>by
  simp only[dG];rw[nY r _ G (λn q a=>h n q (by simp[a])),Tr.get_put];have:jA ((k,o)::r)=k::jA r:=rfl
  grind
def Me{a m:Nat}:∀{l:List (Nat×Ob)}{d:List Nat},m∈XK a l d->(m∈jA l/\m<a)\/m∈d
 |[],d,h=>.inr h|(n,o)::r,d,h=>by
  simp only[XK]at h;have:jA ((n,o)::r)=n::jA r:=rfl;rcases Me h with h|h
  ·simp_all
  rcases Ie h with ⟨rfl,h⟩|h
  ·simp_all
  simp_all
def Oe{a m:Nat}:∀{l:List (Nat×Ob)}{d:List Nat},m∈d->m∈XK a l d
 :=by intro x;induction x<;>simp_all[XK,Je]
def Pe{a m:Nat}(b:m<a):∀{l:List (Nat×Ob)}{d:List Nat},m∈jA l->m∈XK a l d
 |[],d,h=>by grind[jA]|(n,o)::r,d,h=>by
  simp only[XK];rcases List.mem_cons.1 h with rfl|h
  ·exact Oe (Ke b)
  exact Pe b h
section
variable{P:Program}{gl:Nat->Option (List PV)}{s:IS}{f:Nat}{args:List V}{r:GB}{ks:List Nat}{o1 ro:List (Nat×Ob)}
def Called.get(h:Called P gl s f args r ks ro o1)(t:Tr Ob):∃G:Nat->Option Ob,(∀n,(dG r.nw (dG r.ch t)).get n=if n∈jA (r.ch++r.nw)then G n else t.get n)/\∀n,zA (r.ch++r.nw) n=if n∈jA (r.ch++r.nw)then G n else none:=by
 obtain⟨G,b⟩:=h.gfn;refine⟨G,λn=>?_,λn=>?_⟩
 ·have:n∈jA (r.ch++r.nw)↔n∈jA r.ch\/n∈jA r.nw:=by rw[vF,List.mem_append]
  rw[nY r.nw _ G (λn o c=>b n o (by simp[c])),nY r.ch _ G (λn o c=>b n o (by simp[c]))]
  grind
 by_cases a:n∈jA (r.ch++r.nw)
 ·rw[if_pos a];exact Ge b n a
 rw[if_neg a];exact Fe a
def Called.inv(h:Called P gl s f args r ks ro o1){g:Nat}{sub:Tr Ob}(c:Inv g sub s)(d:Option Nat):Inv g sub (AT g s d r):=by
 obtain⟨G,j,_⟩:=h.get s.ob;have:=c.le;have:=h.le;refine⟨by show g<=r.nx;omega,λm b k=>?_,λm b e=>?_,c.names,λm b=>?_⟩
 ·show(dG r.nw (dG r.ch s.ob)).get m=_;rw[j,if_neg]
  ·exact c.same m b (λi=>k (Oe i))
  rw[vF,List.mem_append]
  rintro(a|a)
  ·exact k (Pe b a)
  have:=(h.nws m a).1;omega
 ·have e:((dG r.nw (dG r.ch s.ob)).get m).isSome=true:=e;rw[j]at e;split at e
  ·rename_i a;rw[vF,List.mem_append]at a;rcases a with a|a
   ·exact c.old m b (h.chs m a).2.1
   have:=(h.nws m a).1;omega
  exact c.old m b e
 rcases Me b with a|a
 ·exact a.2
 exact c.dts m a
def Called.rel(h:Called P gl s f args r ks ro o1){σ:St}(c:Rel s σ)(i:Nat)(d:Option Nat):Rel (AT i s d r) (σ.eff d (GK r.x ro o1 (r.ch++r.nw))):=by
 obtain⟨G,j,e⟩:=h.get s.ob;refine⟨λt=>mY c d r.x t,λn=>?_,λn b=>?_⟩
 ·show zA (iF σ.objs (ZG o1 (r.ch++r.nw))) n=(dG r.nw (dG r.ch s.ob)).get n;rw[nI,j,e];by_cases a:n∈jA (r.ch++r.nw)
  ·have g:=GH a
   grind
  rw[if_neg a,if_neg a];rw[if_neg]
  ·exact c.ob n
  intro g;exact a (by rw[vF];simp[h.inch n g])
 show n<r.nx;have:=h.le;rcases List.mem_append.1 b with b|b
 ·obtain⟨a,g⟩:=List.mem_filter.1 b;rw[vF,List.mem_append]at a;rcases a with a|a
  ·have:=(h.chs n a).1;omega
  exact(h.nws n a).2
 have:=c.us n b;omega
def Called.op(h:Called P gl s f args r ks ro o1){X:Env1}(e:X.P=P)(b:X.gl=gl){σ:St}(c:Rel s σ){o:Oper}(g:OC (σ.val X.gl) o.op=some (f,args)):OpW X o σ (GK r.x ro o1 (r.ch++r.nw)):=by
 subst e b;refine OpW.callR f args ro o1 r.x (r.ch++r.nw) g h.ac h.apart (XM λp i=>?_) (λn j k=>?_)
 ·rw[c.ob];exact h.subs p i
 obtain⟨a,d⟩:=List.mem_filter.1 j;rw[vF,List.mem_append]at a;have:=c.us n k;rcases a with a|a
 ·obtain⟨q,l⟩:=GH (h.chs n a).2.2;rw[l]at d;cases d
 have:=(h.nws n a).1;omega
end
def PQ(b:MA)(P:Program)(call:Call):Prop:=∀(f:Nat)(args:List V)(s:IS)(r:GB)(a:List Nat),call f args s=some (r,a)->∃ro c,Called P b.gl s f args r a ro c
def cI(e:Eff)(a:Tc):Prop:=(∀n∈e.wn,n∈a.wn)/\∀n∈e.rd,n∈a.rd
section
variable{ev:MA}{P:Program}{call:Call}
def sq(c:PQ ev P call){a:Nat}{o:Oper}{s b:IS}{d:Tc}(h:cJ ev call a o s=some (b,d)){sub:Tr Ob}(e:Inv a sub s):Inv a sub b:=by
 unfold cJ at h;split at h
 ·unfold callR at h;split at h
  ·rename_i r i f;cases h;obtain⟨ro,j,g⟩:=c _ _ _ _ _ f;exact g.inv e _
  cases h
 grind[pq]
def Qe{y:Nat}{o:Oper}{s:IS}{r:RB}{note:gC}(z:yG (gA ev.T note (s.val ev.gl) s.ob.get o.dst o.op) r)(h:r.new=true->∃j,r.wr=some (s.nx,j)){X:Env1}(k:X.T=ev.T)(i:X.gl=ev.gl){σ:St}(f:Rel s σ):
  ∃e,OpW X o σ e/\Rel (s.app y o.dst r) (σ.eff o.dst e)/\cI e ⟨match r.wr with|some (n,_)=>[n]|none=>[],vE (s.val ev.gl) o.op⟩:=by
 obtain⟨q,A,B,E,l,w⟩:=z;have g:=f.val ev.gl;have u:OpW X o σ (q.eff (vE (σ.val X.gl) o.op)):=by
  refine .step note q ?_ B λn a=>?_
  ·rw[i,k,g,f.obf];exact A
  simp only[R.eff,l,w]at a
  cases b:r.wr with
  |none=>rw[b]at a;simp at a|some p=>
   obtain⟨m,F⟩:=p;rw[b]at a
   cases c:r.new with
   |false=>rw[c]at a;simp at a|true=>
    rw[c]at a;obtain⟨j,d⟩:=h c;rw[b]at d;cases d;simp at a;subst a;intro C;exact absurd (f.us _ C) (Nat.lt_irrefl _)
 refine⟨_,u,?_,?_,?_⟩
 ·--D v
  refine⟨λt=>?_,λn=>?_,λn a=>?_⟩
  ·have:HA (YC o.dst q.out σ.slots) t=_:=mY f o.dst q.out t;show HA (YC o.dst q.out σ.slots) t=_;unfold IS.app
   grind
  ·show zA (iF σ.objs (match q.wr with|some (n,o)=>[(n,some o)]|none=>[])) n=_;rw[l];unfold IS.app
   cases b:r.wr with
   |none=>exact f.ob n|some p=>
    rw[rq,f.ob];cases r.new<;>exact(Tr.get_put _ _ _ _).symm
  have a:n∈(match q.wr,q.new with|some (n,_),true=>[n]|_,_=>[])++σ.used:=a;rw[l,w]at a;unfold IS.app
  cases b:r.wr with
  |none=>rw[b]at a;exact f.us n a|some p=>
   rw[b]at a
   cases c:r.new with
   |false=>rw[c]at a;exact f.us n a|true=>
    rw[c]at a;obtain⟨j,d⟩:=h c;rw[b]at d;cases d;simp at a;show n<Nat.succ s.nx;rcases a with x|x
    ·omega
    exact Nat.lt_succ_of_lt (f.us n x)
 ·grind[Eff.wn,R.eff]
 intro n a;rw[i,g]at a;exact a
def cq(p:PQ ev P call){j:Nat}{o:Oper}{s k:IS}{l:Tc}(h:cJ ev call j o s=some (k,l)){X:Env1}(t:X.P=P)(g:X.T=ev.T)(b:X.gl=ev.gl){σ:St}(c:Rel s σ):
  ∃e,OpW X o σ e/\Rel k (σ.eff o.dst e)/\cI e l:=by
 unfold cJ at h;split at h
 ·rename_i f args u;unfold callR at h;split at h
  ·rename_i r A v;cases h;obtain⟨ro,w,d⟩:=p _ _ _ _ _ v;refine⟨_,d.op t b c (by rw[c.val,b];exact u),d.rel c j _,λn a=>?_,λn a=>?_⟩
   ·have a:n∈(ZG w (r.ch++r.nw)).map (·.1):=a;simp only[ZG,List.map_append,List.map_map,List.mem_append]at a⊢;rcases a with a|a
    ·obtain⟨m,x,rfl⟩:=List.mem_map.1 a;have:=d.inch m (List.mem_filter.1 x).1;exact .inl this
    grind
   exact d.kss n a
  cases h
 split at h
 ·rename_i r y;cases h;obtain⟨note,z,i⟩:=xe y;exact Qe z i g b c
 cases h
end
def pY:∀(l:List (Option Nat×Eff))(k:Nat)(s:St),EA (λ_=>true) k l s=EA (λ_=>true) 0 l s|[],k,s=>rfl|p::r,k,s=>by simp[EA,if_true,pY]
def rY{s:IS}{σ:St}(a:Rel s σ)(all:List Oper)(j:Nat):CT all s j=gv all σ j:=by
 unfold CT gv
 cases all[j]? with
 |none=>rfl|some o=>
  simp only
  cases o.dst with|none=>rfl|some d=>simp only[a.sl]<;>rfl
section
variable{ev:MA}{P:Program}{call:Call}
def Re{s:IS}{σ:St}(a:Rel s σ)(d:Option Nat):Rel ⟨ZC s.sl d YK,s.ob,s.nx,s.dt⟩ (σ.eff d PC):=
 ⟨λt=>mY a d YK t,λn=>a.ob n,λn b=>a.us n (by grind[St.eff,PC])⟩
def TcsOK(b:List Eff)(a:List Tc):Prop:=a.length=b.length/\∀(i:Nat)(e:Eff)(c:Tc),b[i]? =some e->a[i]? =some c->cI e c
def TcsOK.cons{e:Eff}{tc:Tc}{c:List Eff}{a:List Tc}(h:cI e tc)(d:TcsOK c a):TcsOK (e::c) (tc::a):=by
 refine⟨by simp[d.1],λi f b g j=>?_⟩
 cases i with|zero=>simp_all|succ i=>exact d.2 i f b (by simp_all) (by simp_all)
def Se{X:Env1}{C:Ctx}(x:EB X.P X.T)(y:GOK X.gl C.E0.H)(r:C.nt=X.nt){g:List Oper}{Q:Exit->Act->World->Prop}{o:Oper}{f:List Oper}{e:Eff}{σ:St}{E:Env}{a:Act}{w:World}(h:mJ X g o σ e)(l:Ga C E σ a w)
  (s:∀E a w,Ga C E (σ.eff o.dst e) a w->wpList X.P g.toArray Q f a w):wpList X.P g.toArray Q (o::f) a w:=by
 obtain⟨u,z⟩:=h;have i:∀d,o.dst=some d->d<C.nt:=by
  intro d e;rw[e]at u;rw[r];exact u
 have:OpW X o σ e->o.wp X.P a w (wpList X.P g.toArray Q f) Q:=λt=>t.sound x y l i s
 unfold wpList;rcases z with ⟨c,t⟩|⟨j,m,b,c,p,⟨k,t⟩|⟨k,rfl⟩⟩|⟨j,m,c,p,rfl⟩
 ·rw[if_pos (by simp[Region.wanted,c])];simp_all
 ·have n:=gX l p;rw[if_pos (by simp[Region.wanted,c,n,k])];simp_all
 ·have n:=gX l p;rw[if_neg (by simp[Region.wanted,c,n,k])];exact s E _ w (zT l i)
 have n:=xd l p;rw[if_neg (by simp[Region.wanted,c,n])];exact s E _ w (zT l i)
def Te{X:Env1}{C:Ctx}(j:EB X.P X.T)(k:GOK X.gl C.E0.H)(c:C.nt=X.nt){b:List Oper}{Q:Exit->Act->World->Prop}:∀(l:List Oper)(f:List Eff)(σ:St)(E:Env)(a:Act)(w:World),GM X b l f σ->Ga C E σ a w->
  (∀E a w,Ga C E (EA (λ_=>true) 0 (zB l f) σ) a w->Q .normal a w)->wpList X.P b.toArray Q l a w
 |[],[],σ,E,a,w,_,d,g=>g E a w d|[],_::_,_,_,_,_,h,_,_=>h.elim|o::b,[],_,_,_,_,h,_,_=>h.elim|o::b,e::f,σ,E,a,w,h,d,g=>Se j k c h.1 d λl m n i=>Te j k c b f _ l m n h.2 i λE a w d=>by
  refine g E a w ?_;simp only[zB,List.map_cons,List.zip_cons_cons,EA,if_true];rw[pY];exact d
def AWP.seqR{X:Env1}{id:Nat}{b:Array Oper}{c:List Eff}{σ:St}{Q:uB->St->Prop}(h:GM X b.toList b.toList c σ)(f:Q .normal (EA (λ_=>true) 0 (zB b.toList c) σ)):AWP X (.region id b false) σ Q:=by
 intro C E a w e d;refine wp_region_list ?_;have:=Te X.ok e.glob e.nt (Q:=nJ C Q) b.toList c σ E a w h d (λE a w d=>⟨E,_,.normal,d,rfl,f⟩);omega
def AWP.anyR{X:Env1}{id:Nat}{b:Array Oper}{c:List Eff}{σ:St}{Q:uB->St->Prop}(h:c.length=b.toList.length)(j:GM X b.toList b.toList c σ)(l:IK b.toList c=true)(m:Q .normal (EA (λ_=>true) 0 (zB b.toList c) σ)):AWP X (.region id b true) σ Q:=by
 intro C E a w f d;refine wp_region_any X.mix ?_;have e:Ga C E σ a {w with drawn:=w.drawn+1}:=d.drew;have:∀(r:List (Option Nat×Eff))(k:Nat)(s:St),EA (λ_=>false) k r s=s:=by
  intro r;induction r with|nil=>intro k s;rfl|cons p r o=>grind[EA]
 have:∀i,(Array.replicate b.size false).getD i false=false:=by
  intro i;rw[Array.getD_eq_getD_getElem?,Array.getElem?_replicate];split<;>rfl
 have:=Qo (X:=X) (C:=C) (Q:=nJ C Q) X.ok f.glob f.nt h j l (λE a w d=>⟨E,_,.normal,d,rfl,m⟩) b.size (Array.replicate b.size false) E a _ (by simp) (by
  simp) (by
  simp_all) (e.of_ext (by
   simp_all) (by
   simp_all) (by
   simp_all))
 omega
def sY:∀{b:List Tc},eJ b=true->∀t∈b,t.wn=[]
 |[],_,_,h=>by cases h
 |t::r,h,u,a=>by
  unfold eJ at h;split at h
  ·rename_i e;rcases List.mem_cons.1 a with rfl|a
   ·exact e
   exact sY h u a
  cases h
def xq{c:Array Oper}{k m:Oper}{e d:Eff}{o p:Tc}(r:cI e o)(g:cI d p)(f:OQ o p=true)(t:xD c k e m d=true):ZX c k m=true:=by
 unfold OQ at f;rw[Bool.and_eq_true,List.all_eq_true,List.all_eq_true]at f;have b:∀(l:List Nat)(n:Nat),(!mD l n)=true->n∉l:=λl n h s=>by rw[(OH l n).2 s]at h;cases h
 have:(e.wn.any λn=>d.rd.contains n||d.wn.contains n)=false:=by
  rw[List.any_eq_false];intro n i a;have j:=f.1 n (r.1 n i);rw[Bool.and_eq_true]at j;simp only[Bool.or_eq_true,List.contains_iff_mem]at a;rcases a with a|a
  ·exact b _ _ j.1 (g.2 n a)
  exact b _ _ j.2 (g.1 n a)
 have:(d.wn.any λn=>e.rd.contains n)=false:=by
  rw[List.any_eq_false];intro n i a;simp only[List.contains_iff_mem]at a;exact b _ _ (f.2 n (g.1 n i)) (r.2 n a)
 grind[xD,ZX]
def Ue{a:List Oper}{d:List Eff}{b:List Tc}(o:NQ a=true)(e:eJ b.reverse=true\/VM a b=true)(B:d.length=a.length)(p:TcsOK d b):IK a d=true:=by
 unfold IK;unfold NQ at o;rw[List.all_eq_true]at o⊢;intro j r;have s:j<a.length:=by simpa using r
 have c:=o j r;have l:j<d.length:=by omega
 have m:j<b.length:=by rw[p.1];omega
 rw[List.getElem?_eq_getElem s]at c⊢;rw[List.getElem?_eq_getElem l];simp only[Bool.and_eq_true,List.all_eq_true]at c⊢;refine⟨c.1,λi t=>?_⟩;have x:i<j:=by simpa using t
 have f:=c.2 i t;rw[List.getElem?_eq_getElem (show i<a.length by omega)]at f⊢;rw[List.getElem?_eq_getElem (show i<d.length by omega)];simp only[Bool.or_eq_true]at f⊢;by_cases w:xD a.toArray a[i] d[i] a[j] d[j]=true
 ·right;have u:=p.2 i _ _ (List.getElem?_eq_getElem (show i<d.length by omega)) (List.getElem?_eq_getElem (show i<b.length by omega));have v:=p.2 j _ _ (List.getElem?_eq_getElem l) (List.getElem?_eq_getElem m);have n:OQ b[i] b[j]=true->((aE a []).getD j 0).testBit i=true:=by
   intro y;have:=xq u v y w;rcases f with h|h
   ·rw[this]at h;cases h
   exact h
  rcases e with e|e
  ·refine n ?_;have z:=sY e b[i] (by simp);have A:=sY e b[j] (by simp);simp[OQ,z,A]
  unfold VM at e;rw[List.all_eq_true]at e;have g:=e j r;rw[List.getElem?_eq_getElem m]at g;simp only[List.all_eq_true]at g;have k:=g i t;rw[List.getElem?_eq_getElem (show i<b.length by omega)]at k;simp only[Bool.or_eq_true]at k;rcases k with h|h
  ·exact n h
  exact h
 left;simpa using w
def Aq{a:Nat}{sub:Tr Ob}(l:List Nat){s:IS}(b:Inv a sub s):Inv a sub (iJ a l s):=by
 grind[iJ,Nat.beq,yq]
def FT{bs:Nat}(l:List Nat){s:IS}{σ:St}(a:Rel s σ):∃σ',Wk σ σ'/\Rel (iJ bs l s) σ':=by
 unfold iJ;cases Nat.beq s.nx bs
 ·exact kY l a
 grind[Wk.refl]
end
end Go.Lg
