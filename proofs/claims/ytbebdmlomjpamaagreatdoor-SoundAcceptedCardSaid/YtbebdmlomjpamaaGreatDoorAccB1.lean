/- The engine that computes runs; no conditions. -/
import Derived.Test.YtbebdmlomjpamaaGreatDoorAccA4
set_option linter.all false
namespace Go.Lg
inductive Tr(α:Type) where|nil|node (l:Tr α) (v:Option α) (r:Tr α)
theorem ME{a b:Nat}(h:a=b):Nat.beq a b=true:=by subst h;exact Nat.beq_refl a
theorem pL{a b:Nat}(h:a≠b):Nat.beq a b=false:=by
 cases e:Nat.beq a b with|false=>rfl|true=>simp_all
def Tr.get{α:Type}:Tr α->Nat->Option α|.nil,_=>none|.node l v r,i=>bif Nat.beq i 0 then v else bif Nat.beq (Nat.mod i 2) 1 then l.get (Nat.div i 2)else r.get (Nat.pred (Nat.div i 2))
def Tr.putF{α:Type}:Nat->Tr α->Nat->Option α->Tr α|0,t,_,_=>t|f+1,.nil,i,x=>bif Nat.beq i 0 then .node .nil x .nil else bif Nat.beq (Nat.mod i 2) 1 then .node (Tr.putF f .nil (Nat.div i 2) x) none .nil else .node .nil none (Tr.putF f .nil (Nat.pred (Nat.div i 2)) x)|f+1,.node l v r,i,x=>bif Nat.beq i 0 then .node l x r else bif Nat.beq (Nat.mod i 2) 1 then .node (Tr.putF f l (Nat.div i 2) x) v r else .node l v (Tr.putF f r (Nat.pred (Nat.div i 2)) x)
def Tr.put{α:Type}(t:Tr α)(i:Nat)(x:Option α):Tr α:=Tr.putF (Nat.succ i) t i x
def Tr.map{α g:Type}(f:α->g):Tr α->Tr g|.nil=>.nil|.node l v r=>.node (l.map f) (v.map f) (r.map f)
def Tr.get_nil{α:Type}(i:Nat):(Tr.nil:Tr α).get i=none:=rfl
def Tr.get_node{α:Type}(l:Tr α)(v:Option α)(r:Tr α)(i:Nat):(Tr.node l v r).get i=if i=0 then v else if i%2=1 then l.get (i / 2)else r.get (i / 2-1):=by
 show(bif Nat.beq i 0 then v else bif Nat.beq (Nat.mod i 2) 1 then l.get (Nat.div i 2)else r.get (Nat.pred (Nat.div i 2)))=_;by_cases h:i=0
 ·simp_all
 rw[e9 h,pL h];by_cases a:i%2=1
 ·rw[gm a,show Nat.beq (Nat.mod i 2) 1=true from ME a];rfl
 rw[e9 a,show Nat.beq (Nat.mod i 2) 1=false from pL a];rfl
def lh:=@Nat.not_lt_zero
def Tr.get_putF{α:Type}:∀(f:Nat)(t:Tr α)(i:Nat)(x:Option α)(j:Nat),i<f->(Tr.putF f t i x).get j=if j=i then x else t.get j
 |0,_,_,_,_,h=>absurd h (lh _)|f+1,t,i,x,j,h=>by
  have key:∀(l:Tr α)(v:Option α)(r:Tr α),
    (bif Nat.beq i 0 then Tr.node l x r else bif Nat.beq (Nat.mod i 2) 1 then .node (Tr.putF f l (Nat.div i 2) x) v r else .node l v (Tr.putF f r (Nat.pred (Nat.div i 2)) x)).get j=if j=i then x else(Tr.node l v r).get j:=by
   intro l v r;by_cases d:i=0
   ·subst d;show(Tr.node l x r).get j=_;rw[Tr.get_node,Tr.get_node];simp_all
   rw[show Nat.beq i 0=false from pL d];simp only[gp];by_cases e:i%2=1
   ·rw[show Nat.beq (Nat.mod i 2) 1=true from ME e];simp only[gb];rw[Tr.get_node,Tr.get_node];have c:=Tr.get_putF f l (i / 2) x (j / 2) a6;by_cases b:j=0
    ·grind
    rw[e9 b,e9 b];by_cases a:j%2=1
    ·rw[gm a,gm a];refine c.trans ?_
     grind
    grind
   rw[show Nat.beq (Nat.mod i 2) 1=false from pL e];simp only[gp];rw[Tr.get_node,Tr.get_node];have c:=Tr.get_putF f r (i / 2-1) x (j / 2-1) a6;by_cases b:j=0
   ·grind
   rw[e9 b,e9 b];by_cases a:j%2=1
   ·rw[gm a,gm a,e9 a6]
   rw[e9 a,e9 a];refine c.trans ?_
   grind
  cases t with
  |nil=>
   have:=key .nil none .nil;simp only[Tr.get_node,Tr.get_nil,ite_self]at this⊢;exact this
  |node l v r=>exact key l v r
theorem Tr.get_put{α:Type}(t:Tr α)(i:Nat)(x:Option α)(j:Nat):(t.put i x).get j=if j=i then x else t.get j:=Tr.get_putF _ t i x j (Nat.lt_succ_self i)
def Tr.get_map{α g:Type}(f:α->g):∀(t:Tr α)(i:Nat),(t.map f).get i=(t.get i).map f
 |.nil,_=>rfl|.node l v r,i=>by
  show(Tr.node (l.map f) (v.map f) (r.map f)).get i=_;rw[Tr.get_node,Tr.get_node];split
  ·rfl
  split
  ·exact Tr.get_map f l _
  exact Tr.get_map f r _
def rL{α:Type}:List α->Nat->List α
 |[],_=>[]|a::l,n=>match n with|0=>a::l|m+1=>rL l m
def LU{α:Type}:∀(l:List α)(n:Nat),rL l n=l.drop n|[],n=>by simp[rL]|a::l,0=>rfl|a::l,n+1=>by simp[rL,List.drop_succ_cons,LU]
def nP{α:Type}:List α->Nat->Option (List α)
 |[],n=>match n with|0=>some []|_+1=>none
 |a::l,n=>match n with
  |0=>some []|m+1=>match nP l m with|some r=>some (a::r)|none=>none
def MU{α:Type}:∀(l:List α)(n:Nat),nP l n=if n<=l.length then some (l.take n)else none
 |[],0=>rfl|[],n+1=>rfl|a::l,0=>rfl|a::l,n+1=>by
  simp only[nP,MU l n,hW,Nat.add_le_add_iff_right]
  grind
def nB{α:Type}:List α->Nat->Option α
 |[],_=>none|a::l,n=>match n with|0=>some a|m+1=>nB l m
def mI{α:Type}:∀(l:List α)(n:Nat),nB l n=l[n]?|[],n=>by simp[nB]|a::l,0=>rfl|a::l,n+1=>by simp[nB,mI]
def WI{α:Type}:List α->Nat->List α->Option (List α)
 |a,0,[]=>some a|[],0,_::_=>none|_::a,0,y::b=>match WI a 0 b with|some r=>some (y::r)|none=>none
 |[],_+1,_=>none|c::a,n+1,b=>match WI a n b with|some r=>some (c::r)|none=>none
def NU{α:Type}:∀(a:List α)(n:Nat)(b r:List α),WI a n b=some r->n+b.length<=a.length/\r=a.take n++b++a.drop (n+b.length)
 |a,0,[],r,h=>by grind[WI,Option.some.injEq]|[],0,_::_,r,h=>by grind[WI]|c::a,0,y::b,r,h=>by
  simp only[WI]at h;split at h
  ·rename_i d e;have⟨f,g⟩:=NU a 0 b d e;simp_all
  cases h
 |[],n+1,b,r,h=>by grind[WI]|c::a,n+1,b,r,h=>by
  simp only[WI]at h;split at h
  ·rename_i d e;have⟨f,g⟩:=NU a n b d e
   grind
  cases h
structure RB where
 x:V
 wr:Option (Nat×Ob)
 new:Bool
def rb(x:V):Option RB:=some ⟨x,none,false⟩
def JD:List Nat->Nat->Bool|[],_=>false|k::r,n=>bif Nat.beq k n then true else JD r n
theorem nI:∀(l:List Nat)(n:Nat),JD l n=true↔n∈l
 :=by intro x;induction x<;>simp_all[JD,ME,pL,gp,e8,absurd]<;>grind
def xA:Int->Bool|.ofNat n=>Nat.ble n 9223372036854775807|.negSucc n=>Nat.ble n 9223372036854775807
def aaz:=@Int.ofNat_eq_natCast
def gi:=@Nat.le_of_ble_eq_true
def Vt{x:Int}(h:xA x=true):qP x:=by
 cases x with|ofNat n=>have:=gi h;constructor<;>simp only[aaz]<;>omega|negSucc n=>have:=gi h;constructor<;>omega
def dA:Int->Int->Bool|.ofNat m,.ofNat n=>Nat.blt m n|.negSucc m,.negSucc n=>Nat.blt n m|.negSucc _,.ofNat _=>true|.ofNat _,.negSucc _=>false
theorem ZJ(m n:Nat):Nat.blt m n=decide (m<n):=by
 grind[Nat.blt,Nat.le_of_ble_eq_true,decide_eq_true,decide_eq_false,Nat.ble,Nat.ble_eq_true_of_le]
theorem vC(a b:Int):dA a b=decide (a<b):=by
 cases a<;>cases b<;>simp only[dA]
 ·rw[ZJ];simp
 ·rfl
 ·grind
 grind[ZJ]
def sB:Int->Int->Bool|.ofNat m,.ofNat n=>Nat.beq m n|.negSucc m,.negSucc n=>Nat.beq m n|_,_=>false
def vh(m n:Nat):Nat.beq m n=decide (m=n):=by
 grind[ME,pL]
def XI(a b:Int):sB a b=decide (a=b):=by
 cases a<;>cases b<;>simp only[sB]
 ·rw[vh];grind
 ·rfl
 ·rfl
 simp[vh]
def Got(o:Option R)(x:V):Prop:=∃q,o=some q/\q.cond/\q.out=x/\q.wr=none/\q.new=false
def bv(b:Bool):V:=.pv (.bool b)
def oH(x:Int):Option V:=bif xA x then some (.pv (.int x))else none
def sL(op:BinOp)(a b:Int):Option V:=match op with|.add=>oH (a+b)|.sub=>oH (a-b)|.mul=>oH (a*b)|.rem=>bif sB b 0 then none else some (.pv (.int (a.tmod b)))|.lss=>some (bv (dA a b))|.leq=>some (bv (!dA b a))|.gtr=>some (bv (dA b a))|.geq=>some (bv (!dA a b))|.eql=>some (bv (sB a b))|.neq=>some (bv (!sB a b))|_=>none
def Wt{op:BinOp}{a b:Int}{x:V}(h:sL op a b=some x):Got (mU op a b) x:=by
 have i:∀c:Int,oH c=some x->Got (some (R.ofIf (qP c) (.pv (.int c)))) x:=by
  intro c f;unfold oH at f
  cases e:xA c with
  |true=>rw[e]at f;cases f;exact⟨_,rfl,Vt e,rfl,rfl,rfl⟩
  |false=>rw[e]at f;cases f
 have g:∀c d:Bool,c=d->some (bv c)=some x->Got (fC d) x:=by
  intro c d e f;subst e;cases f;exact⟨_,rfl,trivial,rfl,rfl,rfl⟩
 cases op<;>simp only[sL]at h<;>try cases h<;>done
 case add=>exact i _ h
 case sub=>exact i _ h
 case mul=>exact i _ h
 case rem=>
  cases e:sB b 0 with
  |true=>rw[e]at h;cases h
  |false=>
   rw[e]at h;cases h;rw[XI]at e;exact⟨_,rfl,(show b≠0 by simp_all),rfl,rfl,rfl⟩
 case lss=>exact g _ _ (vC a b) h
 case leq=>exact g _ _ (by rw[vC];by_cases j:b<a<;>simp[j]<;>omega) h
 case gtr=>exact g _ _ (vC b a) h
 case geq=>exact g _ _ (by rw[vC];by_cases j:a<b<;>simp[j]<;>omega) h
 case eql=>exact g _ _ (XI a b) h
 case neq=>exact g _ _ (by rw[XI]) h
def tB(n:Nat):List (List PV)->Bool|[]=>true|y::r=>bif Nat.beq y.length n then tB n r else false
def DN{n:Nat}:∀{l:List (List PV)},tB n l=true->∀y∈l,y.length=n
 |[],_,_,h=>by cases h
 |y::r,h,z,a=>by
  unfold tB at h
  cases e:Nat.beq y.length n with
  |false=>rw[e]at h;cases h
  |true=>
   rw[e]at h;rcases e8.1 a with rfl|a
   ·simp_all
   exact DN h z a
def VC(n:Nat):List (List V)->Bool|[]=>true|y::r=>bif Nat.beq y.length n then VC n r else false
def IR{n:Nat}:∀{l:List (List V)},VC n l=true->∀y∈l,y.length=n
 |[],_,_,h=>by cases h
 |y::r,h,z,a=>by
  unfold VC at h
  cases e:Nat.beq y.length n with
  |false=>rw[e]at h;cases h
  |true=>
   rw[e]at h;rcases e8.1 a with rfl|a
   ·simp_all
   exact IR h z a
def EN:List V->Bool|[]=>true|y::r=>bif y.one then EN r else false
def JR:∀{l:List V},EN l=true->l.all V.one=true
 |[],_=>rfl|y::r,h=>by
  unfold EN at h
  cases e:y.one with
  |false=>rw[e]at h;cases h
  |true=>rw[e]at h;simp only[List.all_cons,e,abz];exact JR h
def CC:List (List V)->Bool|[]=>true|y::r=>bif EN y then CC r else false
def LR:∀{l:List (List V)},CC l=true->∀y∈l,y.all V.one=true
 |[],_,_,h=>by cases h
 |y::r,h,z,a=>by
  unfold CC at h
  cases e:EN y with
  |false=>rw[e]at h;cases h
  |true=>
   rw[e]at h;rcases e8.1 a with rfl|a
   ·exact JR e
   exact LR h z a
def OU(agg:Bool)(n:Nat)(a:List PV):Option V:=match agg with
 |true=>match nP a n with|some l=>some (.pv (.agg l))|none=>none
 |false=>match a with|c::_=>some (.pv c)|[]=>none
def wh{agg:Bool}{n:Nat}{a:List PV}{x:V}(h:OU agg n a=some x):Got (mR agg n a) x:=by
 unfold OU at h
 cases agg with
 |true=>
  simp only[MU]at h;by_cases e:n<=a.length
  ·rw[gm e]at h;cases h;exact⟨_,rfl,e,rfl,rfl,rfl⟩
  simp_all
 |false=>
  cases a with
  |nil=>cases h
  |cons c a=>cases h;exact⟨_,rfl,trivial,rfl,rfl,rfl⟩
def MR:List V->Option (List PV)
 |[]=>some []|c::a=>match c with
  |.pv p=>match MR a with|some r=>some (p::r)|none=>none
  |_=>none
def pZ:∀(l:List V),MR l=KE l
 |[]=>rfl|c::a=>by
  cases c<;>simp only[MR,KE,V.un,pZ a]
  grind
def OR(a:List V):V:=match MR a with|some b=>.pv (.agg b)|none=>.agg a
def rZ(a:List V):OR a=tH a:=by unfold OR tH;rw[pZ];cases KE a<;>rfl
def QR(agg:Bool)(n:Nat)(a:List V):Option V:=match agg with
 |true=>match nP a n with|some l=>some (OR l)|none=>none
 |false=>match a with|c::_=>some c|[]=>none
def yh(agg:Bool)(n:Nat)(a:List V):QR agg n a=NI agg n a:=by
 unfold QR NI
 cases agg with
 |true=>
  simp only[if_true,MU,rZ]
  grind
 |false=>rfl
def sZ(a:TI)(d:Nat->Option Ob)(x:V):Option V:=match x with
 |.pv (.ptr b)=>OU a.isAgg a.size b|.pv (.nptr b)=>OU a.isAgg a.size b|.loc n off=>match d n with|some (.box b)=>QR a.isAgg a.size (rL b off)|_=>none
 |.eloc n c i off=>match d n with
  |some (.arr b _ _ d)=>match nB d i with|some e=>bif Nat.beq c b then QR a.isAgg a.size (rL e off)else none|none=>none
  |_=>none
 |_=>none
def gq:=@Nat.eq_of_beq_eq_true
def Xt{d:TI}{f:Nat->Option Ob}{x y:V}(h:sZ d f x=some y):Got (nN d f x) y:=by
 unfold sZ at h;unfold nN;split at h
 ·exact wh h
 ·exact wh h
 ·split at h
  ·rename_i j e;rw[yh,LU]at h;simp only[e,h];exact⟨_,rfl,trivial,rfl,rfl,rfl⟩
  cases h
 ·rename_i n b i off;split at h
  ·rename_i a k l m e;rw[mI]at h;split at h
   ·rename_i o g
    cases c:Nat.beq b a with
    |false=>rw[c]at h;cases h
    |true=>
     rw[c]at h;simp only[gb]at h;rw[yh,LU]at h;simp only[e,g,h];exact⟨_,rfl,gq c,rfl,rfl,rfl⟩
   cases h
  cases h
 cases h
def EG(o:Option R)(r:RB):Prop:=∃q,o=some q/\q.cond/\q.out=r.x/\q.wr=r.wr/\q.new=r.new
def Got.r{o:Option R}{x:V}(h:Got o x):EG o ⟨x,none,false⟩:=h
def bB{α:Type}{c:Bool}{a:Option α}{x:α}(h:(bif c then a else none)=some x):c=true/\a=some x:=by
 grind
def abD:=@of_decide_eq_true
def GG{m n:Nat}(h:Nat.blt m n=true):m<n:=by rw[ZJ]at h;exact abD h
def UR(q:PV)(y:V):Option RB:=match q with
 |.nptr a=>match a with
  |c::_=>match c with
   |.flg p=>match y with
    |.pv z=>match z with|.bool b=>bif (bif b then p else true)then some ⟨.undef,none,false⟩else none|_=>none
    |_=>none
   |_=>none
  |[]=>none
 |_=>none
def uh{q:PV}{y:V}{r:RB}(h:UR q y=some r):∃p l b,q=.nptr (.flg p::l)/\y=.pv (.bool b)/\(b=true->p=true)/\r=⟨.undef,none,false⟩:=by
 unfold UR at h;split at h
 ·grind
 cases h
def FN(c:TI)(a:Nat->Option Ob)(x y:V):Option RB:=match AG y with
 |none=>none|some b=>bif Nat.beq b.length c.size then(bif EN b then(match x with
  |.loc n off=>match a n with
   |some (.box c)=>match WI c off b with|some r=>some ⟨.undef,some (n,.box r),false⟩|none=>none
   |_=>none
  |.eloc n c i off=>match a n with
   |some (.arr a d g f)=>bif Nat.beq c a then(bif Nat.ble (off+b.length) d then(match nB f i with
    |some e=>some ⟨.undef,some (n,.arr a d g (f.set i (oE e off b))),false⟩|none=>none)else none)else none
   |_=>none
  |.pv q=>UR q y|_=>none)else none)else none
def bh{k:TI}{m:Nat->Option Ob}{x y:V}{r:RB}(h:FN k m x y=some r):EG (pN k m x y) r:=by
 unfold FN at h;unfold pN;split at h
 ·cases h
 rename_i v o;have a:=(bB h).1;replace h:=(bB h).2;have s:=(bB h).1;replace h:=(bB h).2;have a:=gq a;simp only[o];split at h
 ·rename_i n off;split at h
  ·rename_i w c;split at h
   ·rename_i q z;cases h;have⟨d,f⟩:=NU w off v q z;simp only[c];exact⟨_,rfl,⟨a,d,JR s⟩,rfl,by rw[f];rfl,rfl⟩
   cases h
  cases h
 ·rename_i n A i off;split at h
  ·rename_i t D E u c;have d:=(bB h).1;replace h:=(bB h).2;have f:=(bB h).1;replace h:=(bB h).2;split at h
   ·rename_i e g;cases h;rw[mI]at g;have j:i<u.length:=(gf.1 g).1;have B:u.getD i []=e:=by rw[aaw,g];rfl
    simp only[c];exact⟨_,rfl,⟨gq d,j,a,gi f,JR s⟩,rfl,by rw[B],rfl⟩
   cases h
  cases h
 ·obtain⟨p,l,b,rfl,rfl,C,rfl⟩:=uh h;refine⟨_,rfl,⟨?_,C⟩,rfl,rfl,rfl⟩;cases o;exact a.symm
 cases h
def uF:Int->Option Nat|.ofNat n=>some n|.negSucc _=>none
theorem tL{i:Int}{n:Nat}(h:uF i=some n):i=n:=by
 cases i with|ofNat k=>grind[uF,Option.some.injEq]|negSucc k=>cases h
def PU(T:Nat->Option TI)(b:Nat->Option Ob)(t:Nat)(x i:V):Option V:=match i with
 |.pv (.int z)=>match uF z with
  |some k=>match T t with
   |some ⟨.slice e,_,_,_,_⟩=>match T e with
    |some c=>match x with
     |.pv (.slice d)=>match nB d k with|some e=>bif tB c.size d then some (.pv (.ptr e))else none|none=>none
     |.arr n a len=>match b n with|some (.arr b f _ d)=>bif Nat.beq a b then(bif Nat.blt k len then(bif Nat.beq f c.size then(bif Nat.ble len d.length then some (.eloc n a k 0)else none)else none)else none)else none|_=>none
     |_=>none
    |none=>none
   |some ⟨.array m e,_,_,_,_⟩=>match T e with|some c=>bif Nat.blt k m then yL x (k*c.size)else none|none=>none
   |_=>none
  |none=>none
 |_=>none
def Yt{T:Nat->Option TI}{p:Nat->Option Ob}{t:Nat}{x i y:V}(h:PU T p t x i=some y):Got (rN T p t x i) y:=by
 unfold PU at h;unfold rN;split at h
 ·rename_i z;split at h
  ·rename_i k s;have u:=tL s;subst u;simp only[aaA];split at h
   ·rename_i e a b c d g;simp only[g];split at h
    ·rename_i v f;simp only[f];split at h
     ·rename_i j;split at h
      ·rename_i w l;have⟨n,h⟩:=bB h;cases h;rw[mI]at l;have A:k<j.length:=(gf.1 l).1;have B:j.getD k []=w:=by rw[aaw,l];rfl
       refine⟨_,rfl,?_,by rw[B];rfl,rfl,rfl⟩;exact⟨a6,a6,DN n⟩
      cases h
     ·split at h
      ·rename_i r F G j C;have⟨o,h⟩:=bB h;have⟨n,h⟩:=bB h;have⟨D,h⟩:=bB h;have⟨E,h⟩:=bB h;cases h;simp only[C];refine⟨_,rfl,?_,rfl,rfl,rfl⟩;exact⟨gq o,a6,by have:=GG n;omega,gq D,gi E⟩
      cases h
     cases h
    cases h
   ·rename_i m e a b c d g;simp only[g];split at h
    ·rename_i v f;have⟨o,h⟩:=bB h;simp only[f,h];refine⟨_,rfl,?_,rfl,rfl,rfl⟩;exact⟨a6,by have:=GG o;omega⟩
    cases h
   cases h
  cases h
 cases h
def tZ(c:Nat->Option Ob)(x:V):Option V:=match x with
 |.pv (.slice a)=>some (.pv (.int (.ofNat a.length)))|.pv .nils=>some (.pv (.int 0))|.gsl _ _ a=>some (.pv (.int (.ofNat a.length)))|.arr n b len=>match c n with|some (.arr a _ _ _)=>bif Nat.beq b a then some (.pv (.int (.ofNat len)))else none|_=>none
 |_=>none
def Zt{a:Nat->Option Ob}{x y:V}(h:tZ a x=some y):Got (sN a x) y:=by
 unfold tZ at h;unfold sN;split at h
 ·cases h;exact⟨_,rfl,trivial,rfl,rfl,rfl⟩
 ·cases h;exact⟨_,rfl,trivial,rfl,rfl,rfl⟩
 ·cases h;exact⟨_,rfl,trivial,rfl,rfl,rfl⟩
 ·split at h
  ·rename_i b e f g c;have⟨d,h⟩:=bB h;cases h;simp only[c];exact⟨_,rfl,gq d,rfl,rfl,rfl⟩
  cases h
 cases h
def GN(e:Nat)(c:TI)(i:Nat->Option Ob)(j:Nat)(x y:V):Option RB:=match x with
 |.arr n b len=>match i n,uI y with
  |some (.arr f g h d),some a=>bif Nat.beq b f&&Nat.ble len d.length&&Nat.beq h e&&Nat.beq g c.size&&Nat.blt 0 g&&VC g a&&CC a&&Nat.ble (len+a.length) maxLen&&Nat.ble ((len+a.length)*c.bytes) 140737488355328 then
    some ⟨.arr n (b+1) (len+a.length),some (n,.arr (b+1) g h (d.take len++a)),false⟩else none
  |_,_=>none
 |.gsl n b _=>match i n with
  |some (.grow f g h d)=>match y with
   |.pv (.slice a)=>bif Nat.beq b f&&Nat.beq h e&&Nat.beq g c.size&&Nat.blt 0 g&&tB g a&&CC (vA a)&&Nat.ble (d.length+a.length) maxLen&&Nat.ble ((d.length+a.length)*c.bytes) 140737488355328 then
    some ⟨.gsl n (b+1) (d++a),some (n,.grow (b+1) g h (d++a)),false⟩else none
   |_=>none
  |_=>none
 |.fsl d=>match y with
  |.pv (.slice (y::a))=>bif tB c.size d&&tB c.size (y::a)&&Nat.blt 0 c.size&&Nat.ble (d.length+(y::a).length) maxLen&&Nat.ble ((d.length+(y::a).length)*c.bytes) 140737488355328 then
    some ⟨.pv (.slice (d++y::a)),none,false⟩else none
  |_=>none
 |.pv .nils=>match uI y with
  |some a=>bif Nat.blt 0 c.size&&VC c.size a&&CC a&&Nat.ble a.length maxLen&&Nat.ble (a.length*c.bytes) 140737488355328 then
    some ⟨.arr j 1 a.length,some (j,.arr 1 c.size e a),true⟩else none
  |none=>none
 |_=>none
def qu{e:Nat}{j:TI}{v:Nat->Option Ob}{k:Nat}{xo:Operand}{x y:V}{r:RB}(h:GN e j v k x y=some r):
  ∃note,EG (OI e j v note xo x y) r/\(r.new=true->∃o,r.wr=some (k,o)):=by
 unfold GN at h;split at h
 ·rename_i n l len;split at h
  ·rename_i i w z A B m p;have⟨a,h⟩:=bB h;cases h;simp only[hP]at a;obtain⟨⟨⟨⟨⟨⟨⟨⟨b,c⟩,d⟩,f⟩,g⟩,s⟩,t⟩,u⟩,C⟩:=a;refine⟨.none,?_,a8⟩;simp only[OI,m,p];exact⟨_,rfl,⟨gq b,gi c,gq d,gq f,GG g,IR s,LR t,gi u,gi C⟩,rfl,rfl,rfl⟩
  cases h
 ·rename_i n l D;split at h
  ·rename_i i w z A m;split at h
   ·have⟨a,h⟩:=bB h;cases h;simp only[hP]at a;obtain⟨⟨⟨⟨⟨⟨⟨b,c⟩,d⟩,f⟩,g⟩,s⟩,t⟩,u⟩:=a;refine⟨.none,?_,a8⟩;simp only[OI,m];exact⟨_,rfl,⟨⟨gq b,gq c,gq d,GG f⟩,DN g,LR s,gi t,gi u⟩,rfl,rfl,rfl⟩
   cases h
  cases h
 ·split at h
  ·have⟨a,h⟩:=bB h;cases h;simp only[hP]at a;obtain⟨⟨⟨⟨b,c⟩,d⟩,f⟩,g⟩:=a;refine⟨.none,?_,a8⟩;exact⟨_,rfl,⟨DN b,DN c,GG d,a8,gi f,gi g⟩,rfl,rfl,rfl⟩
  cases h
 ·split at h
  ·rename_i B p;have⟨a,h⟩:=bB h;cases h;simp only[hP]at a;obtain⟨⟨⟨⟨b,c⟩,d⟩,f⟩,g⟩:=a;refine⟨.arr k j.size e,?_,λ_=>⟨_,rfl⟩⟩;simp only[OI,p];exact⟨_,rfl,⟨by first|rfl|trivial,by first|rfl|trivial,GG b,IR c,LR d,gi f,gi g⟩,rfl,rfl,rfl⟩
  cases h
 cases h
def VR(b:TI)(c:Nat->Option Ob)(x:V)(f d e:Option V):Option V:=match x,f,d,e with
 |.pv (.slice a),some (.pv (.int l)),none,none=>match uF l with|some k=>bif Nat.ble k a.length&&tB b.size a then some (.pv (.slice (a.drop k)))else none|none=>none
 |.pv (.slice a),none,some (.pv (.int h)),none=>match uF h with|some k=>bif Nat.ble k a.length then some (.pv (.slice (a.take k)))else none|none=>none
 |.arr n b len,none,some (.pv (.int h)),none=>match uF h,c n with|some k,some (.arr c _ _ _)=>bif Nat.beq b c&&Nat.ble k len then some (.arr n b k)else none|_,_=>none
 |.pv (.slice a),none,some (.pv (.int h)),some (.pv (.int m))=>match uF h,uF m with|some k,some l=>bif Nat.beq k a.length&&Nat.beq l a.length then some (.fsl a)else none|_,_=>none
 |.pv .nils,f,d,e=>bif QJ f&&QJ d&&QJ e&&(!e.isSome||d.isSome)then some (.pv .nils)else none|_,_,_,_=>none
def ju{e:TI}{f:Nat->Option Ob}{x y:V}{g i j:Option V}(h:VR e f x g i j=some y):Got (tN e f x g i j) y:=by
 unfold VR at h;unfold tN;split at h
 ·split at h
  ·rename_i k b;have c:=tL b;subst c;have⟨a,h⟩:=bB h;cases h;simp only[hP]at a;have d:=gi a.1;refine⟨_,rfl,?_,by rfl,rfl,rfl⟩;exact⟨a6,a6,DN a.2⟩
  cases h
 ·split at h
  ·rename_i k b;have c:=tL b;subst c;have⟨a,h⟩:=bB h;cases h;have d:=gi a;refine⟨_,rfl,?_,by rfl,rfl,rfl⟩;exact⟨a6,a6⟩
  cases h
 ·split at h
  ·rename_i k m r s t b n;have c:=tL b;subst c;have⟨a,h⟩:=bB h;cases h;simp only[hP]at a;have d:=gi a.2;simp only[n];refine⟨_,rfl,?_,by rfl,rfl,rfl⟩;exact⟨gq a.1,a6,a6⟩
  cases h
 ·split at h
  ·rename_i k l b o;have c:=tL b;have p:=tL o;have⟨a,h⟩:=bB h;cases h;simp only[hP]at a;have d:=gq a.1;have u:=gq a.2;refine⟨_,rfl,?_,rfl,rfl,rfl⟩;exact⟨a6,a6⟩
  cases h
 ·have⟨a,h⟩:=bB h;cases h;simp only[a,gb];exact⟨_,rfl,trivial,rfl,rfl,rfl⟩
 cases h
def WR(b:List (Nat×Nat))(cells:List V):List (Nat×V)->Option (List V)
 |[]=>some cells|(i,x)::a=>match nB b i with
  |some (off,size)=>match AG x with
   |some c=>bif Nat.beq c.length size then(match WI cells off c with
    |some r=>WR b r a|none=>none)else none
   |none=>none
  |none=>none
def aZ{c:List (Nat×Nat)}:∀{l:List (Nat×V)}{cells a:List V},WR c cells l=some a->aH c cells l=some a
 |[],_,_,h=>h|(i,x)::d,cells,a,h=>by
  unfold WR at h;unfold aH;rw[mI]at h;split at h
  ·rename_i off size f;split at h
   ·rename_i e g;have⟨b,h⟩:=bB h;have b:=gq b;split at h
    ·rename_i r j;have⟨m,k⟩:=NU cells off e r j;simp only[f,g];rw[gm ⟨b,a6⟩];have:oE cells off e=r:=by rw[k];rfl
     rw[this];exact aZ h
    cases h
   cases h
  cases h
def QU:Nat->List (Nat×V)->Option (List (List V))
 |_,[]=>some []|k,(i,x)::a=>bif Nat.beq i k then(match AG x with
   |some b=>match QU (Nat.succ k) a with|some a=>some (b::a)|none=>none
   |none=>none)else none
def cZ:∀{l:List (Nat×V)}{k:Nat}{a:List (List V)},QU k l=some a->mN k l=some a
 |[],_,_,h=>h|(i,x)::b,k,a,h=>by
  unfold mN;have⟨c,h⟩:=bB h;rw[gm (gq c)];split at h
  ·rename_i g d;split at h
   ·rename_i e f;cases h;simp only[d,cZ f]
   cases h
  cases h
def RU(e:Nat)(b:TI)(c len:Nat)(a:List (List V)):Option RB:=
 bif Nat.beq a.length len&&Nat.ble len 16777216&&Nat.ble (len*b.size) 16777216&&VC b.size a then(match BG a with
  |some d=>some ⟨.pv (.slice d),none,false⟩|none=>some ⟨.arr c 0 len,some (c,.arr 0 b.size e a),true⟩)else none
def vu{e:Nat}{a:TI}{b len:Nat}{c:List (List V)}{r:RB}(h:RU e a b len c=some r):∃note,EG (DY e a note len c) r/\(r.new=true->∃o,r.wr=some (b,o)):=by
 have⟨d,h⟩:=bB h;simp only[hP]at d;have⟨⟨⟨g,i⟩,j⟩,k⟩:=d;have f:=And.intro (gq g) (And.intro (gi i) (And.intro (gi j) (IR k)));split at h
 ·rename_i m l;cases h;refine⟨.none,⟨_,rfl,f,?_,rfl,rfl⟩,a8⟩;simp[R.ofIf,ZO,l]
 cases h;exact⟨.arr b a.size e,⟨_,rfl,⟨f,rfl,rfl⟩,rfl,rfl,rfl⟩,λ_=>⟨_,rfl⟩⟩
def eZ(T:Nat->Option TI)(a t:Nat):Option RB:=match T t with|some b=>some ⟨.loc a 0,some (a,.box (CA b.zc)),true⟩|none=>none
def iZ(a:Nat)(x:V):Option RB:=match AG x with|some b=>bif EN b then some ⟨.loc a 0,some (a,.box b),true⟩else none|none=>none
def oZ(T:Nat->Option TI)(t:Nat)(c:List (Nat×V)):Option V:=match T t with
 |some ⟨.struct b _,_,_,_,a⟩=>match WR b (CA a) c with|some b=>some (OR b)|none=>none
 |some ⟨.array m e,_,_,_,a⟩=>match T e with
  |some d=>match WR (kL d.size m 0) (CA a) c with|some b=>some (OR b)|none=>none
  |none=>none
 |_=>none
def dh(x:V)(i:Nat):Option V:=match x with
 |.pv (.tuple a)=>match nB a i with|some c=>some (.pv c)|none=>none
 |.tuple a=>nB a i|_=>none
def xH:IntKind->IntKind->Bool|.u8,.u8=>true|.u32,.u32=>true|.i32,.i32=>true|_,_=>false
def wu{a b:IntKind}(h:xH a b=true):a=b:=by cases a<;>cases b<;>first|rfl|cases h
def xZ(x:Int):Option Int:=bif xA x then some x else none
def bF(k:IntKind)(x:Int):Option V:=match xZ x with|some y=>some (.pv (.num k y))|none=>none
def SU{k:IntKind}{x:Int}{v:V}(h:bF k x=some v):v=.pv (.num k x):=by
 grind[bF,xZ]
def HN(op:BinOp)(k:IntKind)(a b:Int):Option V:=match op with|.add=>bF k (k.wrap (a+b))|.sub=>bF k (k.wrap (a-b))|.and=>bF k (RA .and k a b)|.or=>bF k (RA .or k a b)|.andNot=>bF k (RA .andNot k a b)|.lss=>some (bv (dA a b))|.leq=>some (bv (!dA b a))|.gtr=>some (bv (dA b a))|.geq=>some (bv (!dA a b))|.eql=>some (bv (sB a b))|.neq=>some (bv (!sB a b))|_=>none
def ku{op:BinOp}{k:IntKind}{a b:Int}{x:V}(h:HN op k a b=some x):Got (nU op k a b) x:=by
 have f:∀c d:Bool,c=d->some (bv c)=some x->Got (fC d) x:=by
  intro c d e i;subst e;cases i;exact⟨_,rfl,trivial,rfl,rfl,rfl⟩
 have g:∀c:Int,bF k c=some x->Got (some (R.of (.pv (.num k c)))) x:=by
  intro c i;rw[SU i];exact⟨_,rfl,trivial,rfl,rfl,rfl⟩
 cases op<;>simp only[HN]at h<;>try cases h<;>done
 case add=>exact g _ h
 case sub=>exact g _ h
 case and=>exact g _ h
 case or=>exact g _ h
 case andNot=>exact g _ h
 case lss=>exact f _ _ (vC a b) h
 case leq=>exact f _ _ (by rw[vC];by_cases j:b<a<;>simp[j]<;>omega) h
 case gtr=>exact f _ _ (vC b a) h
 case geq=>exact f _ _ (by rw[vC];by_cases j:a<b<;>simp[j]<;>omega) h
 case eql=>exact f _ _ (XI a b) h
 case neq=>exact f _ _ (by rw[XI]) h
def pP(op:BinOp)(k:IntKind)(a n:Int):Option V:=match op with|.shl=>bif dA n 0 then none else bF k (k.wrap (a*2^(min n.toNat k.bits)))|.shr=>bif dA n 0 then none else bF k (a.fdiv (2^(min n.toNat k.bits)))|_=>none
def yu{op:BinOp}{k:IntKind}{a n:Int}{x:V}(h:pP op k a n=some x):Got (pU op k a n) x:=by
 have d:∀c:Int,(bif dA n 0 then none else bF k c)=some x->Got (some (R.ofIf (0<=n) (.pv (.num k c)))) x:=by
  intro c b
  cases e:dA n 0 with
  |true=>rw[e]at b;cases b
  |false=>
   rw[e]at b;rw[SU b];rw[vC]at e;exact⟨_,rfl,(show 0<=n by simp_all),rfl,rfl,rfl⟩
 cases op<;>simp only[pP]at h<;>try cases h<;>done
 case shl=>exact d _ h
 case shr=>exact d _ h
def IN(k:TK)(op:BinOp)(x y:V)(c:Operand):Option V:=match x,y with
 |.pv (.int a),.pv (.int b)=>sL op a b|.pv (.num j a),.pv (.num d b)=>bif xH j d then HN op j a b else none|.pv (.num j a),.pv (.int n)=>pP op j a n|.pv (.str a),.pv (.str b)=>match op with|.eql=>some (bv (tF a b))|.neq=>some (bv (!tF a b))|_=>none
 |x,y=>match op with
  |.eql=>match zP k x y c with|some b=>some (bv b)|none=>none
  |.neq=>match zP k x y c with|some b=>some (bv (!b))|none=>none
  |_=>none
def uu{k:TK}{op:BinOp}{x y z:V}{a:Operand}(h:IN k op x y a=some z):Got (jP k op x y a) z:=by
 have d:∀c:Bool,some (bv c)=some z->Got (fC c) z:=by
  intro c e;cases e;exact⟨_,rfl,trivial,rfl,rfl,rfl⟩
 unfold IN at h;split at h
 ·exact Wt h
 ·have f:=wu (bB h).1;replace h:=(bB h).2;subst f;simp only[jP,if_true];exact ku h
 ·exact yu h
 ·split at h
  ·exact d _ h
  ·exact d _ h
  cases h
 have key:∀b,zP k x y a=some b->((op=.eql/\z=bv b)\/(op=.neq/\z=bv (!b)))->Got (jP k op x y a) z:=by
  unfold jP
  grind
 grind
def YR:Bool->Bool->Bool|true,b=>b|false,true=>false|false,false=>true
def TU{a b:Bool}(h:YR a b=true):a=b:=by cases a<;>cases b<;>first|rfl|cases h
def UU(s:Bool)(b:Nat->Option Ob)(m k v:V):Option RB:=match m with
 |.map n=>match vP k with
  |some a=>match b n with|some (.smap b c)=>bif YR b s&&YR a.kind s then some ⟨.undef,some (n,.smap b (xE c a v)),false⟩else none|_=>none
  |none=>none
 |_=>none
def VU{s:Bool}{b:Nat->Option Ob}{m k v:V}{r:RB}(h:UU s b m k v=some r):EG (RJ s b m k v) r/\r.new=false/\∃n,(∃o,r.wr=some (n,o))/\(b n).isSome=true:=by
 unfold UU at h;split at h
 ·rename_i n;split at h
  ·rename_i a e;split at h
   ·rename_i f g d;have c:=(bB h).1;cases (bB h).2;simp only[hP]at c;refine⟨?_,rfl,n,⟨_,rfl⟩,by rw[d];rfl⟩;simp only[RJ,e,d];exact⟨_,rfl,⟨TU c.1,TU c.2⟩,rfl,rfl,rfl⟩
   cases h
  cases h
 cases h
def AZ(s ok:Bool)(z:PV)(b:Nat->Option Ob)(m k:V):Option V:=match m with
 |.map n=>match vP k with
  |some a=>match b n with
   |some (.smap b c)=>bif YR b s&&YR a.kind s then(match VF c a,ok with
    |some x,true=>some (.tuple [x,.pv (.bool true)])|none,true=>some (.pv (.tuple [z,.bool false]))|some x,false=>some x|none,false=>some (.pv z))else none
   |_=>none
  |none=>none
 |_=>none
def bu{s ok:Bool}{z:PV}{c:Nat->Option Ob}{m k x:V}(h:AZ s ok z c m k=some x):Got (bL s ok z c m k) x:=by
 unfold AZ at h;split at h
 ·split at h
  ·rename_i a d;split at h
   ·rename_i i e f;have b:=(bB h).1;replace h:=(bB h).2;simp only[hP]at b;simp only[bL,d,f];refine⟨_,rfl,⟨TU b.1,TU b.2⟩,?_,rfl,rfl⟩;cases g:VF e a<;>cases ok<;>rw[g]at h<;>cases h<;>rfl
   cases h
  cases h
 cases h
def BZ:V->Option V|.pv (.str l)=>some (.pv (.int (.ofNat l.length)))|_=>none
def du{x y:V}(h:BZ x=some y):Got (FY x) y:=by
 unfold BZ at h;split at h
 ·cases h;exact⟨_,rfl,trivial,rfl,rfl,rfl⟩
 cases h
def CZ(x i:V):Option V:=match x with
 |.pv (.str l)=>match i with
  |.pv (.int z)=>match uF z with
   |some k=>match nB l k with|some b=>some (.pv (.num .u8 (.ofNat b)))|none=>none
   |none=>none
  |_=>none
 |_=>none
def fu{x i y:V}(h:CZ x i=some y):Got (GY x i) y:=by
 unfold CZ at h;split at h
 ·rename_i l;split at h
  ·split at h
   ·rename_i k c;have d:=tL c;subst d;split at h
    ·rename_i b a;cases h;rw[mI]at a;have e:k<l.length:=(gf.1 a).1;have f:l.getD k 0=b:=by rw[aaw,a];rfl
     refine⟨_,rfl,⟨a6,a6⟩,?_,rfl,rfl⟩;simp only[R.ofIf,aaA,f];rfl
    cases h
   cases h
  cases h
 cases h
def WU(d:Nat):Option V->Option Nat|none=>some d|some (.pv (.int k))=>uF k|_=>none
def fh{d n:Nat}{x:Option V}(h:WU d x=some n):UJ (d:Int) x=some (n:Int):=by
 unfold WU at h
 grind[UJ,tL]
def DZ(x:V)(c d e:Option V):Option V:=match x with
 |.pv (.str l)=>match e with
  |none=>match WU 0 c,WU l.length d with
   |some a,some b=>bif Nat.ble a b&&Nat.ble b l.length then(match nP (rL l a) (b-a)with
    |some r=>some (.pv (.str r))|none=>none)else none
   |_,_=>none
  |some _=>none
 |_=>none
def lu{x y:V}{e j k:Option V}(h:DZ x e j k=some y):Got (sU x e j k) y:=by
 unfold DZ at h;split at h
 ·split at h
  ·split at h
   ·rename_i a b l m;have f:=(bB h).1;replace h:=(bB h).2;simp only[hP]at f;have n:=gi f.1;have o:=gi f.2;split at h
    ·rename_i r d;cases h;rw[MU,LU]at d;split at d
     ·cases d;have g:=fh l;have i:=fh m;have c:UJ 0 e=some (a:Int):=g;simp only[sU,c,i];refine⟨_,rfl,⟨a6,a6,a6⟩,?_,rfl,rfl⟩;simp[R.ofIf]
     cases d
    cases h
   cases h
  cases h
 cases h
def XU(a:Nat):V->Option RB|.pv (.str l)=>some ⟨.loc a 0,some (a,.siter l 0),true⟩|_=>none
def EZ(a:Nat->Option Ob):V->Option RB
 |.loc n 0=>match a n with
  |some (.siter l p)=>match nB l p with|some b=>bif Nat.blt b 128 then some ⟨.pv (.tuple [.bool true,.int (.ofNat p),.num .i32 (.ofNat b)]),some (n,.siter l (p+1)),false⟩else none|none=>some ⟨.pv (.tuple [.bool false]),none,false⟩
  |_=>none
 |_=>none
def mh{a:Nat->Option Ob}{x:V}{r:RB}(h:EZ a x=some r):EG (wP a x) r/\r.new=false/\∀n o,r.wr=some (n,o)->(a n).isSome=true:=by
 unfold EZ at h;split at h
 ·split at h
  ·rename_i l p d;rw[mI]at h;split at h
   ·rename_i b c;have f:=GG (bB h).1;cases (bB h).2;refine⟨?_,rfl,λg o e=>by simp_all⟩;simp only[wP,d,c];exact⟨_,rfl,f,rfl,rfl,rfl⟩
   rename_i c;cases h;refine⟨?_,rfl,λg o e=>by cases e⟩;simp only[wP,d,c];exact⟨_,rfl,trivial,rfl,rfl,rfl⟩
  cases h
 cases h
def FZ(T:Nat->Option TI)(s t:Nat)(x:V):Option V:=match T s with
 |some _=>match T t with
  |some ⟨.num k,_,_,_,_⟩=>match x with|.pv (.num _ n)=>bF k (k.wrap n)|.pv (.int n)=>bF k (k.wrap n)|_=>none
  |some ⟨.int,_,_,_,_⟩=>match x with|.pv (.num _ n)=>oH (IntKind.i64.wrap n)|.pv (.int n)=>oH (IntKind.i64.wrap n)|_=>none
  |_=>none
 |none=>none
def GZ(T:Nat->Option TI)(s t:Nat)(x:V):Option V:=match T s with
 |some ⟨.slice e,_,_,_,_⟩=>match T t with
  |some ⟨.str,_,_,_,_⟩=>match x with
   |.pv (.slice a)=>match T e with
    |some ⟨.num .u8,_,_,_,_⟩=>match TJ a with|some (b::l)=>some (.pv (.str (b::l)))|_=>none
    |_=>none
   |_=>none
  |_=>none
 |_=>none
def nh{x:Int}{v:V}(h:oH x=some v):v=.pv (.int x):=by
 grind[oH]
def mu{T:Nat->Option TI}{s t:Nat}{x y:V}:FZ T s t x=some y->Got (match T s,T t,x with
  |some _,some ⟨.num k,_,_,_,_⟩,.pv (.num _ n)=>some (R.of (.pv (.num k (k.wrap n))))|some _,some ⟨.num k,_,_,_,_⟩,.pv (.int n)=>some (R.of (.pv (.num k (k.wrap n))))|some _,some ⟨.int,_,_,_,_⟩,.pv (.num _ n)=>some (R.of (.pv (.int (IntKind.i64.wrap n))))|some _,some ⟨.int,_,_,_,_⟩,.pv (.int n)=>some (R.of (.pv (.int (IntKind.i64.wrap n))))|some ⟨.slice e,_,_,_,_⟩,some ⟨.str,_,_,_,_⟩,.pv (.slice f)=>match T e,TJ f with|some ⟨.num .u8,_,_,_,_⟩,some (b::l)=>some (R.of (.pv (.str (b::l))))|_,_=>none
  |_,_,_=>none) y:=by
 intro h;unfold FZ at h;split at h
 ·rename_i i f;split at h
  ·rename_i k a b c d g;split at h
   ·simp only[f,g];rw[SU h];exact⟨_,rfl,trivial,rfl,rfl,rfl⟩
   ·simp only[f,g];rw[SU h];exact⟨_,rfl,trivial,rfl,rfl,rfl⟩
   cases h
  ·rename_i a b c d g;split at h
   ·simp only[f,g];rw[nh h];exact⟨_,rfl,trivial,rfl,rfl,rfl⟩
   ·simp only[f,g];rw[nh h];exact⟨_,rfl,trivial,rfl,rfl,rfl⟩
   cases h
  cases h
 cases h
def nu{T:Nat->Option TI}{s t:Nat}{x y:V}:GZ T s t x=some y->Got (match T s,T t,x with
  |some _,some ⟨.num k,_,_,_,_⟩,.pv (.num _ n)=>some (R.of (.pv (.num k (k.wrap n))))|some _,some ⟨.num k,_,_,_,_⟩,.pv (.int n)=>some (R.of (.pv (.num k (k.wrap n))))|some _,some ⟨.int,_,_,_,_⟩,.pv (.num _ n)=>some (R.of (.pv (.int (IntKind.i64.wrap n))))|some _,some ⟨.int,_,_,_,_⟩,.pv (.int n)=>some (R.of (.pv (.int (IntKind.i64.wrap n))))|some ⟨.slice e,_,_,_,_⟩,some ⟨.str,_,_,_,_⟩,.pv (.slice a)=>match T e,TJ a with|some ⟨.num .u8,_,_,_,_⟩,some (b::l)=>some (R.of (.pv (.str (b::l))))|_,_=>none
  |_,_,_=>none) y:=by
 intro h;unfold GZ at h;split at h
 ·rename_i a;split at h
  ·rename_i c;split at h
   ·split at h
    ·rename_i d;split at h
     ·rename_i f;cases h;simp only[a,c,d,f];exact⟨_,rfl,trivial,rfl,rfl,rfl⟩
     cases h
    cases h
   cases h
  cases h
 cases h
def HZ(a:TI)(t:Nat)(ok:Bool)(x:V):Option V:=match x with
 |.pv (.iface b p)=>bif Nat.beq b t then(match ok with
   |true=>some (.pv (.tuple [p,.bool true]))|false=>some (.pv p))
  else(match ok with
   |true=>match SJ a with|some z=>some (.pv (.tuple [z,.bool false]))|none=>none
   |false=>none)
 |.pv .nilif=>match ok with
   |true=>match SJ a with|some z=>some (.pv (.tuple [z,.bool false]))|none=>none
   |false=>none
 |_=>none
def pu{c:TI}{t:Nat}{ok:Bool}{x y:V}(h:HZ c t ok x=some y):Got (rU c t ok x) y:=by
 unfold HZ at h;unfold rU;split at h
 ·rename_i d p;simp only
  cases e:Nat.beq d t with
  |true=>
   rw[e]at h;rw[gm (gq e)];cases ok<;>cases h<;>exact⟨_,rfl,trivial,rfl,rfl,rfl⟩
  |false=>
   rw[e]at h;have a:¬d=t:=λf=>by rw[ME f]at e;cases e
   rw[e9 a]
   cases ok with
   |false=>cases h
   |true=>
    simp only at h;split at h
    ·rename_i z b;cases h;simp only[b];exact⟨_,rfl,trivial,rfl,rfl,rfl⟩
    cases h
 ·cases ok with
  |false=>cases h
  |true=>
   simp only at h;split at h
   ·rename_i z b;cases h;simp only[b];exact⟨_,rfl,trivial,rfl,rfl,rfl⟩
   cases h
 cases h
def ph(x:V):Option V:=match x with|.pv (.ptr a)=>some (.pv (.ptr a))|.pv (.nptr a)=>some (.pv (.nptr a))|.loc n off=>some (.loc n off)|.eloc n v i o=>some (.eloc n v i o)|_=>none
def rh(T:Nat->Option TI)(t f:Nat)(x:V):Option V:=match T t with
 |some ⟨.struct a _,_,_,_,_⟩=>match a[f]? with|some (off,size)=>bif Nat.beq size 0 then none else yL x off|none=>none
 |_=>none
def th(T:Nat->Option TI)(t f:Nat)(x:V):Option V:=match T t with
 |some ⟨.struct a pl,_,_,_,_⟩=>bif pl.elem f then(match a[f]? with
  |some (off,_)=>(match x with
   |.pv (.agg a)=>(match a[off]? with|some c=>some (.pv c)|none=>none)|.agg a=>a[off]?|_=>none)
  |none=>none)else none
 |_=>none
def ro(x:Option V):Option RB:=match x with|some v=>some ⟨v,none,false⟩|none=>none
def KD(T:Nat->Option TI)(h:Nat)(val:Operand->V)(d:Nat->Option Ob)(j:Option Nat)(op:Op):Option RB:=match op with
 |.move x=>rb (val x)|.assign x=>rb (val x)|.pick c a b=>match val c with|.pv (.bool true)=>rb (val a)|.pv (.bool false)=>rb (val b)|_=>none
 |.alloc t=>eZ T h t|.box _ x=>iZ h (val x)|.build t parts=>ro (oZ T t (parts.toList.map λp=>(p.1,val p.2)))|.makeFunc (.func f) first g=>match first.toList with
  |[]=>rb (.fn f (g.toList.map val))|a::l=>match g.toList with|[]=>rb (.bfn f ((a::l).map val))|_::_=>none
 |.buildSlice t len parts=>match T t with
  |some ⟨.slice e,_,_,_,_⟩=>match T e with
   |some l=>match QU 0 (parts.toList.map λp=>(p.1,val p.2))with|some g=>RU e l h len g|none=>none
   |none=>none
  |_=>none
 |.load t x=>match T t with|some g=>ro (sZ g d (val x))|none=>none
 |.store t x y=>match j with
  |none=>match T t with|some g=>FN g d (val x) (val y)|none=>none
  |some _=>none
 |.nilCheck x=>ro (ph (val x))|.binOp b t x y _=>match T t with|some g=>ro (IN g.k b (val x) (val y) y)|none=>none
 |.unOp .not _ x=>match val x with|.pv (.bool b)=>rb (bv (!b))|_=>none
 |.makeInterface t x=>match T t with
  |some g=>match val x with|.pv p=>bif g.k.isIface then none else rb (.pv (.iface t p))|_=>none
  |none=>none
 |.fieldAddr t x f=>ro (rh T t f (val x))|.field t x f=>ro (th T t f (val x))|.indexAddr t x i=>ro (PU T d t (val x) (val i))|.extract x i=>ro (dh (val x) i)|.range t x=>match T t with|some ⟨.str,_,_,_,_⟩=>XU h (val x)|_=>none
 |.next x true=>EZ d (val x)|.index t x i=>match T t with|some ⟨.str,_,_,_,_⟩=>ro (CZ (val x) (val i))|_=>none
 |.convert s t x=>ro (match FZ T s t (val x)with
  |some y=>some y|none=>GZ T s t (val x))
 |.typeAssert x _ t ok=>match T t with|some g=>bif g.k.isIface then none else ro (HZ g t ok (val x))|none=>none
 |.makeMap t none=>match T t with|some ⟨.smap _ _ s,_,_,_,_⟩=>some ⟨.map h,some (h,.smap s []),true⟩|_=>none
 |.mapUpdate t m k v=>match j with
  |none=>match T t with|some ⟨.smap _ _ s,_,_,_,_⟩=>UU s d (val m) (val k) (val v)|_=>none
  |some _=>none
 |.insert t m k v=>match j with
  |none=>match T t with|some ⟨.smap _ _ s,_,_,_,_⟩=>UU s d (val m) (val k) (val v)|_=>none
  |some _=>none
 |.lookup t m k ok=>match T t with
  |some ⟨.smap _ g s,_,_,_,_⟩=>match T g with
   |some g=>match SJ g with|some z=>ro (AZ s ok z d (val m) (val k))|none=>none
   |none=>none
  |_=>none
 |.slice t x g i j=>match T t with
  |some ⟨.slice e,_,_,_,_⟩=>match T e with|some l=>ro (VR l d (val x) (g.map val) (i.map val) (j.map val))|none=>none
  |some ⟨.str,_,_,_,_⟩=>ro (DZ (val x) (g.map val) (i.map val) (j.map val))|_=>none
 |.call {callee:=.builtin .len,args,argTypes}=>match argTypes.toList,args.toList with
  |[t],[x]=>match T t with|some ⟨.slice _,_,_,_,_⟩=>ro (tZ d (val x))|some ⟨.str,_,_,_,_⟩=>ro (BZ (val x))|_=>none
  |_,_=>none
 |.call {callee:=.builtin .append,args,argTypes}=>match argTypes.toList,args.toList with
  |[t,g],[x,y]=>bif Nat.beq t g then(match T t with
    |some ⟨.slice e,_,_,_,_⟩=>match T e with|some l=>GN e l d h (val x) (val y)|none=>none
    |_=>none)else none
  |_,_=>none
 |.call {callee:=.builtin .max,args,argTypes:=_}=>match args.toList with
  |[x,y]=>match val x,val y with|.pv (.int a),.pv (.int b)=>rb (.pv (.int (bif dA a b then b else a)))|_,_=>none
  |_=>none
 |_=>none
def pI{x:V}{r:RB}(h:rb x=some r){f:Prop}:EG (some ⟨True,f,x,none,false⟩) r:=by
 cases h;exact⟨_,rfl,trivial,rfl,rfl,rfl⟩
def NE{o:Option V}{r:RB}(h:ro o=some r):∃v,o=some v/\r=⟨v,none,false⟩:=by
 unfold ro at h
 grind
def qK{x:V}{r:RB}(h:rb x=some r){a:Nat}:r.new=true->∃q,r.wr=some (a,q):=by
 cases h;simp
def ru{T:Nat->Option TI}{t:Nat}{g:List (Nat×V)}{x:V}(h:oZ T t g=some x):
  Got (match T t with
  |some ⟨.struct k _,_,_,_,d⟩=>(aH k (CA d) g).map (λf=>R.of (tH f))|some ⟨.array m e,_,_,_,d⟩=>match T e with|some l=>(aH (kL l.size m 0) (CA d) g).map (λf=>R.of (tH f))|none=>none
  |_=>none) x:=by
 unfold oZ at h;split at h
 ·rename_i k pl a b c d i
  try simp only[i]
  split at h
  ·rename_i f j;cases h;rw[aZ j,rZ];exact⟨_,rfl,trivial,rfl,rfl,rfl⟩
  cases h
 ·rename_i m e a b c d i
  try simp only[i]
  split at h
  ·rename_i l n
   try simp only[n]
   split at h
   ·rename_i f j;cases h;rw[aZ j,rZ];exact⟨_,rfl,trivial,rfl,rfl,rfl⟩
   cases h
  cases h
 cases h
def aaU:=@decide_eq_true
def ah{T:Nat->Option TI}{A:Nat}{val:Operand->V}{L:Nat->Option Ob}{s:Option Nat}{op:Op}{r:RB}(h:KD T A val L s op=some r):
  ∃note,EG (gA T note val L s op) r/\(r.new=true->∃o,r.wr=some (A,o)):=by
 unfold KD at h;split at h
 ·refine⟨.none,?_,qK h⟩;simp only[gA,uL];exact pI h
 ·refine⟨.none,?_,qK h⟩;simp only[gA,uL];exact pI h
 ·rename_i c a b;have key:∀(I:Bool),val c=.pv (.bool I)->rb (bif I then val a else val b)=some r->EG (gA T .none val L s (.pick c a b)) r:=by
   intro I B j;simp only[gA,B];cases I<;>simp only[gb,gp]at j
   ·split
    ·rename_i C X Y;rw[Y]at j;cases C;exact pI j
    ·simp_all
    ·exact pI j
    simp_all
   split
   ·rename_i C X Y;rw[X]at j;cases C;exact pI j
   ·exact pI j
   ·simp_all
   simp_all
  split at h
  ·rename_i B;exact⟨.none,key true B h,qK h⟩
  ·rename_i B;exact⟨.none,key false B h,qK h⟩
  cases h
 ·rename_i t;unfold eZ at h;split at h
  ·rename_i u i;cases h;refine⟨.box A,?_,λ_=>⟨_,rfl⟩⟩;simp only[gA,i];exact⟨_,rfl,trivial,rfl,rfl,rfl⟩
  cases h
 ·rename_i t x;unfold iZ at h;split at h
  ·rename_i M D;have⟨n,h⟩:=bB h;cases h;refine⟨.box A,?_,λ_=>⟨_,rfl⟩⟩;simp only[gA,D];rw[gm (JR n)];exact⟨_,rfl,trivial,rfl,rfl,rfl⟩
  cases h
 ·rename_i t parts;obtain⟨v,g,rfl⟩:=NE h;refine⟨.none,?_,a8⟩;simp only[gA];exact(ru g).r
 ·rename_i f first E
  split at h
  ·rename_i e;refine⟨.none,?_,qK h⟩;have N:first.size=0:=by rw[<-ky,e];rfl
   simp only[gA,N,if_true];exact pI h
  rename_i a l e;split at h
  ·rename_i O;refine⟨.none,?_,qK h⟩;have N:¬first.size=0:=by rw[<-ky,e];simp
   have C:E.size=0:=by rw[<-ky,O];rfl
   simp only[gA,N,C,if_true,if_false,e];exact pI h
  cases h
 ·rename_i t len parts;split at h
  ·rename_i e a b c d i;split at h
   ·rename_i Z F;split at h
    ·rename_i es P;have⟨note,j,G⟩:=vu h;refine⟨note,?_,G⟩;simp only[gA,i,F,cZ P];exact j
    cases h
   cases h
  cases h
 ·rename_i t x;split at h
  ·rename_i u i;obtain⟨v,g,rfl⟩:=NE h;refine⟨.none,?_,a8⟩;simp only[gA,i];exact(Xt g).r
  cases h
 ·rename_i t x y;split at h
  ·split at h
   ·rename_i u i;refine⟨.none,?_,?_⟩
    ·simp only[gA,i];exact bh h
    have⟨q,_,_,_,_,_⟩:=bh h;unfold FN at h;intro G;exfalso;revert G h;simp only[UR]
    repeat' (first|split|(intro h;cases h)|simp only[cond] )
    all_goals (intro h;first|(cases h;done)|(cases h;simp))
   cases h
  cases h
 ·obtain⟨v,g,rfl⟩:=NE h;refine⟨.none,?_,a8⟩;unfold ph at g;simp only[gA];split at g<;>rename_i w<;>cases g<;>rw[w]<;>exact⟨_,rfl,trivial,rfl,rfl,rfl⟩
 ·split at h
  ·rename_i u i;obtain⟨v,g,rfl⟩:=NE h;refine⟨.none,?_,a8⟩;simp only[gA,i];exact(uu g).r
  cases h
 ·split at h
  ·rename_i b Q;refine⟨.none,?_,qK h⟩;simp only[gA,Q,fC];exact pI h
  cases h
 ·split at h
  ·rename_i u i;split at h
   ·rename_i p P
    cases e:u.k.isIface with
    |true=>rw[e]at h;cases h
    |false=>
     rw[e]at h;refine⟨.none,?_,qK h⟩;simp only[gA,i,P,e];exact pI h
   cases h
  cases h
 ·obtain⟨v,g,rfl⟩:=NE h;refine⟨.none,?_,a8⟩;unfold rh at g;simp only[gA];split at g
  ·rename_i fs pl a b c d i;split at g
   ·rename_i off size R
    cases e:Nat.beq size 0 with
    |true=>rw[e]at g;cases g
    |false=>
     rw[e]at g;simp only[gp]at g;have hs:¬size=0:=λO=>by rw[ME O]at e;cases e
     simp only[i,R,hs,if_false,g];exact⟨_,rfl,trivial,rfl,rfl,rfl⟩
   cases g
  cases g
 ·obtain⟨v,g,rfl⟩:=NE h;refine⟨.none,?_,a8⟩;unfold th at g;simp only[gA];split at g
  ·rename_i fs pl a b c d i
   cases e:pl.elem _ with
   |false=>rw[e]at g;cases g
   |true=>
    rw[e]at g;simp only[gb]at g;split at g
    ·rename_i off size R;simp only[i,R,e,gb];split at g
     ·split at g
      ·rename_i m _ c D;cases g;simp only[m,D,gw];exact⟨_,rfl,trivial,rfl,rfl,rfl⟩
      cases g
     ·rename_i M m;simp only[m,g,gw];exact⟨_,rfl,trivial,rfl,rfl,rfl⟩
     cases g
    cases g
  cases g
 ·obtain⟨v,g,rfl⟩:=NE h;refine⟨.none,?_,a8⟩;simp only[gA];exact(Yt g).r
 ·obtain⟨v,g,rfl⟩:=NE h;refine⟨.none,?_,a8⟩;unfold dh at g;simp only[gA];simp only[mI]at g;split at g
  ·rename_i M w;split at g
   ·rename_i c D;cases g;simp only[w,D];exact⟨_,rfl,trivial,rfl,rfl,rfl⟩
   cases g
  ·rename_i M w;simp only[w,g];exact⟨_,rfl,trivial,rfl,rfl,rfl⟩
  cases g
 ·rename_i t x;split at h
  ·rename_i a b c d i;refine⟨.siter A,?_,?_⟩
   ·simp only[gA,i];unfold XU at h;split at h
    ·rename_i l el;cases h;simp only[EY,el];exact⟨_,rfl,trivial,rfl,rfl,rfl⟩
    cases h
   intro _;unfold XU at h;split at h
   ·cases h;exact⟨_,rfl⟩
   cases h
  cases h
 ·have⟨n,H,_⟩:=mh h;refine⟨.none,?_,by rw[H];simp⟩;simp only[gA];exact n
 ·split at h
  ·rename_i a b c d i;obtain⟨v,g,rfl⟩:=NE h;refine⟨.none,?_,a8⟩;simp only[gA,i];exact(fu g).r
  cases h
 ·obtain⟨v,g,rfl⟩:=NE h;refine⟨.none,?_,a8⟩;simp only[gA];split at g
  ·rename_i S;cases g;exact(mu S).r
  exact(nu g).r
 ·split at h
  ·rename_i u i
   cases e:u.k.isIface with
   |true=>rw[e]at h;cases h
   |false=>
    rw[e]at h;obtain⟨v,g,rfl⟩:=NE h;refine⟨.none,?_,a8⟩;simp only[gA,i,e];exact(pu g).r
  cases h
 ·split at h
  ·rename_i U W J a b c d i;cases h;refine⟨.smap A J,?_,λ_=>⟨_,rfl⟩⟩;simp only[gA];exact⟨_,rfl,trivial,rfl,rfl,rfl⟩
  cases h
 ·split at h
  ·split at h
   ·rename_i U W J a b c d i;have⟨n,H,_⟩:=VU h;refine⟨.none,?_,by rw[H];simp⟩;simp only[gA,i];exact n
   cases h
  cases h
 ·split at h
  ·split at h
   ·rename_i U W J a b c d i;have⟨n,H,_⟩:=VU h;refine⟨.none,?_,by rw[H];simp⟩;simp only[gA,i];exact n
   cases h
  cases h
 ·split at h
  ·rename_i U W J a b c d i;split at h
   ·rename_i tv w;split at h
    ·rename_i z ez;obtain⟨v,g,rfl⟩:=NE h;refine⟨.none,?_,a8⟩;simp only[gA,i,w,ez];exact(bu g).r
    cases h
   cases h
  cases h
 ·split at h
  ·rename_i e a b c d i;split at h
   ·rename_i Z F;obtain⟨v,g,rfl⟩:=NE h;refine⟨.none,?_,a8⟩;simp only[gA,i,F];exact(ju g).r
   cases h
  ·rename_i a b c d i;obtain⟨v,g,rfl⟩:=NE h;refine⟨.none,?_,a8⟩;simp only[gA,i];exact(lu g).r
  cases h
 ·split at h
  ·rename_i t x i m;split at h
   ·rename_i e a b c d k;obtain⟨v,g,rfl⟩:=NE h;refine⟨.none,?_,a8⟩;simp only[gA,i,m,k];exact(Zt g).r
   ·rename_i a b c d k;obtain⟨v,g,rfl⟩:=NE h;refine⟨.none,?_,a8⟩;simp only[gA,i,m,k];exact(du g).r
   cases h
  cases h
 ·split at h
  ·rename_i t t' x y i m;have n:=(bB h).1;replace h:=(bB h).2;have ht:=gq n;subst ht;split at h
   ·rename_i e a b c d k;split at h
    ·rename_i Z F;have⟨note,j,G⟩:=qu (xo:=x) h;refine⟨note,?_,G⟩;simp only[gA,i,m,k,F,if_true];exact j
    cases h
   cases h
  cases h
 ·split at h
  ·rename_i x y m;split at h
   ·rename_i a b ea Q;refine⟨.none,?_,qK h⟩;simp only[gA,m,ea,Q];have:(if b>a then b else a)=bif dA a b then b else a:=by
     rw[vC];by_cases K:a<b
     ·rw[gm (show b>a from K),aaU K];rfl
     rw[e9 (show¬b>a from K),aaP K];rfl
    rw[this];exact pI h
   cases h
  cases h
 cases h
structure IS where
 sl:Tr V
 ob:Tr Ob
 nx:Nat
 dt:List Nat
inductive AE where|normal|exit (i:Nat)|ret
structure OB where
 x:V
 ch:List (Nat×Ob)
 nw:List (Nat×Ob)
 nx:Nat
structure Tc where
 wn:List Nat
 rd:List Nat
structure SA where
 T:Nat->Option TI
 gl:Nat->Option (List PV)
 F:Nat->Option Func
 intr:Nat->List V->Option V
def IS.val(a:Nat->Option (List PV))(s:IS):Operand->V
 |.tmp t=>match s.sl.get t with|some v=>v|none=>.undef
 |.const v=>YO v|.func f=>.fn f []|.global g=>match a g with|some a=>.pv (.ptr a)|none=>.undef
def RD(t:Tr V)(a:Option Nat)(x:V):Tr V:=match a with|none=>t|some d=>t.put d (some x)
def aL(a n:Nat)(l:List Nat):List Nat:=bif Nat.blt n a then n::l else l
def IS.app(b:Nat)(s:IS)(a:Option Nat)(r:RB):IS:=match r.wr with|none=>⟨RD s.sl a r.x,s.ob,s.nx,s.dt⟩|some (n,o)=>bif r.new then⟨RD s.sl a r.x,s.ob.put n (some o),Nat.succ s.nx,s.dt⟩else⟨RD s.sl a r.x,s.ob.put n (some o),s.nx,aL b n s.dt⟩
def tu:V->List Nat|.arr n _ _=>[n]|_=>[]
def YU:V->List Nat|.arr n _ _=>[n]|.agg a=>a.flatMap tu|_=>[]
def zK(a:Nat)(s:IS)(n:Nat):IS:=bif Nat.blt n a then s else(match s.ob.get n with
 |some (.arr a _ _ b)=>match BG b with|some b=>⟨s.sl.map (VB n a b),(s.ob.put n none).map (sC n a b),s.nx,s.dt⟩|none=>s
 |_=>s)
def rP(a:Nat):List Nat->IS->IS|[],s=>s|n::r,s=>rP a r (zK a s n)
def sP(a:Nat):List Nat->IS->IS
 |[],s=>s|t::r,s=>sP a r (match s.sl.get t with
  |some v=>rP a (YU v) s|none=>s)
def tP:List Operand->List Nat|[]=>[]|.tmp t::r=>t::tP r|_::r=>tP r
def au:Op->List Nat|.call {callee:=.value _,args,..}=>tP args.toList|.call {callee:=.builtin .append,args,..}=>tP (args.toList.drop 1)|.buildSlice _ _ a=>tP (a.toList.map (·.2))|.makeInterface _ x=>tP [x]|_=>[]
def YI:List Oper->List Nat|[]=>[]|o::r=>au o.op++YI r
def reach(a:Nat)(b:Tr Ob):Nat->List Nat->Tr Ob->List Nat->Option (Tr Ob×List Nat)
 |0,_,_,_=>none|_+1,[],sub,l=>some (sub,l)|f+1,n::r,sub,l=>bif Nat.blt n a then(match sub.get n with
  |some _=>reach a b f r sub l|none=>match b.get n with|none=>reach a b f r sub l|some o=>reach a b f (o.names++r) (sub.put n (some o)) (n::l))else none
def cL(a b:Nat)(sub c:Tr Ob):Nat->List Nat->Tr Ob->List (Nat×Ob)->Option (List (Nat×Ob))
 |0,_,_,_=>none|_+1,[],_,l=>some l|f+1,n::r,seen,l=>bif Nat.blt n a then(match sub.get n with
   |some _=>cL a b sub c f r seen l|none=>none)else match seen.get n with
  |some _=>cL a b sub c f r seen l|none=>match c.get n with|none=>none|some o=>bif Nat.blt n b then cL a b sub c f (o.names++r) (seen.put n (some o)) ((n,o)::l)else none
def JN:List Nat->Tr Ob->List Nat
 |[],_=>[]|n::r,seen=>match seen.get n with|some _=>JN r seen|none=>n::JN r (seen.put n (some (.box [])))
def ZU(a:Tr Ob):List Nat->Option (List (Nat×Ob))
 |[]=>some []|n::r=>match a.get n with
  |some o=>match ZU a r with|some l=>some ((n,o)::l)|none=>none
  |none=>none
def qV:List (Nat×Ob)->List Nat|[]=>[]|(_,o)::r=>o.names++qV r
def LN(T:Nat->Option TI)(s:IS):ResultVar->Option V
 |.tmp t=>some (match s.sl.get t with|some v=>v|none=>.undef)|.cell a t=>match T t,s.sl.get a with
  |some b,some (.loc n off)=>match s.ob.get n with|some (.box c)=>NI b.isAgg b.size (c.drop off)|_=>none
  |_,_=>none
def MN(T:Nat->Option TI)(s:IS):List ResultVar->Option (List V)
 |[]=>some []|r::a=>match LN T s r,MN T s a with|some x,some a=>some (x::a)|_,_=>none
def jV(a:Nat):List Nat->List Nat|[]=>[]|n::r=>bif Nat.blt n a then jV a r else n::jV a r
def eL(T:Nat->Option TI)(a:Nat):List ResultVar->IS->IS
 |[],s=>s|r::b,s=>eL T a b (match LN T s r with
  |some v=>rP a (jV a (YU v)) s|none=>s)
def iL(T:Nat->Option TI)(c:Nat)(sub:Tr Ob)(a:List ResultVar)(s:IS):Option OB:=match MN T s a with
 |some a=>match ZU s.ob (JN s.dt .nil)with
  |some b=>match cL c s.nx sub s.ob 1000000 ((dP a).names++qV b) .nil []with|some c=>some ⟨dP a,b,c,s.nx⟩|none=>none
  |none=>none
 |none=>none
def aP(T:Nat->Option TI)(a:Nat)(sub:Tr Ob)(b:List ResultVar):AE->IS->Option OB|.exit _,_=>none|_,s=>iL T a sub b (eL T a b s)
def oL(a:Nat):List (Nat×Ob)->List Nat->List Nat|[],l=>l|(n,_)::r,l=>oL a r (aL a n l)
def HG:List (Nat×Ob)->Tr Ob->Tr Ob|[],t=>t|(n,o)::r,t=>HG r (t.put n (some o))
def CE:Nat->List V->Tr V->Tr V|_,[],t=>t|k,x::a,t=>CE (Nat.succ k) a (t.put k (some x))
abbrev ZR:=Nat->Nat->Code->IS->(AE->IS->Option OB)->Option OB
abbrev Call:=Nat->List V->IS->Option (OB×List Nat)
def cP(b:SA)(run:ZR)(fn:Func)(c:Code)(args:List V)(a:Nat)(sub:Tr Ob):Option OB:=
 run fn.ntmps a c ⟨CE 0 args .nil,sub,a,[]⟩ (aP b.T a sub fn.results.toList)
def vV(b:Nat)(s:IS)(a:Option Nat)(r:OB):IS:=⟨RD s.sl a r.x,HG r.nw (HG r.ch s.ob),r.nx,oL b r.ch s.dt⟩
def eP:V:=.pv (.tuple [])
def qS(a:Nat):Option Nat->Bool|some d=>Nat.blt d a|none=>true
def callR(b:Nat)(s:IS)(a:Option Nat):Option (OB×List Nat)->Option (IS×Tc)|some (r,c)=>some (vV b s a r,⟨r.ch.map (·.1)++r.nw.map (·.1),c⟩)|none=>none
def NN(a:SA)(call:Call)(b:Nat)(o:Oper)(s:IS):Option (IS×Tc):=match fD (s.val a.gl) o.op with
 |some (f,args)=>callR b s o.dst (call f args s)|none=>match KD a.T s.nx (s.val a.gl) s.ob.get o.dst o.op with|some r=>some (s.app b o.dst r,⟨match r.wr with|some (n,_)=>[n]|none=>[],wF (s.val a.gl) o.op⟩)|none=>none
def IZ(all:List Oper)(s:IS)(j:Nat):V:=match all[j]? with
 |some o=>match o.dst with
  |some d=>match s.sl.get d with|some v=>v|none=>.undef
  |none=>.undef
 |none=>.undef
def JZ(a:Array Oper)(c b:Oper):Bool:=
 (match c.dst with|some d=>(b.looksAt a).contains d||b.dst==some d|none=>false)||
 (match b.dst with|some d=>(c.looksAt a).contains d|none=>false)
def kV(a:List Oper):Bool:=
 (List.range a.length).all λj=>match a[j]? with
  |some b=>(iH b).all (λi=>decide (i<j))&&(List.range j).all λi=>match a[i]? with|some c=> !JZ a.toArray c b||((kF a []).getD j 0).testBit i|none=>false
  |none=>false
def zS(a b:Tc):Bool:=a.wn.all (λn=> !JD b.rd n&& !JD b.wn n)&&b.wn.all (λn=> !JD a.rd n)
def xL:List Tc->Bool
 |[]=>true|t::r=>match t.wn with|[]=>xL r|_::_=>false
def iP(c:List Oper)(d:List Tc):Bool:=
 (List.range c.length).all λj=>match d[j]? with
  |some b=>(List.range j).all λi=>match d[i]? with|some a=>zS a b||((kF c []).getD j 0).testBit i|none=>false
  |none=>false
def AL(a:Nat)(l:List Nat)(s:IS):IS:=bif Nat.beq s.nx a then s else sP a l s
def KZ:∀{b:List V}{a:List PV},KE b=some a->b=CA a
 |[],a,h=>by cases h;rfl
 |c::b,a,h=>by
  unfold KE at h;split at h
  ·rename_i p f e d;cases h;have:=KZ d;subst this;cases c<;>simp only[V.un]at e<;>cases e;rfl
  cases h
def oh:∀{b:List (List V)}{a:List (List PV)},BG b=some a->b=vA a
 |[],a,h=>by cases h;rfl
 |e::b,a,h=>by
  unfold BG at h;split at h
  ·rename_i p d f c;cases h;have g:=oh c;have i:=KZ f;subst g i;rfl
  cases h
structure Rel(s:IS)(σ:St):Prop where
 sl:∀t,OA σ.slots t=(match s.sl.get t with|some v=>v|none=>.undef)
 ob:∀n,jA σ.objs n=s.ob.get n
 us:∀n∈σ.used,n<s.nx
structure Inv(bs:Nat)(sub:Tr Ob)(s:IS):Prop where
 le:bs<=s.nx
 same:∀n,n<bs->n∉s.dt->s.ob.get n=sub.get n
 old:∀n,n<bs->(s.ob.get n).isSome=true->(sub.get n).isSome=true
 names:∀n o,sub.get n=some o->n<bs/\∀k∈o.names,k<bs
 dts:∀n∈s.dt,n<bs
theorem Rel.val{s:IS}{σ:St}(h:Rel s σ)(a:Nat->Option (List PV)):σ.val a=s.val a:=by
 funext x
 cases x with|tmp t=>exact h.sl t|const v=>rfl|func f=>rfl|global g=>rfl
def Rel.obf{s:IS}{σ:St}(h:Rel s σ):jA σ.objs=s.ob.get:=funext h.ob
def Wk(σ σ':St):Prop:=∀C E a w,Ga C E σ a w->∃b,Ga C b σ' a w
theorem Wk.refl(σ:St):Wk σ σ:=λ_ E _ _ h=>⟨E,h⟩
def Wk.trans{a b c:St}(h:Wk a b)(d:Wk b c):Wk a c:=λC E x w e=>by
 have⟨f,g⟩:=h C E x w e;exact d C f x w g
def AWP.wk{X:Env1}{c:Code}{σ σ':St}{Q:NB->St->Prop}(b:Wk σ σ')(h:AWP X c σ' Q):AWP X c σ Q:=by
 intro C E a w d e;have⟨f,g⟩:=b C E a w e;exact h C f a w d g
def AWP.post{X:Env1}{c:Code}{σ:St}{Q k:NB->St->Prop}(h:AWP X c σ Q)(l:∀b σ',Q b σ'->(∃σ'',Wk σ' σ''/\k b σ'')/\∀p,b≠.panic p):AWP X c σ k:=by
 intro C E a w m n;refine wp_mono (h C E a w m n) ?_
 rintro e o r ⟨s,σ',b,f,t,g⟩
 have⟨⟨σ'',u,i⟩,v⟩:=l b σ' g;have⟨j,d⟩:=u C s o r f;refine⟨j,σ'',b,d,?_,i⟩
 cases b with|panic p=>simp_all|_=>exact t
def cu{n a:Nat}{b:List (List PV)}:∀{x:V},n∉x.names->BC n a b x=x:=by
 intro x h;cases x<;>simp only[BC]
 grind[V.names]
def xh{n b:Nat}{d:List (List PV)}:∀{a:List V},n∉GA a->UC n b d a=a
 |[],_=>rfl|c::a,h=>by
  simp only[GA,eh,not_or]at h;simp only[UC];rw[cu h.1,xh h.2]
def iu{n a:Nat}{b:List (List PV)}{o:Ob}(h:n∉o.names):sC n a b o=o:=by
 cases o with|box c=>simp only[sC];rw[xh h]|_=>rfl
theorem LZ{c:Nat}{sub:Tr Ob}{s:IS}(a:Inv c sub s)(n:Nat):Inv c sub (zK c s n):=by
 unfold zK
 cases e:Nat.blt n c with
 |true=>exact a|false=>
  simp only[gp];rw[ZJ]at e;have h:¬n<c:=of_decide_eq_false e;split
  ·rename_i d p r t u;split
   ·rename_i g i;have b:∀m,((s.ob.put n none).map (sC n d g)).get m=if m=n then none else(s.ob.get m).map (sC n d g):=by
     intro m;rw[Tr.get_map,Tr.get_put];split<;>rfl
    refine⟨a.le,?_,?_,a.names,a.dts⟩
    ·intro m f j;rw[b m,e9 a6,a.same m f j]
     cases q:sub.get m with
     |none=>rfl|some o=>
      simp only[gw];rw[iu];intro k;exact h ((a.names m o q).2 n k)
    intro m f l;rw[b m,e9 a6]at l;exact a.old m f bS
   exact a
  exact a
theorem Ah{a:Nat}{sub:Tr Ob}:∀(l:List Nat){s:IS},Inv a sub s->Inv a sub (rP a l s)
 :=by intro x;induction x<;>grind[LZ,rP]
theorem xu{a:Nat}{sub:Tr Ob}:∀(l:List Nat){s:IS},Inv a sub s->Inv a sub (sP a l s)
 :=by intro x;induction x<;>grind[sP,Ah]
def MZ{T:Nat->Option TI}{bs:Nat}{sub:Tr Ob}:∀(l:List ResultVar){s:IS},Inv bs sub s->Inv bs sub (eL T bs l s)
 :=by intro x;induction x<;>grind[eL,Ah]
def NZ{bs:Nat}{s:IS}{σ:St}(b:Rel s σ)(n:Nat):∃σ',Wk σ σ'/\Rel (zK bs s n) σ':=by
 have d:∃σ',Wk σ σ'/\Rel s σ':=⟨σ,Wk.refl σ,b⟩;unfold zK
 cases e:Nat.blt n bs with
 |true=>exact d|false=>
  simp only[gp];split
  ·rename_i c j k p l;split
   ·rename_i i f;have g:=oh f;subst g;have h:jA σ.objs n=some (.arr c j k (vA i)):=(b.ob n).trans l;refine⟨σ.frz n c i,λC E a w o=>o.frz h,⟨?_,?_,b.us⟩⟩
    ·intro t;simp only[St.frz,bZ,b.sl,Tr.get_map];cases s.sl.get t<;>rfl
    intro m;simp only[St.frz,gP,b.ob,Tr.get_map,Tr.get_put];split<;>rfl
   omega
  omega
def OZ{bs:Nat}:∀(l:List Nat){s:IS}{σ:St},Rel s σ->∃σ',Wk σ σ'/\Rel (rP bs l s) σ'
 |[],s,σ,a=>⟨σ,Wk.refl σ,a⟩|n::r,s,σ,a=>by
  obtain⟨σ1,b,c⟩:=NZ (bs:=bs) a n;obtain⟨σ2,d,e⟩:=OZ r c;exact⟨σ2,b.trans d,e⟩
def PZ{bs:Nat}:∀(l:List Nat){s:IS}{σ:St},Rel s σ->∃σ',Wk σ σ'/\Rel (sP bs l s) σ'
 |[],s,σ,a=>⟨σ,Wk.refl σ,a⟩|t::r,s,σ,a=>by
  unfold sP;split
  ·rename_i v f;obtain⟨σ1,b,c⟩:=OZ (bs:=bs) (YU v) a;obtain⟨σ2,d,e⟩:=PZ r c;exact⟨σ2,b.trans d,e⟩
  exact PZ r a
def QZ{T:Nat->Option TI}{bs:Nat}:∀(l:List ResultVar){s:IS}{σ:St},Rel s σ->∃σ',Wk σ σ'/\Rel (eL T bs l s) σ'
 |[],s,σ,a=>⟨σ,Wk.refl σ,a⟩|t::r,s,σ,a=>by
  unfold eL;split
  ·rename_i v f;obtain⟨σ1,b,c⟩:=OZ (bs:=bs) (jV bs (YU v)) a;obtain⟨σ2,d,e⟩:=QZ r c;exact⟨σ2,b.trans d,e⟩
  exact QZ r a
structure SZ(nx:Nat)(ob:Tr Ob)(todo:List Nat)(sub:Tr Ob)(l:List Nat):Prop where
 get:∀n o,sub.get n=some o->ob.get n=some o/\n<nx/\n∈l/\∀k∈o.names,k<nx\/k∈todo
 mem:∀n∈l,(sub.get n).isSome=true
def yV{s:Nat}{t:Tr Ob}:∀(f:Nat)(g:List Nat)(sub:Tr Ob)(l:List Nat){i:Tr Ob}{u:List Nat},reach s t f g sub l=some (i,u)->SZ s t g sub l->SZ s t [] i u/\∀k∈g,k<s
 |0,_,_,_,_,_,h,_=>by cases h
 |f+1,[],sub,l,_,_,h,p=>by cases h;simp_all
 |f+1,n::r,sub,l,i,u,h,p=>by
  have⟨y,h⟩:=bB h;have B:=GG y;have e:SZ s t r sub l:=⟨λm o j=>⟨(p.get m o j).1,(p.get m o j).2.1,(p.get m o j).2.2.1,λk z=>by
   rcases(p.get m o j).2.2.2 k z with A|A
   ·omega
   grind⟩,p.mem⟩
  split at h
  ·have⟨v,w⟩:=yV f r sub l h e;simp_all
  split at h
  ·have⟨v,w⟩:=yV f r sub l h e;simp_all
  rename_i C o D;have⟨v,w⟩:=yV f (o.names++r) (sub.put n (some o)) (n::l) h (by
   refine⟨λm q j=>?_,λm j=>?_⟩
   ·rw[Tr.get_put]at j;split at j
    ·simp_all
    have⟨a,b,c,d⟩:=e.get m q j
    grind
   rw[Tr.get_put];split
   ·rfl
   rcases e8.1 j with x|x
   ·omega
   exact p.mem m x)
  simp_all
structure TZ(bs nx:Nat)(sub ob:Tr Ob)(todo:List Nat)(seen:Tr Ob)(l:List (Nat×Ob)):Prop where
 ent:∀n o,(n,o)∈l->bs<=n/\n<nx/\ob.get n=some o/\∀k∈o.names,(sub.get k).isSome=true\/k∈kA l\/k∈todo
 seen:∀n,(seen.get n).isSome=true->n∈kA l
def UZ{x A:Nat}{sub B:Tr Ob}:∀(f:Nat)(p:List Nat)(seen:Tr Ob)(l:List (Nat×Ob)){w:List (Nat×Ob)},cL x A sub B f p seen l=some w->TZ x A sub B p seen l->
  (∃i,TZ x A sub B [] i w)/\(∀k∈p,(sub.get k).isSome=true\/k∈kA w)/\∀k∈kA l,k∈kA w
 |0,_,_,_,_,h,_=>by cases h
 |f+1,[],seen,l,_,h,t=>by cases h;exact⟨⟨seen,t⟩,a8,λk g=>g⟩
 |f+1,n::r,seen,l,w,h,t=>by
  unfold cL at h;have s:((sub.get n).isSome=true\/n∈kA l)->cL x A sub B f r seen l=some w->(∃i,TZ x A sub B [] i w)/\(∀k∈n::r,(sub.get k).isSome=true\/k∈kA w)/\∀k∈kA l,k∈kA w:=by
   intro j h;have⟨E,F,D⟩:=UZ f r seen l h ⟨λm o u=>⟨(t.ent m o u).1,(t.ent m o u).2.1,(t.ent m o u).2.2.1,λk g=>by
    rcases(t.ent m o u).2.2.2 k g with v|v|v
    ·exact .inl v
    ·exact .inr (.inl v)
    rcases e8.1 v with rfl|v
    ·rcases j with j|j
     ·exact .inl j
     exact .inr (.inl j)
    exact .inr (.inr v)⟩,t.seen⟩
   refine⟨E,λk g=>?_,D⟩;rcases e8.1 g with rfl|g
   ·rcases j with j|j
    ·exact .inl j
    exact .inr (D _ j)
   exact F k g
  cases e:Nat.blt n x with
  |true=>
   rw[e]at h;simp only[gb]at h;split at h
   ·rename_i o C;exact s (.inl (by rw[C];rfl)) h
   cases h
  |false=>
   rw[e]at h;simp only[gp]at h;rw[ZJ]at e;have G:¬n<x:=of_decide_eq_false e;split at h
   ·rename_i o C;exact s (.inr (t.seen n (by rw[C];rfl))) h
   split at h
   ·cases h
   rename_i H o C;have⟨E,h⟩:=bB h;have j:=GG E;have⟨F,D,v⟩:=UZ f (o.names++r) (seen.put n (some o)) ((n,o)::l) h (by
    refine⟨λm q u=>?_,λm u=>?_⟩
    ·rcases e8.1 u with z|z
     ·cases z;exact⟨a6,j,C,λk g=>.inr (.inr (by simp[g]))⟩
     have⟨a,b,c,d⟩:=t.ent m q z;refine⟨a,b,c,λk g=>?_⟩;rcases d k g with y|y|y
     ·exact .inl y
     ·exact .inr (.inl (by simp only[kA,gF,e8];exact .inr y))
     rcases e8.1 y with rfl|y
     ·exact .inr (.inl (by simp[kA]))
     exact .inr (.inr (by simp[y]))
    rw[Tr.get_put]at u;simp only[kA,gF,e8];by_cases z:m=n
    ·exact .inl z
    rw[e9 z]at u;exact .inr (t.seen m u))
   refine⟨F,λk g=>?_,λk g=>v k (by simp only[kA,gF,e8];exact .inr g)⟩;rcases e8.1 g with rfl|g
   ·exact .inr (v _ (by simp[kA]))
   exact D k (by simp[g])
def ON:∀{l u:List Nat},(∀n∈l,n∈u)->yF l u
 :=by intro x;induction x<;>simp_all[trivial,yF]
def PN:∀{l u:List (Nat×Ob)},(∀p∈l,jA u p.1=some p.2)->xB l u
 :=by intro x;induction x<;>simp_all[trivial,jA,xB]<;>grind
def mem_mentO{l:List (Nat×Ob)}{n:Nat}:n∈uD l↔∃p∈l,n∈p.2.names:=by
 induction l with|nil=>simp[uD]|cons p r a=>grind[uD]
def mem_namesOb{l:List (Nat×Ob)}{n:Nat}:n∈KC l↔n∈kA l\/n∈uD l:=by
 induction l with
 |nil=>simp[KC,kA,uD]|cons p r a=>
  have⟨k,o⟩:=p;have:kA ((k,o)::r)=k::kA r:=rfl
  grind[KC,uD]
theorem xF(a b:List (Nat×Ob)):kA (a++b)=kA a++kA b:=by simp[kA]
def keysO_mem{l:List (Nat×Ob)}{n:Nat}:n∈kA l↔∃o,(n,o)∈l:=by
 simp only[kA,iy];constructor
 ·rintro⟨⟨k,o⟩,h,rfl⟩;exact⟨o,h⟩
 rintro⟨o,h⟩;exact⟨(n,o),h,rfl⟩
theorem jK{l:List (Nat×Ob)}{n:Nat}{o:Ob}(h:jA l n=some o):(n,o)∈l:=by
 induction l with
 |nil=>cases h
 |cons p r a=>
  grind[jA,List.mem_cons_of_mem]
def Bh{l:List (Nat×Ob)}{n:Nat}(h:n∉kA l):jA l n=none:=by
 cases e:jA l n with|none=>rfl|some o=>exact absurd (JC e) h
def Ch{l:List (Nat×Ob)}{G:Nat->Option Ob}(h:∀n o,(n,o)∈l->G n=some o)(n:Nat):(n∈kA l->jA l n=G n):=by
 grind[bI,jK]
def pick(sub:Tr Ob)(l:List Nat):List (Nat×Ob):=l.filterMap λn=>(sub.get n).map λo=>(n,o)
def mem_pick{sub:Tr Ob}{l:List Nat}{n:Nat}{o:Ob}:(n,o)∈pick sub l↔n∈l/\sub.get n=some o:=by
 simp only[pick,List.mem_filterMap,aaC,aaQ];constructor
 ·rintro⟨m,a,q,b,rfl,rfl⟩;exact⟨a,b⟩
 rintro⟨a,b⟩;exact⟨n,a,o,b,rfl,rfl⟩
def VZ:∀(l:List Nat)(seen:Tr Ob)(n:Nat),n∈l->(seen.get n).isSome=true\/n∈JN l seen
 |[],_,_,h=>by cases h
 |m::r,seen,n,h=>by
  unfold JN;rcases e8.1 h with rfl|h
  ·grind
  cases e:seen.get m with
  |some o=>exact VZ r seen n h|none=>
   rcases VZ r (seen.put m (some (.box []))) n h with a|a
   ·rw[Tr.get_put]at a
    grind
   simp_all
def aai:=@List.mem_cons_of_mem
def WZ:∀(l:List Nat)(seen:Tr Ob)(n:Nat),n∈JN l seen->n∈l
 |[],_,_,h=>by cases h
 |m::r,seen,n,h=>by
  unfold JN at h;split at h
  ·exact aai _ (WZ r seen n h)
  rcases e8.1 h with rfl|h
  ·simp
  exact aai _ (WZ r _ n h)
def Dh{c:Tr Ob}:∀{l:List Nat}{a:List (Nat×Ob)},ZU c l=some a->kA a=l/\∀n o,(n,o)∈a->c.get n=some o
 |[],a,h=>by cases h;exact⟨rfl,a8⟩
 |m::r,a,h=>by
  unfold ZU at h;split at h
  ·rename_i o f;split at h
   ·rename_i l g;cases h;have⟨d,i⟩:=Dh g;refine⟨by simp[kA]at d⊢;exact d,λn q b=>?_⟩;rcases e8.1 b with e|b
    ·cases e;exact f
    exact i n q b
   cases h
  cases h
def mem_chNames{l:List (Nat×Ob)}{n:Nat}:n∈qV l↔n∈uD l:=by
 induction l with|nil=>rfl|cons p r a=>grind[qV,uD]
def AE.x:AE->NB|.normal=>.normal|.exit i=>.exit i|.ret=>.ret
def KQ(k:AE->IS->Option OB)(r:OB)(b:Nat)(sub:Tr Ob):NB->St->Prop:=λc σ'=>∃e a,c=AE.x e/\Rel a σ'/\Inv b sub a/\k e a=some r
structure Good(ev:SA)(P:Program)(run:ZR):Prop where
 syn:∀(nt bs:Nat)(c:Code)(s:IS)(k:AE->IS->Option OB)(r:OB),run nt bs c s k=some r->∀(sub:Tr Ob),Inv bs sub s->∃e s',Inv bs sub s'/\k e s'=some r
 awp:∀(nt bs:Nat)(c:Code)(s:IS)(k:AE->IS->Option OB)(r:OB),run nt bs c s k=some r->
  ∀(X:Env1),X.P=P->X.T=ev.T->X.gl=ev.gl->X.nt=nt->(∀n∈X.given,n<bs)->∀(sub:Tr Ob)(σ:St),Rel s σ->Inv bs sub s->AWP X c σ (KQ k r bs sub)
structure IG(ev:SA)(P:Program):Prop where
 T:KB P ev.T
 F:∀f fn,ev.F f=some fn->P.funcs[f]? =some fn/\(fn.name== "runtime.NumGoroutine")=false
 intr:∀f args x,ev.intr f args=some x->AC P ev.gl f args [] (.ret x) []
 mix:P.follows .mixedOrders=true
def Au{X:Env1}{T:Nat->Option TI}(c:X.T=T){s:IS}{σ:St}(b:Rel s σ)(v:ResultVar):LN T s v=fI X σ v:=by
 cases v with
 |tmp t=>simp only[LN,fI,b.sl]<;>rfl|cell a t=>
  simp only[LN,fI,b.sl,c]
  cases s.sl.get a with
  |none=>cases T t<;>rfl
  |some v=>
   cases T t with
   |none=>rfl|some d=>
    cases v<;>try rfl
    simp only[b.ob]<;>rfl
def YZ{X:Env1}{T:Nat->Option TI}(a:X.T=T){s:IS}{σ:St}(b:Rel s σ):∀(l:List ResultVar),MN T s l=gI X σ l
 |[]=>rfl|r::c=>by
  simp only[MN,gI];rw[Au a b,YZ a b c];cases fI X σ r<;>cases gI X σ c<;>rfl
def ZZ:∀(a:List V)(k:Nat)(t:Tr V)(i:Nat),(CE k a t).get i=if k<=i/\i<k+a.length then a[i-k]? else t.get i
 |[],k,t,i=>by
  grind[CE]
 |x::a,k,t,i=>by
  simp only[CE];rw[ZZ a (k+1)];rw[Tr.get_put]
  grind
structure Called(P:Program)(gl:Nat->Option (List PV))(s:IS)(f:Nat)(args:List V)(r:OB)(ks:List Nat)(ro o1:List (Nat×Ob)):Prop where
 ac:AC P gl f args (ro++o1) (.ret r.x) (ro++(r.ch++r.nw))
 apart:∀n∈kA ro,n∉kA o1/\n∉kA (r.ch++r.nw)
 subs:∀p∈ro++o1,s.ob.get p.1=some p.2
 kss:∀n∈kA ro++kA o1,n∈ks
 inch:∀n∈kA o1,n∈kA r.ch
 gfn:∃G:Nat->Option Ob,∀n o,(n,o)∈r.ch++r.nw->G n=some o
 chs:∀n∈kA r.ch,n<s.nx/\(s.ob.get n).isSome=true/\n∈kA o1
 nws:∀n∈kA r.nw,s.nx<=n/\n<r.nx
 le:s.nx<=r.nx
 all:∀n∈ks,n∈kA (ro++o1)
def aaj:=@Option.isSome_iff_exists
def uV{x:SA}{P:Program}{run:ZR}(hg:Good x P run)(he:IG x P){f:Nat}{fn:Func}{c:Code}(hf:x.F f=some fn)(hb:fn.body=some c){args:List V}(hal:args.length<=fn.ntmps){s:IS}{sub:Tr Ob}{R:List Nat}
  (hrc:reach s.nx s.ob 1000000 (GA args) .nil []=some (sub,R)) {r:OB} (hr:cP x run fn c args s.nx sub=some r):∃ro m,Called P x.gl s f args r R ro m:=by
 have⟨A,L⟩:=yV _ _ _ _ hrc ⟨λn o h=>(by cases h),a8⟩;have⟨hPf,M⟩:=he.F f fn hf
 --G S that are given
 have B:∀n,n∈kA (pick sub (R.filter λn=> !JD (kA r.ch) n))↔(sub.get n).isSome=true/\n∉kA r.ch:=by
  intro n;rw[keysO_mem];constructor
  ·rintro⟨o,h⟩
   have⟨g,u⟩:=mem_pick.1 h;refine⟨by rw[u];rfl,λhc=>?_⟩;rw[k6,(nI _ _).2 hc]at g;simp at g
  rintro⟨g,u⟩
  have⟨o,y⟩:=aaj.1 g;refine⟨o,mem_pick.2 ⟨k6.2 ⟨(A.get n o y).2.2.1,?_⟩,y⟩⟩
  cases e:JD (kA r.ch) n with|false=>rfl|true=>grind[absurd,nI]
 have v:∀n,n∈kA (pick sub (R.filter λn=>JD (kA r.ch) n))↔(sub.get n).isSome=true/\n∈kA r.ch:=by
  intro n;rw[keysO_mem];constructor
  ·rintro⟨o,h⟩
   have⟨g,u⟩:=mem_pick.1 h;exact⟨by rw[u];rfl,(nI _ _).1 (k6.1 g).2⟩
  rintro⟨g,u⟩
  have⟨o,y⟩:=aaj.1 g;exact⟨o,mem_pick.2 ⟨k6.2 ⟨(A.get n o y).2.2.1,(nI _ _).2 u⟩,y⟩⟩
 generalize hro:pick sub (R.filter λn=> !JD (kA r.ch) n)=ro at B;generalize ho1:pick sub (R.filter λn=>JD (kA r.ch) n)=m at v;have C:∀n o,(n,o)∈ro++m->sub.get n=some o:=by
  intro n o h;rcases eh.1 h with h|h
  ·rw[<-hro]at h;exact(mem_pick.1 h).2
  rw[<-ho1]at h;exact(mem_pick.1 h).2
 have z:∀n,n∈kA (ro++m)↔(sub.get n).isSome=true:=by
  intro n;rw[xF,eh,B,v];by_cases h:n∈kA r.ch<;>simp[h]
 have T:∀n,jA (ro++m) n=sub.get n:=by
  intro n;by_cases h:n∈kA (ro++m)
  ·exact Ch C n h
  rw[Bh h];rw[z]at h
  cases e:sub.get n with|none=>rfl|some o=>rw[e]at h;exact absurd rfl h
 generalize hms:((GA args++uD (ro++m)).filter λn=> !JD (kA (ro++m)) n)=ms;have w:∀n,n∈ms↔(n∈GA args\/n∈uD (ro++m))/\n∉kA (ro++m):=by
  intro n;rw[<-hms,k6,eh]
  cases e:JD (kA (ro++m)) n with
  |true=>have:=(nI _ _).1 e;simp[this]|false=>
   have:n∉kA (ro++m):=λh=>by rw[(nI _ _).2 h]at e;cases e
   simp[this]
 have j:∀n o,sub.get n=some o->n<s.nx/\∀k∈o.names,k<s.nx:=by
  intro n o h;have⟨_,g,_,u⟩:=A.get n o h;exact⟨g,λk b=>by rcases u k b with H|H<;>first|exact H|cases H⟩
 have I:∀n∈ms,n<s.nx:=by
  intro n a;have⟨g,_⟩:=(w n).1 a;rcases g with g|g
  ·exact L n g
  have⟨p,l,hn'⟩:=mem_mentO.1 g;exact(j p.1 p.2 (C p.1 p.2 l)).2 n hn'
 let X:Env1:=⟨P,x.T,x.gl,[],fn.ntmps,kA (ro++m)++ms,he.T,he.mix⟩;have U:Rel ⟨CE 0 args .nil,sub,s.nx,[]⟩ ⟨BE 0 args,ro++m,kA (ro++m)++ms⟩:=by
  refine⟨λt=>?_,T,λn a=>?_⟩
  ·simp only;rw[ER,ZZ];simp only[c6,if_true,abr,true_and,ia,Tr.get_nil];by_cases h:t<args.length
   ·rw[gm h];simp[List.getD,e7 h]
   rw[e9 h];simp[List.getD,List.getElem?_eq_none (by omega:args.length<=t)]
  rcases eh.1 a with a|a
  ·have⟨o,y⟩:=aaj.1 ((z n).1 a);exact(j n o y).1
  exact I n a
 have W:Inv s.nx sub ⟨CE 0 args .nil,sub,s.nx,[]⟩:=⟨e6 _,λ_ _ _=>rfl,λ_ _ h=>h,j,a8⟩;have hA:=hg.awp fn.ntmps s.nx c _ _ r hr X rfl rfl rfl rfl U.us sub _ U W
 --G end
 have Y:∀N σ',KQ (aP x.T s.nx sub fn.results.toList) r s.nx sub N σ'->(∃σ'',Wk σ' σ''/\((N=.normal\/N=.ret)/\CN X σ'' fn.results.toList (.ret r.x)/\(∃d,Rel d σ''/\Inv s.nx sub d/\iL x.T s.nx sub fn.results.toList d=some r)))/\∀p,N≠.panic p:=by
  rintro N σ' ⟨e,s',rfl,hR',hI',b⟩
  have J:iL x.T s.nx sub fn.results.toList (eL x.T s.nx fn.results.toList s')=some r->∃σ'',Wk σ' σ''/\(CN X σ'' fn.results.toList (.ret r.x)/\(∃d,Rel d σ''/\Inv s.nx sub d/\iL x.T s.nx sub fn.results.toList d=some r)):=by
   intro b;have⟨σ'',g,u⟩:=QZ (T:=x.T) (bs:=s.nx) fn.results.toList hR';have H:=MZ (T:=x.T) fn.results.toList hI';refine⟨σ'',g,?_,_,u,H,b⟩;unfold iL at b;split at b
   ·rename_i xs O;rw[YZ (X:=X) rfl u]at O;split at b
    ·split at b
     ·cases b;simp only[CN,DG,O,gw]
     cases b
    cases b
   cases b
  cases e with
  |exit i=>cases b
  |normal=>
   have⟨σ'',g,u⟩:=J b;exact⟨⟨σ'',g,.inl rfl,u⟩,by simp[AE.x]⟩
  |ret=>
   have⟨σ'',g,u⟩:=J b;exact⟨⟨σ'',g,.inr rfl,u⟩,by simp[AE.x]⟩
 --what G last state says of G result; it does not depend on G world
 have E:∀d,Inv s.nx sub d->iL x.T s.nx sub fn.results.toList d=some r->
   (∀n∈kA r.ch,n∈d.dt)/\(∀n∈d.dt,n∈kA r.ch)/\(∀n o,(n,o)∈r.ch++r.nw->d.ob.get n=some o)/\(∀n∈kA r.nw,s.nx<=n/\n<r.nx)/\s.nx<=r.nx/\
   ∀k,k∈r.x.names\/k∈uD (r.ch++r.nw)->(sub.get k).isSome=true\/k∈kA r.nw:=by
  intro d Z b;unfold iL at b;split at b
  ·rename_i xs O;split at b
   ·rename_i ch hch;split at b
    ·rename_i nw hnw;cases b;have⟨hck,hce⟩:=Dh hch;have⟨⟨seen',hN⟩,hT1,_⟩:=UZ _ _ _ _ hnw ⟨a8,(by intro n h;cases h)⟩;refine⟨λn a=>?_,λn a=>?_,λn o hm=>?_,λn a=>?_,Z.le,λk b=>?_⟩
     ·rw[hck]at a;exact WZ _ _ n a
     ·rw[hck];rcases VZ d.dt .nil n a with h|h
      ·cases h
      exact h
     ·rcases eh.1 hm with hm|hm
      ·exact hce n o hm
      exact(hN.ent n o hm).2.2.1
     ·have⟨o,y⟩:=keysO_mem.1 a;exact⟨(hN.ent n o y).1,(hN.ent n o y).2.1⟩
     rcases b with b|b
     ·exact hT1 k (by simp[b])
     have⟨p,l,F⟩:=mem_mentO.1 b;rcases eh.1 l with l|l
     ·exact hT1 k (by rw[eh];exact .inr (mem_chNames.2 (mem_mentO.2 ⟨p,l,F⟩)))
     rcases(hN.ent p.1 p.2 l).2.2.2 k F with h|h|h
     ·exact .inl h
     ·exact .inr h
     cases h
    cases b
   cases b
  cases b
 have⟨e0,s0,hI1,Q⟩:=hg.syn fn.ntmps s.nx c _ _ r hr sub W;have hk2:iL x.T s.nx sub fn.results.toList (eL x.T s.nx fn.results.toList s0)=some r:=by
  cases e0 with
  |exit i=>cases Q
  |normal=>exact Q|ret=>exact Q
 have⟨l1,l2,l3,l4,l5,l6⟩:=E _ (MZ (T:=x.T) fn.results.toList hI1) hk2;have hI2:=MZ (T:=x.T) (bs:=s.nx) fn.results.toList hI1;have D:∀n∈kA r.ch,(sub.get n).isSome=true:=by
  intro n a;have⟨o,y⟩:=keysO_mem.1 a;have g:=l3 n o (by simp[y]);refine hI2.old n ?_ (by rw[g];rfl);exact hI2.dts n (l1 n a)
 have hro':∀n∈kA ro,n∉kA m/\n∉kA (r.ch++r.nw):=by
  intro n a;have⟨g,u⟩:=(B n).1 a;refine⟨λh=>u ((v n).1 h).2,λh=>?_⟩;rw[xF,eh]at h;rcases h with h|h
  ·exact u h
  have⟨o,y⟩:=aaj.1 g;have:=(j n o y).1;have:=(l4 n h).1;omega
 refine⟨ro,m,⟨?_,hro',?_,?_,λn a=>((v n).1 a).2,⟨_,l3⟩,?_,l4,l5,λn a=>(z n).2 (A.mem n a)⟩⟩
 ·refine AC.of_body (X:=X) he.T hPf hb M rfl (ms:=ms) rfl hal (ON λn a=>?_) (λn a=>((w n).1 a).2) (λn a h=>?_) (ON λn a=>?_) (ON λn a=>?_) ?_
  ·rw[aF,eh];exact((w n).1 a).1
  ·rw[xF,eh,xF,eh]at h;have h0:=((w n).1 a).2;rw[xF,eh]at h0;rcases h with h|h|h
   ·exact h0 (.inl h)
   ·exact h0 (.inr ((v n).2 ⟨D n h,h⟩))
   have:=(l4 n h).1;have:=I n a;omega
  ·rw[eh]at a⊢;by_cases b:n∈kA (ro++m)
   ·exact .inl b
   refine .inr ((w n).2 ⟨?_,b⟩);rcases a with a|a
   ·exact .inl a
   rcases mem_namesOb.1 a with h|h
   ·exact absurd h b
   exact .inr h
  ·rw[eh]at a;simp only[eh];have hme:n∈r.x.names\/n∈uD (r.ch++r.nw)->(n∈kA (ro++m)\/n∈ms)\/n∈kA (ro++(r.ch++r.nw)):=by
    intro h;rcases l6 n h with h|h
    ·exact .inl (.inl ((z n).2 h))
    refine .inr ?_;rw[xF,xF,eh,eh];exact .inr (.inr h)
   rcases a with a|a
   ·exact hme (.inl a)
   rcases mem_namesOb.1 a with h|h
   ·exact .inr h
   have⟨p,l,F⟩:=mem_mentO.1 h;rcases eh.1 l with l|l
   ·by_cases b:n∈kA (ro++m)
    ·exact .inl (.inl b)
    exact .inl (.inr ((w n).2 ⟨.inr (mem_mentO.2 ⟨p,by simp[l],F⟩),b⟩))
   exact hme (.inr (mem_mentO.2 ⟨p,l,F⟩))
  refine AWP.post hA λN σ' hq=>?_
  have⟨⟨σ'',g,u,H,d,h4,h5,h6⟩,h7⟩:=Y N σ' hq;refine⟨⟨σ'',g,?_⟩,h7⟩;have⟨m1,m2,m3,_⟩:=E d h5 h6;have K:xB (ro++(r.ch++r.nw)) σ''.objs:=by
   refine PN λp l=>?_
   rw[h4.ob];rcases eh.1 l with l|l
   ·have h8:=(B p.1).1 (keysO_mem.2 ⟨p.2,l⟩);have h9:=C p.1 p.2 (by simp[l]);rw[h5.same p.1 (j p.1 p.2 h9).1 (λhd=>h8.2 (m2 p.1 hd))];exact h9
   exact m3 p.1 p.2 l
  rcases u with rfl|rfl
  ·exact⟨H,K⟩
  exact⟨H,K⟩
 ·intro p l;exact(A.get p.1 p.2 (C p.1 p.2 l)).1
 ·intro n a;rw[<-xF]at a;have⟨o,y⟩:=aaj.1 ((z n).1 a);exact(A.get n o y).2.2.1
 intro n a;have g:=D n a;have⟨o,y⟩:=aaj.1 g;refine⟨(j n o y).1,?_,(v n).2 ⟨g,a⟩⟩;rw[(A.get n o y).1];rfl
def Bu{o:Option V}{r:RB}(h:ro o=some r):r.wr=none:=by
 obtain⟨v,_,rfl⟩:=NE h;rfl
def Cu{x:V}{r:RB}(h:rb x=some r):r.wr=none:=by cases h;rfl
theorem Du{b:TI}{a:Nat->Option Ob}{x y:V}{r:RB}(h:FN b a x y=some r){n:Nat}{o:Ob}(c:r.wr=some (n,o)):(a n).isSome=true:=by
 unfold FN at h;split at h
 ·cases h
 replace h:=(bB h).2;replace h:=(bB h).2;split at h
 ·grind
 ·grind
 ·obtain⟨_,_,_,_,_,_,rfl⟩:=uh h;cases c
 cases h
theorem Eu{e:Nat}{b:TI}{a:Nat->Option Ob}{c:Nat}{x y:V}{r:RB}(h:GN e b a c x y=some r){n:Nat}{o:Ob}(b:r.wr=some (n,o))(b:r.new=false):(a n).isSome=true:=by
 unfold GN at h
 grind
theorem Fu{e:Nat}{a:TI}{b len:Nat}{c:List (List V)}{r:RB}(h:RU e a b len c=some r){n:Nat}{o:Ob}(a:r.wr=some (n,o))(a:r.new=false):False:=by
 unfold RU at h
 grind
def Gu{T:Nat->Option TI}{g:Nat}{val:Operand->V}{d:Nat->Option Ob}{e:Option Nat}{op:Op}{r:RB}(h:KD T g val d e op=some r){n:Nat}{o:Ob}(a:r.wr=some (n,o))(l:r.new=false):(d n).isSome=true:=by
 have f:∀{x:V},rb x=some r->(d n).isSome=true:=λh=>by rw[Cu h]at a;cases a
 have b:∀{x:Option V},ro x=some r->(d n).isSome=true:=λh=>by rw[Bu h]at a;cases a
 unfold KD at h;split at h
 ·exact f h
 ·exact f h
 ·grind
 ·grind[eZ]
 ·unfold iZ at h
  grind
 ·exact b h
 ·grind
 ·grind[Fu]
 ·grind
 ·grind[Du]
 ·exact b h
 ·grind
 ·grind
 ·grind
 ·exact b h
 ·exact b h
 ·exact b h
 ·exact b h
 ·split at h
  ·unfold XU at h
   grind
  cases h
 ·exact(mh h).2.2 n o a
 ·grind
 ·exact b h
 ·grind
 ·grind
 ·split at h
  ·split at h
   ·have⟨_,_,i,⟨j,c⟩,k⟩:=VU h;rw[c]at a;simp_all
   cases h
  cases h
 ·split at h
  ·split at h
   ·have⟨_,_,i,⟨j,c⟩,k⟩:=VU h;rw[c]at a;simp_all
   cases h
  cases h
 ·grind
 ·grind
 ·grind
 ·split at h
  ·grind[Eu]
  cases h
 ·grind
 cases h
def Eh{a n m:Nat}{l:List Nat}(h:m∈aL a n l):(m=n/\n<a)\/m∈l:=by
 unfold aL at h
 cases e:Nat.blt n a with
 |true=>rw[e]at h;rcases e8.1 h with h|h<;>first|exact .inl ⟨h,GG e⟩|simp_all
 |false=>simp_all
def Fh{a n m:Nat}{l:List Nat}(h:m∈l):m∈aL a n l:=by
 grind[aL,Nat.blt,List.mem_cons_of_mem]
theorem Gh{a n:Nat}{l:List Nat}(h:n<a):n∈aL a n l:=by
 grind[aL,ZJ,decide_eq_true]
def Inv.slot{a:Nat}{sub:Tr Ob}{s:IS}(h:Inv a sub s)(t:Tr V):Inv a sub ⟨t,s.ob,s.nx,s.dt⟩:=⟨h.le,h.same,h.old,h.names,h.dts⟩
def aaR:=@Nat.le_succ_of_le
def Hh{b:Nat}{sub:Tr Ob}{s:IS}(h:Inv b sub s){r:RB}(f:r.new=true)(c:∃o,r.wr=some (s.nx,o))(d:Option Nat):Inv b sub (s.app b d r):=by
 have⟨o,g⟩:=c;unfold IS.app;rw[g,f];refine⟨aaR h.le,λm e i=>?_,λm e a=>?_,h.names,h.dts⟩
 ·have:=h.le;show(s.ob.put s.nx (some o)).get m=_;rw[Tr.get_put,e9 a6];exact h.same m e i
 have:=h.le;have a:((s.ob.put s.nx (some o)).get m).isSome=true:=a;rw[Tr.get_put,e9 a6]at a;exact h.old m e a
theorem Hu{f:Nat}{sub:Tr Ob}{s:IS}(h:Inv f sub s){T:Nat->Option TI}{val:Operand->V}{g:Option Nat}{op:Op}{r:RB}(u:KD T s.nx val s.ob.get g op=some r)(d:Option Nat):Inv f sub (s.app f d r):=by
 unfold IS.app
 cases v:r.wr with
 |none=>exact h.slot _|some p=>
  have⟨n,o⟩:=p
  cases i:r.new with
  |true=>
   have⟨note,_,j⟩:=ah u;have:=Hh h i (j i) d
   grind[IS.app]
  |false=>
   have a:=Gu u v i;refine⟨h.le,λm b w=>?_,λm b c=>?_,h.names,λm b=>?_⟩
   ·show(s.ob.put n (some o)).get m=_;have k:m≠n:=by grind[Gh]
    rw[Tr.get_put,e9 k];exact h.same m b (λl=>w (Fh l))
   ·have c:((s.ob.put n (some o)).get m).isSome=true:=c;rw[Tr.get_put]at c;by_cases e:m=n
    ·subst e;exact h.old m b a
    rw[e9 e]at c;exact h.old m b c
   rcases Eh b with ⟨rfl,t⟩|t
   ·exact t
   exact h.dts m t
def Iu(l:List (Nat×Ob))(n m:Nat)(o:Ob):jA (XF l [(n,some o)]) m=if m=n then some o else jA l m:=by
 simp[XF,VY,QD]
def za{s:IS}{σ:St}(h:Rel s σ)(d:Option Nat)(x:V)(t:Nat):OA (cD d x σ.slots) t=(match (RD s.sl d x).get t with|some v=>v|none=>.undef):=by
 rw[cN]
 cases d with
 |none=>exact h.sl t|some d=>
  simp only[RD,Tr.get_put];by_cases e:d=t
  ·simp_all
  have a:¬t=d:=λh=>e h.symm
  rw[e9 bS,e9 a];exact h.sl t
def va:∀(l:List (Nat×Ob))(t:Tr Ob)(G:Nat->Option Ob),(∀n o,(n,o)∈l->G n=some o)->∀n,(HG l t).get n=if n∈kA l then G n else t.get n
 |[],t,G,_,n=>by rfl|(k,o)::r,t,G,h,n=>by
  simp only[HG];rw[va r _ G (λn q a=>h n q (by simp[a])),Tr.get_put];have:kA ((k,o)::r)=k::kA r:=rfl
  grind
def Ih{a m:Nat}:∀{l:List (Nat×Ob)}{d:List Nat},m∈oL a l d->(m∈kA l/\m<a)\/m∈d
 |[],d,h=>.inr h|(n,o)::r,d,h=>by
  simp only[oL]at h;have:kA ((n,o)::r)=n::kA r:=rfl;rcases Ih h with h|h
  ·simp_all
  rcases Eh h with ⟨rfl,h⟩|h
  ·simp_all
  simp_all
def Jh{a m:Nat}:∀{l:List (Nat×Ob)}{d:List Nat},m∈d->m∈oL a l d
 :=by intro x;induction x<;>simp_all[oL,Fh]
def Kh{a m:Nat}(b:m<a):∀{l:List (Nat×Ob)}{d:List Nat},m∈kA l->m∈oL a l d
 |[],d,h=>by grind[kA]|(n,o)::r,d,h=>by
  simp only[oL];rcases e8.1 h with rfl|h
  ·exact Jh (Gh b)
  exact Kh b h
section
variable{P:Program}{gl:Nat->Option (List PV)}{s:IS}{f:Nat}{args:List V}{r:OB}{ks:List Nat}{o1 ro:List (Nat×Ob)}
def Called.get(h:Called P gl s f args r ks ro o1)(t:Tr Ob):∃G:Nat->Option Ob,(∀n,(HG r.nw (HG r.ch t)).get n=if n∈kA (r.ch++r.nw)then G n else t.get n)/\∀n,jA (r.ch++r.nw) n=if n∈kA (r.ch++r.nw)then G n else none:=by
 have⟨G,b⟩:=h.gfn;refine⟨G,λn=>?_,λn=>?_⟩
 ·have:n∈kA (r.ch++r.nw)↔n∈kA r.ch\/n∈kA r.nw:=by rw[xF,eh]
  rw[va r.nw _ G (λn o c=>b n o (by simp[c])),va r.ch _ G (λn o c=>b n o (by simp[c]))]
  grind
 by_cases a:n∈kA (r.ch++r.nw)
 ·rw[gm a];exact Ch b n a
 rw[e9 a];exact Bh a
def Called.inv(h:Called P gl s f args r ks ro o1){g:Nat}{sub:Tr Ob}(c:Inv g sub s)(d:Option Nat):Inv g sub (vV g s d r):=by
 have⟨G,j,_⟩:=h.get s.ob;have:=c.le;have:=h.le;refine⟨by show g<=r.nx;omega,λm b k=>?_,λm b e=>?_,c.names,λm b=>?_⟩
 ·show(HG r.nw (HG r.ch s.ob)).get m=_;rw[j,e9]
  ·exact c.same m b (λi=>k (Jh i))
  rw[xF,eh]
  rintro(a|a)
  ·exact k (Kh b a)
  have:=(h.nws m a).1;omega
 ·have e:((HG r.nw (HG r.ch s.ob)).get m).isSome=true:=e;rw[j]at e;split at e
  ·rename_i a;rw[xF,eh]at a;rcases a with a|a
   ·exact c.old m b (h.chs m a).2.1
   have:=(h.nws m a).1;omega
  exact c.old m b e
 rcases Ih b with a|a
 ·exact a.2
 exact c.dts m a
def Called.rel(h:Called P gl s f args r ks ro o1){σ:St}(c:Rel s σ)(i:Nat)(d:Option Nat):Rel (vV i s d r) (σ.eff d (gL r.x ro o1 (r.ch++r.nw))):=by
 have⟨G,j,e⟩:=h.get s.ob;refine⟨λt=>za c d r.x t,λn=>?_,λn b=>?_⟩
 ·show jA (XF σ.objs (eH o1 (r.ch++r.nw))) n=(HG r.nw (HG r.ch s.ob)).get n;rw[RI,j,e];by_cases a:n∈kA (r.ch++r.nw)
  ·have g:=bI a
   grind
  rw[e9 a,e9 a];rw[e9]
  ·exact c.ob n
  intro g;exact a (by rw[xF];simp[h.inch n g])
 show n<r.nx;have:=h.le;rcases eh.1 b with b|b
 ·have⟨a,g⟩:=k6.1 b;rw[xF,eh]at a;rcases a with a|a
  ·have:=(h.chs n a).1;omega
  exact(h.nws n a).2
 have:=c.us n b;omega
def Called.op(h:Called P gl s f args r ks ro o1){X:Env1}(e:X.P=P)(b:X.gl=gl){σ:St}(c:Rel s σ){o:Oper}(g:fD (σ.val X.gl) o.op=some (f,args)):OpW X o σ (gL r.x ro o1 (r.ch++r.nw)):=by
 subst e b;refine OpW.callR f args ro o1 r.x (r.ch++r.nw) g h.ac h.apart (PN λp i=>?_) (λn j k=>?_)
 ·rw[c.ob];exact h.subs p i
 have⟨a,d⟩:=k6.1 j;rw[xF,eh]at a;have:=c.us n k;rcases a with a|a
 ·have⟨q,l⟩:=bI (h.chs n a).2.2;rw[l]at d;cases d
 have:=(h.nws n a).1;omega
end
def jS(b:SA)(P:Program)(call:Call):Prop:=∀(f:Nat)(args:List V)(s:IS)(r:OB)(a:List Nat),call f args s=some (r,a)->∃ro c,Called P b.gl s f args r a ro c
def ZI(e:Eff)(a:Tc):Prop:=(∀n∈e.wn,n∈a.wn)/\∀n∈e.rd,n∈a.rd
section
variable{ev:SA}{P:Program}{call:Call}
def Ju(c:jS ev P call){a:Nat}{o:Oper}{s b:IS}{d:Tc}(h:NN ev call a o s=some (b,d)){sub:Tr Ob}(e:Inv a sub s):Inv a sub b:=by
 unfold NN at h;split at h
 ·unfold callR at h;split at h
  ·rename_i r i f;cases h;have⟨ro,j,g⟩:=c _ _ _ _ _ f;exact g.inv e _
  cases h
 grind[Hu]
def Lh{y:Nat}{o:Oper}{s:IS}{r:RB}{note:xC}(z:EG (gA ev.T note (s.val ev.gl) s.ob.get o.dst o.op) r)(h:r.new=true->∃j,r.wr=some (s.nx,j)){X:Env1}(k:X.T=ev.T)(i:X.gl=ev.gl){σ:St}(f:Rel s σ):
  ∃e,OpW X o σ e/\Rel (s.app y o.dst r) (σ.eff o.dst e)/\ZI e ⟨match r.wr with|some (n,_)=>[n]|none=>[],wF (s.val ev.gl) o.op⟩:=by
 have⟨q,A,B,E,l,w⟩:=z;have g:=f.val ev.gl;have u:OpW X o σ (q.eff (wF (σ.val X.gl) o.op)):=by
  refine .step note q ?_ B λn a=>?_
  ·rw[i,k,g,f.obf];exact A
  simp only[R.eff,l,w]at a
  cases b:r.wr with
  |none=>rw[b]at a;simp at a|some p=>
   have⟨m,F⟩:=p;rw[b]at a
   cases c:r.new with
   |false=>rw[c]at a;simp at a|true=>
    rw[c]at a;have⟨j,d⟩:=h c;rw[b]at d;cases d;simp at a;subst a;intro C;exact absurd (f.us _ C) (Nat.lt_irrefl _)
 refine⟨_,u,?_,?_,?_⟩
 ·--D v
  refine⟨λt=>?_,λn=>?_,λn a=>?_⟩
  ·have:OA (cD o.dst q.out σ.slots) t=_:=za f o.dst q.out t;show OA (cD o.dst q.out σ.slots) t=_;unfold IS.app
   grind
  ·show jA (XF σ.objs (match q.wr with|some (n,o)=>[(n,some o)]|none=>[])) n=_;rw[l];unfold IS.app
   cases b:r.wr with
   |none=>exact f.ob n|some p=>
    rw[Iu,f.ob];cases r.new<;>exact(Tr.get_put _ _ _ _).symm
  have a:n∈(match q.wr,q.new with|some (n,_),true=>[n]|_,_=>[])++σ.used:=a;rw[l,w]at a;unfold IS.app
  cases b:r.wr with
  |none=>rw[b]at a;exact f.us n a|some p=>
   rw[b]at a
   cases c:r.new with
   |false=>rw[c]at a;exact f.us n a|true=>
    rw[c]at a;have⟨j,d⟩:=h c;rw[b]at d;cases d;simp at a;show n<Nat.succ s.nx;rcases a with x|x
    ·omega
    exact abc (f.us n x)
 ·grind[Eff.wn,R.eff]
 intro n a;rw[i,g]at a;exact a
def Ku(p:jS ev P call){j:Nat}{o:Oper}{s k:IS}{l:Tc}(h:NN ev call j o s=some (k,l)){X:Env1}(t:X.P=P)(g:X.T=ev.T)(b:X.gl=ev.gl){σ:St}(c:Rel s σ):
  ∃e,OpW X o σ e/\Rel k (σ.eff o.dst e)/\ZI e l:=by
 unfold NN at h;split at h
 ·rename_i f args u;unfold callR at h;split at h
  ·rename_i r A v;cases h;have⟨ro,w,d⟩:=p _ _ _ _ _ v;refine⟨_,d.op t b c (by rw[c.val,b];exact u),d.rel c j _,λn a=>?_,λn a=>?_⟩
   ·have a:n∈(eH w (r.ch++r.nw)).map (·.1):=a;simp only[eH,gn,abj,eh]at a⊢;rcases a with a|a
    ·obtain⟨m,x,rfl⟩:=iy.1 a;have:=d.inch m (k6.1 x).1;exact .inl this
    grind
   exact d.kss n a
  cases h
 split at h
 ·rename_i r y;cases h;have⟨note,z,i⟩:=ah y;exact Lh z i g b c
 cases h
end
def ya:∀(l:List (Option Nat×Eff))(k:Nat)(s:St),LA (λ_=>true) k l s=LA (λ_=>true) 0 l s|[],k,s=>rfl|p::r,k,s=>by simp[LA,if_true,ya]
def ua{s:IS}{σ:St}(a:Rel s σ)(all:List Oper)(j:Nat):IZ all s j=gv all σ j:=by
 unfold IZ gv
 cases all[j]? with
 |none=>rfl|some o=>
  simp only
  cases o.dst with|none=>rfl|some d=>simp only[a.sl]<;>rfl
section
variable{ev:SA}{P:Program}{call:Call}
def Mh{s:IS}{σ:St}(a:Rel s σ)(d:Option Nat):Rel ⟨RD s.sl d eP,s.ob,s.nx,s.dt⟩ (σ.eff d eF):=
 ⟨λt=>za a d eP t,λn=>a.ob n,λn b=>a.us n (by grind[St.eff,eF])⟩
def TcsOK(b:List Eff)(a:List Tc):Prop:=a.length=b.length/\∀(i:Nat)(e:Eff)(c:Tc),b[i]? =some e->a[i]? =some c->ZI e c
def TcsOK.cons{e:Eff}{tc:Tc}{c:List Eff}{a:List Tc}(h:ZI e tc)(d:TcsOK c a):TcsOK (e::c) (tc::a):=by
 refine⟨by simp[d.1],λi f b g j=>?_⟩
 cases i with|zero=>simp_all|succ i=>exact d.2 i f b bS bS
def Nh{X:Env1}{C:Ctx}(x:KB X.P X.T)(y:GOK X.gl C.E0.H)(r:C.nt=X.nt){g:List Oper}{Q:Exit->Act->World->Prop}{o:Oper}{f:List Oper}{e:Eff}{σ:St}{E:Env}{a:Act}{w:World}(h:VJ X g o σ e)(l:Ga C E σ a w)
  (s:∀E a w,Ga C E (σ.eff o.dst e) a w->wpList X.P g.toArray Q f a w):wpList X.P g.toArray Q (o::f) a w:=by
 have⟨u,z⟩:=h;have i:∀d,o.dst=some d->d<C.nt:=by
  intro d e;rw[e]at u;rw[r];exact u
 have:OpW X o σ e->o.wp X.P a w (wpList X.P g.toArray Q f) Q:=λt=>t.sound x y l i s
 unfold wpList;rcases z with ⟨c,t⟩|⟨j,m,b,c,p,⟨k,t⟩|⟨k,rfl⟩⟩|⟨j,m,c,p,rfl⟩
 ·rw[gm (by simp[Region.wanted,c])];simp_all
 ·have n:=vZ l p;rw[gm (by simp[Region.wanted,c,n,k])];simp_all
 ·have n:=vZ l p;rw[e9 (by simp[Region.wanted,c,n,k])];exact s E _ w (EU l i)
 have n:=Ig l p;rw[e9 (by simp[Region.wanted,c,n])];exact s E _ w (EU l i)
def aaM:=@List.zip_cons_cons
def Oh{X:Env1}{C:Ctx}(j:KB X.P X.T)(k:GOK X.gl C.E0.H)(c:C.nt=X.nt){b:List Oper}{Q:Exit->Act->World->Prop}:∀(l:List Oper)(f:List Eff)(σ:St)(E:Env)(a:Act)(w:World),xN X b l f σ->Ga C E σ a w->
  (∀E a w,Ga C E (LA (λ_=>true) 0 (uB l f) σ) a w->Q .normal a w)->wpList X.P b.toArray Q l a w
 |[],[],σ,E,a,w,_,d,g=>g E a w d|[],_::_,_,_,_,_,h,_,_=>h.elim|o::b,[],_,_,_,_,h,_,_=>h.elim|o::b,e::f,σ,E,a,w,h,d,g=>Nh j k c h.1 d λl m n i=>Oh j k c b f _ l m n h.2 i λE a w d=>by
  refine g E a w ?_;simp only[uB,gF,aaM,LA,if_true];rw[ya];exact d
def AWP.seqR{X:Env1}{id:Nat}{b:Array Oper}{c:List Eff}{σ:St}{Q:NB->St->Prop}(h:xN X b.toList b.toList c σ)(f:Q .normal (LA (λ_=>true) 0 (uB b.toList c) σ)):AWP X (.region id b false) σ Q:=by
 intro C E a w e d;refine wp_region_list ?_;have:=Oh X.ok e.glob e.nt (Q:=WJ C Q) b.toList c σ E a w h d (λE a w d=>⟨E,_,.normal,d,rfl,f⟩);omega
def AWP.anyR{X:Env1}{id:Nat}{b:Array Oper}{c:List Eff}{σ:St}{Q:NB->St->Prop}(h:c.length=b.toList.length)(j:xN X b.toList b.toList c σ)(l:iN b.toList c=true)(m:Q .normal (LA (λ_=>true) 0 (uB b.toList c) σ)):AWP X (.region id b true) σ Q:=by
 intro C E a w f d;refine wp_region_any X.mix ?_;have e:Ga C E σ a {w with drawn:=w.drawn+1}:=d.drew;have:∀(r:List (Option Nat×Eff))(k:Nat)(s:St),LA (λ_=>false) k r s=s:=by
  intro r;induction r with|nil=>intro k s;rfl|cons p r o=>grind[LA]
 have:∀i,(Array.replicate b.size false).getD i false=false:=by
  intro i;rw[ib,Array.getElem?_replicate];split<;>rfl
 have:=Dt (X:=X) (C:=C) (Q:=WJ C Q) X.ok f.glob f.nt h j l (λE a w d=>⟨E,_,.normal,d,rfl,m⟩) b.size (Array.replicate b.size false) E a _ a8 (by
  simp) (by
  simp_all) (e.of_ext (by
   simp_all) (by
   simp_all) (by
   simp_all))
 omega
def ba:∀{b:List Tc},xL b=true->∀t∈b,t.wn=[]
 |[],_,_,h=>by cases h
 |t::r,h,u,a=>by
  unfold xL at h;split at h
  ·rename_i e;rcases e8.1 a with rfl|a
   ·exact e
   exact ba h u a
  cases h
def Lu{c:Array Oper}{k m:Oper}{e d:Eff}{o p:Tc}(r:ZI e o)(g:ZI d p)(f:zS o p=true)(t:bE c k e m d=true):JZ c k m=true:=by
 unfold zS at f;rw[hP,aav,aav]at f;have b:∀(l:List Nat)(n:Nat),(!JD l n)=true->n∉l:=λl n h s=>by rw[(nI l n).2 s]at h;cases h
 have:(e.wn.any λn=>d.rd.contains n||d.wn.contains n)=false:=by
  rw[List.any_eq_false];intro n i a;have j:=f.1 n (r.1 n i);rw[hP]at j;simp only[aax,List.contains_iff_mem]at a;rcases a with a|a
  ·exact b _ _ j.1 (g.2 n a)
  exact b _ _ j.2 (g.1 n a)
 have:(d.wn.any λn=>e.rd.contains n)=false:=by
  rw[List.any_eq_false];intro n i a;simp only[List.contains_iff_mem]at a;exact b _ _ (f.2 n (g.1 n i)) (r.2 n a)
 grind[bE,JZ]
def Ph{a:List Oper}{d:List Eff}{b:List Tc}(o:kV a=true)(e:xL b.reverse=true\/iP a b=true)(B:d.length=a.length)(p:TcsOK d b):iN a d=true:=by
 unfold iN;unfold kV at o;rw[aav]at o⊢;intro j r;have s:j<a.length:=by simpa using r
 have c:=o j r;have l:j<d.length:=a6
 have m:j<b.length:=by rw[p.1];omega
 rw[e7 s]at c⊢;rw[e7 l];simp only[hP,aav]at c⊢;refine⟨c.1,λi t=>?_⟩;have x:i<j:=by simpa using t
 have f:=c.2 i t;rw[e7 (show i<a.length by omega)]at f⊢;rw[e7 (show i<d.length by omega)];simp only[aax]at f⊢;by_cases w:bE a.toArray a[i] d[i] a[j] d[j]=true
 ·right;have u:=p.2 i _ _ (e7 (show i<d.length by omega)) (e7 (show i<b.length by omega));have v:=p.2 j _ _ (e7 l) (e7 m);have n:zS b[i] b[j]=true->((kF a []).getD j 0).testBit i=true:=by
   intro y;have:=Lu u v y w;rcases f with h|h
   ·rw[this]at h;cases h
   exact h
  rcases e with e|e
  ·refine n ?_;have z:=ba e b[i] a8;have A:=ba e b[j] a8;simp[zS,z,A]
  unfold iP at e;rw[aav]at e;have g:=e j r;rw[e7 m]at g;simp only[aav]at g;have k:=g i t;rw[e7 (show i<b.length by omega)]at k;simp only[aax]at k;rcases k with h|h
  ·exact n h
  exact h
 left;simpa using w
def Mu{a:Nat}{sub:Tr Ob}(l:List Nat){s:IS}(b:Inv a sub s):Inv a sub (AL a l s):=by
 grind[AL,Nat.beq,xu]
def bV{bs:Nat}(l:List Nat){s:IS}{σ:St}(a:Rel s σ):∃σ',Wk σ σ'/\Rel (AL bs l s) σ':=by
 unfold AL;cases Nat.beq s.nx bs
 ·exact PZ l a
 grind[Wk.refl]
end
end Go.Lg
