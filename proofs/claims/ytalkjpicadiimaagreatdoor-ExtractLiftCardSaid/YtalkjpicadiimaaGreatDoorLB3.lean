/- The engine that computes runs; no conditions. -/
import Derived.Test.YtalkjpicadiimaaGreatDoorLB2
import Derived.Test.YtalkjpicadiimaaGreatDoorLA4
import Derived.Scope
set_option linter.all false
namespace Go.Lg
structure Kp where
 sl:List Nat
 on:List Nat
 nx:Nat
 dt:List Nat
inductive De where
 | r (x:PV)
 | d (n:Nat) (o:Ob) (x:V)
 | c (r:Res) (ks:List Nat)
 | o (ro:List Nat) (ch:List (Nat × Ob)) (x:V)
 | i (e:List PV)
 | ok
 | z (n:Nat)
 | y (z:Int)
 | v (p:PV)
 | s
 | fb (n:Nat) (b:Option Bool)
 | b (v:Bool)
 | l (k:Kp) (e:AE) (s:IS)
 | n (tp:List (Nat × De))
 | f (n:Nat) (ps:List (List PV))
 | w (r:RB)
abbrev De.T:De:=.r (.bool true)
abbrev De.F:De:=.r (.bool false)
abbrev De.G:De:=.b true
abbrev De.H:De:=.b false
abbrev De.U (l:List PV):De:=.r (.tuple l)
abbrev Di:=List (Nat × De)
def qOn (n:Nat):Di→Option (De × Di)
 | []=>none
 | p::r=>match p with
  | (m,e)=>bif Nat.beq m n then some (e,r) else (match qOn n r with
   | some (x,r')=>some (x,(m,e)::r')
   | none=>none)
def slL:List (Nat × V)→Tr V→Tr V
 | [],t=>t
 | (n,x)::r,t=>slL r (t.put n (some x))
def obL:List (Nat × Ob)→Tr Ob→Tr Ob
 | [],t=>t
 | (n,x)::r,t=>obL r (t.put n (some x))
def mkT {α:Type} (s:Tr α):List Nat→Tr α→Tr α
 | [],t=>t
 | n::r,t=>mkT s r (t.put n (s.get n))
def kpT (k:Kp) (s:IS):IS:=⟨mkT s.sl k.sl .nil,mkT s.ob k.on .nil,k.nx,k.dt⟩
def qCo (m:Nat):List Nat→Bool
 | []=>true
 | n::r=>bif Nat.blt n m then qCo m r else false
def slB (m:Nat) (s:Tr V):List Nat→Bool
 | []=>true
 | t::r=>bif (match s.get t with
  | some v=>qCo m v.names
  | none=>true) then slB m s r else false
def zD8 (m:Nat) (s:Tr Ob):List Nat→Bool
 | []=>true
 | n::r=>bif Nat.blt n m then (bif (match s.get n with
  | some (.arr _ _ _ _)=>true
  | some (.smap _ _)=>true
  | some o=>qCo m o.names
  | none=>true) then zD8 m s r else false) else false
def qOo (s:Tr Ob):List Nat→Prop→Prop
 | [],R=>R
 | n::r,R=>match s.get n with
  | some (.arr _ _ _ es)=>qQm es=[]∧qOo s r R
  | some (.smap _ es)=>qZg es=[]∧qOo s r R
  | _=>qOo s r R
def zKm (l m:List Nat):Bool:=match l with
 | []=>true
 | n::r=>bif qC6 m n then zKm r m else false
def isN {α:Type} : Option α→Bool
 | none=>true
 | some _=>false
def zD9 (on:List Nat) (s:Tr Ob):Nat→Bool
 | 0=>true
 | n+1=>bif (bif qC6 on n then true else isN (s.get n)) then zD9 on s n else false
def zQb (k:Kp) (bs:Nat) (s:IS):Bool :=
 bif Nat.ble bs k.nx then (bif slB k.nx s.sl k.sl then (bif zD8 k.nx s.ob k.on then (bif zD9 k.on s.ob bs then (bif zKm s.dt k.dt then qCo bs k.dt else false) else false) else false) else false) else false
def wl (f:PV→PV):List PV→List PV
 | []=>[]
 | c::r=>f c::wl f r
def PV.w:Nat→PV→PV
 | 0,p=>p
 | n+1,p=>match p with
  | .nils => .slice []
  | .agg cs => .agg (wl (PV.w n) cs)
  | .tuple cs => .tuple (wl (PV.w n) cs)
  | p=>p
def wE (n:Nat):List (List PV)→List (List PV)
 | []=>[]
 | e::r=>wl (PV.w n) e::wE n r
def wV:V→V
 | .pv p => .pv (PV.w 4 p)
 | x=>x
def wA:List V→List V
 | []=>[]
 | x::r=>wV x::wA r
def zA6 (op:Op) (r:RB):RB:=match op with
 | .buildSlice _ _ _=>match r with
  | ⟨.pv (.slice es),none,w⟩=>⟨.pv (.slice (wE 3 es)),none,w⟩
  | r=>r
 | _=>r
def gd (c:Bool) (P:Prop):Prop:=match c with
 | true=>P
 | false=>False
def zFh (op:BinOp) (x y:V):Option (Bool × RB):=match x with
 | .pv (.int a)=>match y with
  | .pv (.int b)=>match op with
   | .add=>some (inB (a+b),⟨.pv (.int (a+b)),none,false⟩)
   | .sub=>some (inB (a-b),⟨.pv (.int (a-b)),none,false⟩)
   | .mul=>some (inB (a * b),⟨.pv (.int (a * b)),none,false⟩)
   | .rem=>some (!eqI b 0,⟨.pv (.int (a.tmod b)),none,false⟩)
   | _=>none
  | _=>none
 | .pv (.num j a)=>match y with
  | .pv (.num j' b)=>match op with
   | .or=>some (bif qAy j j' then inB (qQp .or j a b) else false,⟨.pv (.num j (qQp .or j a b)),none,false⟩)
   | .and=>some (bif qAy j j' then inB (qQp .and j a b) else false,⟨.pv (.num j (qQp .and j a b)),none,false⟩)
   | .sub=>some (bif qAy j j' then inB (j.wrap (a-b)) else false,⟨.pv (.num j (j.wrap (a-b))),none,false⟩)
   | _=>none
  | .pv (.int n)=>match op with
   | .shl=>some (bif ltI n 0 then false else inB (j.wrap (a * 2 ^ (min n.toNat j.bits))),⟨.pv (.num j (j.wrap (a * 2 ^ (min n.toNat j.bits)))),none,false⟩)
   | .shr=>some (bif ltI n 0 then false else inB (a.fdiv (2 ^ (min n.toNat j.bits))),⟨.pv (.num j (a.fdiv (2 ^ (min n.toNat j.bits)))),none,false⟩)
   | _=>none
  | _=>none
 | _=>none
def zFi (e:Nat) (te:TI) (ob:Nat→Option Ob) (nx:Nat) (x y:V):Option (Bool × RB):=match x with
 | .arr n ver len=>match ob n with
  | some (.arr ver' sz ty es)=>match qBt y with
   | some ys=>some (Nat.beq ver ver' && Nat.ble len es.length && Nat.beq ty e && Nat.beq sz te.size && Nat.blt 0 sz && qAx sz ys && qJq ys && Nat.ble (len+ys.length) maxLen && Nat.ble ((len+ys.length) * te.bytes) 140737488355328,
    ⟨.arr n (ver+1) (len+ys.length),some (n,.arr (ver+1) sz ty (es.take len++ys)),false⟩)
   | none=>none
  | _=>none
 | .fsl es=>match y with
  | .pv (.slice (y::ys))=>some (qAw te.size es && qAw te.size (y::ys) && Nat.blt 0 te.size && Nat.ble (es.length+(y::ys).length) maxLen && Nat.ble ((es.length+(y::ys).length) * te.bytes) 140737488355328,
    ⟨.pv (.slice (es++y::ys)),none,false⟩)
  | _=>none
 | .pv .nils=>match qBt y with
  | some ys=>some (Nat.blt 0 te.size && qAx te.size ys && qJq ys && Nat.ble ys.length maxLen && Nat.ble (ys.length * te.bytes) 140737488355328,
    ⟨.arr nx 1 ys.length,some (nx,.arr 1 te.size e ys),true⟩)
  | none=>none
 | _=>none
def qRx (te:TI) (ob:Nat→Option Ob) (x:V) (lo hi mx:Option V):Option (Bool × V):=match x,lo,hi,mx with
 | .pv (.slice es),some (.pv (.int l)),none,none=>match qIh l with
  | some k=>some (Nat.ble k es.length && qAw te.size es,.pv (.slice (es.drop k)))
  | none=>none
 | .pv (.slice es),none,some (.pv (.int h)),none=>match qIh h with
  | some k=>some (Nat.ble k es.length,.pv (.slice (es.take k)))
  | none=>none
 | .arr n ver len,none,some (.pv (.int h)),none=>match qIh h,ob n with
  | some k,some (.arr ver' _ _ _)=>some (Nat.beq ver ver' && Nat.ble k len,.arr n ver k)
  | _,_=>none
 | .pv (.slice es),none,some (.pv (.int h)),some (.pv (.int m))=>match qIh h,qIh m with
  | some k,some l=>some (Nat.beq k es.length && Nat.beq l es.length,.fsl es)
  | _,_=>none
 | _,_,_,_=>none
def opG (T:Nat→Option TI) (nx:Nat) (val:Operand→V) (ob:Nat→Option Ob) (op:Op):Option (Bool × RB):=match op with
 | .binOp b t x y _=>match T t with
  | some _=>zFh b (val x) (val y)
  | none=>none
 | .slice t x lo hi mx=>match T t with
  | some ⟨.slice e,_,_,_,_⟩=>match T e with
   | some te=>match qRx te ob (val x) (lo.map val) (hi.map val) (mx.map val) with
    | some (c,v)=>some (c,⟨v,none,false⟩)
    | none=>none
   | none=>none
  | _=>none
 | .call { callee:=.builtin .append,args,argTypes } => match argTypes.toList,args.toList with
  | [t,t'],[x,y]=>bif Nat.beq t t' then (match T t with
    | some ⟨.slice e,_,_,_,_⟩=>match T e with
     | some te=>zFi e te ob nx (val x) (val y)
     | none=>none
    | _=>none) else none
  | _,_=>none
 | .call { callee:=.builtin .max,args,argTypes:=_ } => match args.toList with
  | [x,y]=>match val x with
   | .pv (.int a)=>match val y with
    | .pv (.int b)=>some (true,⟨.pv (.int (bif ltI a b then b else a)),none,false⟩)
    | _=>none
   | _=>none
  | _=>none
 | _=>none
def zFj (T:Nat→Option TI) (nx:Nat) (val:Operand→V) (op:Op):Option (Bool × RB):=match op with
 | .buildSlice t len parts=>match T t with
  | some ⟨.slice e,_,_,_,_⟩=>match T e with
   | some te=>match qG9 0 (parts.toList.map fun p=>(p.1,val p.2)) with
    | some es=>some (Nat.beq es.length len && Nat.ble len 16777216 && Nat.ble (len * te.size) 16777216 && qAx te.size es,⟨.arr nx 0 len,some (nx,.arr 0 te.size e es),true⟩)
    | none=>none
   | none=>none
  | _=>none
 | _=>none
def opX (T:Nat→Option TI) (val:Operand→V) (op:Op):Option (List (List PV) × Nat × Nat):=match op with
 | .indexAddr t x i=>match val i with
  | .pv (.int z)=>match qIh z with
   | some k=>match T t with
    | some ⟨.slice e,_,_,_,_⟩=>match T e with
     | some te=>match val x with
      | .pv (.slice es)=>some (es,k,te.size)
      | _=>none
     | none=>none
    | _=>none
   | none=>none
  | _=>none
 | _=>none
def zA7 (q:PV) (y:V):Option Bool:=match q with
 | .nptr cs=>match cs with
  | c::_=>match c with
   | .flg p=>match y with
    | .pv z=>match z with
     | .bool b=>some (bif b then p else true)
     | _=>none
    | _=>none
   | _=>none
  | []=>none
 | _=>none
def qRy (T:Nat→Option TI) (val:Operand→V) (dst:Option Nat) (op:Op):Option Bool:=match op with
 | .store t x y=>match dst with
  | none=>match T t with
   | some ti=>match val x with
    | .pv q=>bif Nat.beq 1 ti.size then zA7 q (val y) else none
    | _=>none
   | none=>none
  | some _=>none
 | _=>none
def zQc (b:Bool):List PV→Option (List PV)
 | []=>none
 | c::r=>match r with
  | []=>match c with
   | .bool x=>match x with
    | false=>some [.flg b]
    | true=>none
   | _=>none
  | _::_=>match c with
   | .flg _=>none
   | c=>match zQc b r with
    | some l=>some (c::l)
    | none=>none
def zKn (K:List PV→PV) (n:Nat) (ps:List PV) (s:IS):IS:=⟨s.sl.map (qUb K n ps),(s.ob.put n none).map (qE6 K n ps),s.nx,s.dt⟩
def fbI (bs n:Nat) (b:Option Bool) (s:IS):Option IS:=bif Nat.blt n bs then none else (match s.ob.get n with
 | some (.box cs)=>match unR cs with
  | some qs=>match b with
   | none=>some (zKn .ptr n (wl (PV.w 4) qs) s)
   | some b=>match zQc b qs with
    | some ps=>some (zKn .nptr n ps s)
    | none=>none
  | none=>none
 | _=>none)
def brT (r:RB) (k:RB→Prop):Prop:=match r with
 | ⟨.pv (.bool c),none,w⟩=>match c with
  | true=>k ⟨.pv (.bool true),none,w⟩
  | false=>k ⟨.pv (.bool false),none,w⟩
 | r=>k r
def zFk (r:RB) (v:Bool) (k:RB→Prop):Prop:=match r with
 | ⟨.pv (.bool c),none,w⟩=>c=v∧k ⟨.pv (.bool v),none,w⟩
 | _=>False
def zFl:Option Nat→Nat
 | some d=>d
 | none=>99999
def zKo (ev:qVq) (s:IS) (dst:Option Nat) (op:Op) (tp:Di) (k:RB→Di→Prop):Prop:=match qOn (zFl dst) tp with
 | none=>match opE ev.T s.nx (s.val ev.gl) s.ob.get dst op with
  | some r=>match op with
   | .binOp _ _ _ _ _=>brT r fun r=>k r tp
   | .unOp _ _ _=>brT r fun r=>k r tp
   | _=>k r tp
  | none=>False
 | some (e,tp')=>match e with
  | .ok=>match opG ev.T s.nx (s.val ev.gl) s.ob.get op with
   | some (c,r)=>c=true∧k r tp'
   | none=>match zFj ev.T s.nx (s.val ev.gl) op with
    | some (c,r)=>c=true∧k r tp'
    | none=>False
  | .z n=>match opG ev.T s.nx (s.val ev.gl) s.ob.get op with
   | some (c,r)=>match r with
    | ⟨.pv (.int z),none,false⟩=>(c=true∧z = .ofNat n)∧k ⟨.pv (.int (.ofNat n)),none,false⟩ tp'
    | _=>False
   | none=>False
  | .y y=>match opG ev.T s.nx (s.val ev.gl) s.ob.get op with
   | some (c,r)=>match r with
    | ⟨.pv (.int z),none,false⟩=>(c=true∧z=y)∧k ⟨.pv (.int y),none,false⟩ tp'
    | _=>False
   | none=>False
  | .v p=>match opG ev.T s.nx (s.val ev.gl) s.ob.get op with
   | some (c,r)=>match r with
    | ⟨.pv q,none,false⟩=>(c=true∧q=p)∧k ⟨.pv p,none,false⟩ tp'
    | _=>False
   | none=>False
  | .i x=>match opX ev.T (s.val ev.gl) op with
   | some (es,n,z)=>(qYl es n=some x∧qAw z es=true)∧k ⟨.pv (.ptr x),none,false⟩ tp'
   | none=>False
  | .s=>match qRy ev.T (s.val ev.gl) dst op with
   | some c=>c=true∧k ⟨.undef,none,false⟩ tp'
   | none=>False
  | .b v=>match opE ev.T s.nx (s.val ev.gl) s.ob.get dst op with
   | some r=>zFk r v fun r=>k r tp'
   | none=>False
  | .w r=>opE ev.T s.nx (s.val ev.gl) s.ob.get dst op=some r∧k r tp'
  | _=>False
def qJ9:List (Nat × Ob)→List Nat
 | []=>[]
 | (n,_)::r=>n::qJ9 r
def qRz:List Nat→Bool
 | []=>true
 | n::r=>bif qC6 r n then false else qRz r
def zY5 (m:List Nat):List Nat→Bool
 | []=>true
 | n::r=>bif qC6 m n then false else zY5 m r
def apL {α:Type} : List α→List α→List α
 | [],l=>l
 | x::r,l=>x::apL r l
def zA8 (s:Tr Ob):List Nat→(List (Nat × Ob)→Prop)→Prop
 | [],k=>k []
 | n::r,k=>match s.get n with
  | some o=>zA8 s r fun l=>k ((n,o)::l)
  | none=>False
abbrev qKe:=Nat→List V→IS→Di→(Res→List Nat→Di→Prop)→Prop
def zKp (ev:qVq) (P:Program) (call:qKe) (f:Nat) (args:List V) (s:IS) (dst:Option Nat) (tp:Di) (k:Res→List Nat→Di→Prop):Prop:=match qOn (zFl dst) tp with
 | none=>call f args s [] fun r ks _=>k r ks tp
 | some (e,tp')=>match e with
  | .r x=>AC P ev.gl f (wA args) [] (.ret (.pv x)) []∧k ⟨.pv x,[],[],s.nx⟩ [] tp'
  | .d n o' x=>gd (Nat.blt n s.nx) (match s.ob.get n with
   | some o=>AC P ev.gl f (wA args) [(n,o)] (.ret x) [(n,o')]∧k ⟨x,[(n,o')],[],s.nx⟩ [n] tp'
   | none=>False)
  | .n tp=>call f args s tp fun r ks _=>k r ks tp'
  | .o ro ch x=>gd (bif qRz (qJ9 ch) then (bif zY5 (qJ9 ch) ro then (bif qCo s.nx (qJ9 ch) then true else false) else false) else false) (zA8 s.ob ro fun l=>zA8 s.ob (qJ9 ch) fun l1 =>
   AC P ev.gl f (wA args) (apL l l1) (.ret x) (apL l ch)∧k ⟨x,ch,[],s.nx⟩ (apL ro (qJ9 ch)) tp')
  | .c r ks=>(∃ ro o1,Called P ev.gl s f args r ks ro o1)∧k r ks tp'
  | _=>False
def doT (ev:qVq) (P:Program) (call:qKe) (bs:Nat) (o:Oper) (s:IS) (tp:Di) (k:IS→Tc→Di→Prop):Prop:=match qZ8 (s.val ev.gl) o.op with
 | some (f,args)=>zKp ev P call f args s o.dst tp fun r ks tp=>k (qFe bs s o.dst r) ⟨r.ch.map (·.1)++r.nw.map (·.1),ks⟩ tp
 | none=>zKo ev s o.dst o.op tp fun r tp=>k (s.app bs o.dst (zA6 o.op r)) ⟨match r.wr with|some (n,_)=>[n]|none=>[],rdN (s.val ev.gl) o.op⟩ tp
def opT (ev:qVq) (P:Program) (call:qKe) (nt bs:Nat) (all:List Oper) (o:Oper) (s:IS) (tp:Di) (k:IS→Tc→Di→Prop):Prop :=
 gd (zFe nt o.dst) (match o.guard with
  | none=>doT ev P call bs o s tp k
  | some (j,want)=>match gvI all s j with
   | .pv (.bool b)=>match b with
    | true=>match want with
     | true=>doT ev P call bs o s tp k
     | false=>k ⟨qIi s.sl o.dst qOj,s.ob,s.nx,s.dt⟩ ⟨[],[]⟩ tp
    | false=>match want with
     | false=>doT ev P call bs o s tp k
     | true=>k ⟨qIi s.sl o.dst qOj,s.ob,s.nx,s.dt⟩ ⟨[],[]⟩ tp
   | .pv (.tuple [])=>k ⟨qIi s.sl o.dst qOj,s.ob,s.nx,s.dt⟩ ⟨[],[]⟩ tp
   | _=>False)
def zFm (ev:qVq) (P:Program) (call:qKe) (nt bs:Nat) (all:List Oper):List Oper→IS→List Tc→Di→(IS→List Tc→Di→Prop)→Prop
 | [],s,tr,tp,k=>k s tr tp
 | o::rest,s,tr,tp,k=>opT ev P call nt bs all o s tp fun s1 tc tp=>zFm ev P call nt bs all rest s1 (tc::tr) tp k
def zFn (ev:qVq) (P:Program) (call:qKe) (nt bs:Nat) (ops:List Oper) (draw:Bool) (s:IS) (tp:Di) (k:IS→Di→Prop):Prop :=
 zFm ev P call nt bs ops ops (zA3 bs (qRp ops) s) [] tp fun s1 tr tp=>match draw with
  | true=>gd (zKh ops) (match qOk tr with
   | true=>k s1 tp
   | false=>gd (qU5 ops tr.reverse) (k s1 tp))
  | false=>k s1 tp
abbrev KT:=AE→IS→Di→Prop
def onT (f:IS→Di→Prop) (k:KT):KT
 | .normal,s,tp=>f s tp
 | .exit i,s,tp=>k (.exit i) s tp
 | .ret,s,tp=>k .ret s tp
def qHl (id:Nat) (k:KT):KT
 | .normal,s,tp=>k .normal s tp
 | .exit i,s,tp=>match Nat.beq i id with
  | true=>k .normal s tp
  | false=>k (.exit i) s tp
 | .ret,s,tp=>k .ret s tp
def zKq (b:IS→Di→KT→Prop) (k:KT):Nat→IS→Di→Prop
 | 0,_,_=>False
 | m+1,s,tp=>b s tp (onT (zKq b k m) k)
def zJ0:Code→Option Nat
 | .region id _ _=>some id
 | .seq a b=>match zJ0 a with
  | some n=>some n
  | none=>zJ0 b
 | .block _ b=>zJ0 b
 | .scope b=>zJ0 b
 | .cond _ a b=>match zJ0 a with
  | some n=>some n
  | none=>zJ0 b
 | .loop b=>zJ0 b
 | _=>none
def zLq (c:Code):Nat:=match zJ0 c with
 | some n=>n+100000
 | none=>99998
def WkX (X:qZ9) (σ σ':St):Prop:=∀ C E a w,COK X C→Ga C E σ a w→∃ E',Ga C E' σ' a w
structure HX (X:qZ9) (ev:qVq) (P:Program) (nt bs:Nat):Prop where
 P:X.P=P
 T:X.T=ev.T
 gl:X.gl=ev.gl
 nt:X.nt=nt
 given:∀ n∈X.given,n<bs
def qLk (e:AE) (s':IS):AEx→St→Prop:=fun ae σ'=>ae=AE.x e∧Rel s' σ'
structure Reach (ev:qVq) (P:Program) (nt bs:Nat) (c:Code) (s:IS) (e:AE) (s':IS):Prop where
 inv:∀ sub,Inv bs sub s→Inv bs sub s'
 awp:∀ X,HX X ev P nt bs→∀ σ,Rel s σ→AWP X c σ (qLk e s')
structure LoopIs (ev:qVq) (P:Program) (nt bs:Nat) (b:Code) (s:IS) (e:AE) (s':IS):Prop where
 inv:∀ sub,Inv bs sub s→Inv bs sub s'
 awp:∃ m,∀ X,HX X ev P nt bs→∀ σ,Rel s σ→qXa X b (qLk e s') m σ
def qLl (ev:qVq) (P:Program) (call:qKe) (N nt bs:Nat):Code→IS→Di→KT→Prop
 | .skip,s,tp,k=>k .normal s tp
 | .seq a b,s,tp,k=>qLl ev P call N nt bs a s tp (onT (fun s tp=>qLl ev P call N nt bs b s tp k) k)
 | .cond c x y,s,tp,k=>match s.val ev.gl c with
  | .pv (.bool b)=>match b with
   | true=>qLl ev P call N nt bs x s tp k
   | false=>qLl ev P call N nt bs y s tp k
  | _=>False
 | .block id b,s,tp,k=>qLl ev P call N nt bs b s tp (qHl id k)
 | .exit id,s,tp,k=>k (.exit id) s tp
 | .ret,s,tp,k=>k .ret s tp
 | .region id ops d,s,tp,k=>zFn ev P call nt bs ops.toList d s tp fun s tp=>match qOn (id+300000) tp with
  | some (.f n ps,tp')=>match s.ob.get n with
   | some (.arr ver _ _ es)=>gd (!Nat.blt n bs) (es=pvE ps∧k .normal ⟨s.sl.map (qB8 n ver ps),(s.ob.put n none).map (qJo n ver ps),s.nx,s.dt⟩ tp')
   | _=>False
  | some (.fb n b,tp')=>match fbI bs n b s with
   | some s'=>k .normal s' tp'
   | none=>False
  | some (.ok,tp')=>k .normal s tp'
  | _=>k .normal s tp
 | .loop b,s,tp,k=>match qOn (zLq b) tp with
  | some (.l kp e s',tp')=>gd (zQb kp bs s) (qOo s.ob kp.on (LoopIs ev P nt bs b (kpT kp s) e s'∧k e s' tp'))
  | _=>zKq (qLl ev P call N nt bs b) k N s tp
 | .scope b,s,tp,k=>qLl ev P call N nt bs b s tp k
 | .label _,s,tp,k=>k .normal s tp
 | _,_,_,_=>False
def qO7 (ev:qVq) (P:Program) (call:qKe) (N nt bs:Nat):Code→IS→Di→KT→Prop
 | .seq a b,s,tp,k=>qO7 ev P call N nt bs a s tp (onT (fun s tp=>qO7 ev P call N nt bs b s tp k) k)
 | .block id b,s,tp,k=>qO7 ev P call N nt bs b s tp (qHl id k)
 | .scope b,s,tp,k=>qO7 ev P call N nt bs b s tp k
 | .cond c x y,s,tp,k=>match s.val ev.gl c with
  | .pv (.flg b)=>(b=true→qO7 ev P call N nt bs x s tp k)∧qO7 ev P call N nt bs y s tp k
  | .pv (.bool b)=>match b with
   | true=>qO7 ev P call N nt bs x s tp k
   | false=>qO7 ev P call N nt bs y s tp k
  | _=>False
 | c,s,tp,k=>qLl ev P call N nt bs c s tp k
def zA9 (ev:qVq) (P:Program) (call:qKe) (N:Nat) (fn:Func) (c:Code) (args:List V) (nx:Nat) (sub:Tr Ob) (tp:Di) (k:Res→Di→Prop):Prop :=
 qLl ev P call N fn.ntmps nx c ⟨qJe 0 args .nil,sub,nx,[]⟩ tp fun e s tp=>match zY4 ev.T nx sub fn.results.toList e s with
  | some r=>k r tp
  | none=>False
def qHm (ev:qVq) (P:Program) (N:Nat):Nat→qKe
 | 0=>fun _ _ _ _ _=>False
 | n+1=>fun f args s tp k=>match ev.F f with
  | some fn=>match fn.body with
   | some c=>gd (Nat.ble args.length fn.ntmps) (match reach s.nx s.ob 1000000 (qQj args) .nil [] with
    | some (sub,ks)=>zA9 ev P (qHm ev P N n) N fn c args s.nx sub tp fun r tp=>k r ks tp
    | none=>False)
   | none=>False
  | none=>False
def zJ1 (ev:qVq) (P:Program) (n N nt bs:Nat) (b:Code) (s:IS) (tp:Di) (ki ko:Kp) (e:AE) (s':IS):Prop :=
 qLl ev P (qHm ev P N n) N nt bs b s tp fun e1 s1 _=>match e1 with
  | .normal=>gd (zQb ki bs s1) (qOo s1.ob ki.on (LoopIs ev P nt bs b (kpT ki s1) e s'))
  | e1=>e1=e∧gd (zQb ko bs s1) (qOo s1.ob ko.on (kpT ko s1=s'))
def zId (r:Res) (x:PV):Prop:=match r with
 | ⟨.pv y,[],[],_⟩=>y.w 4=x
 | _=>False
def zFo (ev:qVq) (P:Program) (N n f:Nat) (args:List PV) (tp:Di) (x:PV):Prop:=qHm ev P N n f (args.map .pv) ⟨.nil,.nil,0,[]⟩ tp fun r _ _=>zId r x
def zBa (n:Nat) (o:Ob):List (Nat × Ob)→Ob
 | []=>o
 | (m,o')::r=>bif Nat.beq n m then o' else zBa n o r
def zY6 (ch:List (Nat × Ob)):List (Nat × Ob)→List (Nat × Ob)
 | []=>[]
 | (n,o)::r=>(n,zBa n o ch)::zY6 ch r
def zIe (objs:List (Nat × Ob)) (r:Res) (ks:List Nat) (x:V) (objs':List (Nat × Ob)):Prop:=match r with
 | ⟨y,ch,[],_⟩=>gd (bif zKm (qJ9 objs) ks then qRz (qJ9 ch) else false) ((wV y,zY6 ch objs)=(x,objs'))
 | _=>False
def zIf (ev:qVq) (P:Program) (N n f:Nat) (args:List V) (objs:List (Nat × Ob)) (m:Nat) (tp:Di) (x:V) (objs':List (Nat × Ob)):Prop :=
 gd (qRz (qJ9 objs)) (qHm ev P N n f args ⟨.nil,obL objs .nil,m,[]⟩ tp fun r ks _=>zIe objs r ks x objs')
def zQd (ev:qVq) (P:Program) (N n f:Nat) (args:List PV) (tp:Di) (ko:Kp) (x:PV):Prop:=match ev.F f with
 | some fn=>match fn.body with
  | some c=>gd (Nat.ble args.length fn.ntmps) (qO7 ev P (qHm ev P N n) N fn.ntmps 0 c ⟨qJe 0 (args.map .pv) .nil,.nil,0,[]⟩ tp fun e s _ =>
    gd (zQb ko 0 s) (qOo s.ob ko.on (zY4 ev.T 0 .nil fn.results.toList e (kpT ko s)=some ⟨.pv x,[],[],ko.nx⟩)))
  | none=>False
 | none=>False
theorem qK4 {c:Bool} {P:Prop} (h:gd c P):c=true∧P:=by
 unfold gd at h
 split at h
 ·exact⟨rfl,h⟩
 ·exact h.elim
theorem zKr {k:TK} {op:BinOp} {x y:V} {yo:Operand} {c:Bool} {r:RB} (h:zFh op x y=some (c,r)) (hc:c=true):ro (zKb k op x y yo)=some r:=by
 have hn:∀ {d:Bool} {j:IntKind} {z:Int},(bif d then inB z else false)=true→d=true∧qHa j z=some (.pv (.num j z)):=by
  intro d j z hd
  cases d with
  | false=>cases hd
  | true=>exact⟨rfl,by unfold qHa qMk;rw [show inB z=true from hd];rfl⟩
 have hs:∀ {n:Int} {j:IntKind} {z:Int},(bif ltI n 0 then false else inB z)=true→ltI n 0=false∧qHa j z=some (.pv (.num j z)):=by
  intro n j z hd
  cases e:ltI n 0 with
  | true=>rw [e] at hd;cases hd
  | false=>rw [e] at hd;exact⟨rfl,by unfold qHa qMk;rw [show inB z=true from hd];rfl⟩
 unfold zFh at h
 split at h
 ·rename_i a
  split at h
  ·rename_i b
   have hi:zKb k op (.pv (.int a)) (.pv (.int b)) yo=zJs op a b:=rfl
   rw [hi]
   split at h
   ·cases h;simp only [zJs,qO5,hc,cond_true];rfl
   ·cases h;simp only [zJs,qO5,hc,cond_true];rfl
   ·cases h;simp only [zJs,qO5,hc,cond_true];rfl
   ·cases h
    have hb:eqI b 0=false:=by simpa using hc
    simp only [zJs,hb,cond_false]
    rfl
   ·cases h
  ·cases h
 ·rename_i j a
  split at h
  ·rename_i j' b
   have hi:zKb k op (.pv (.num j a)) (.pv (.num j' b)) yo=(bif qAy j j' then zW9 op j a b else none):=rfl
   rw [hi]
   split at h
   ·cases h;obtain⟨h1,h2⟩:=hn (j:=j) hc;rw [h1,cond_true];simp only [zW9,h2];rfl
   ·cases h;obtain⟨h1,h2⟩:=hn (j:=j) hc;rw [h1,cond_true];simp only [zW9,h2];rfl
   ·cases h;obtain⟨h1,h2⟩:=hn (j:=j) hc;rw [h1,cond_true];simp only [zW9,h2];rfl
   ·cases h
  ·rename_i n
   have hi:zKb k op (.pv (.num j a)) (.pv (.int n)) yo=qD6 op j a n:=rfl
   rw [hi]
   split at h
   ·cases h;obtain⟨h1,h2⟩:=hs (j:=j) hc;simp only [qD6,h1,h2,cond_false];rfl
   ·cases h;obtain⟨h1,h2⟩:=hs (j:=j) hc;simp only [qD6,h1,h2,cond_false];rfl
   ·cases h
  ·cases h
 ·cases h
theorem zKs {e:Nat} {te:TI} {ob:Nat→Option Ob} {nx:Nat} {x y:V} {c:Bool} {r:RB} (h:zFi e te ob nx x y=some (c,r)) (hc:c=true):qXl e te ob nx x y=some r:=by
 unfold zFi at h
 unfold qXl
 split at h
 ·split at h
  ·rename_i eo
   split at h
   ·rename_i ys ey
    cases h
    simp only [eo,ey,hc,cond_true]
   ·cases h
  ·cases h
 ·split at h
  ·cases h
   simp only [hc,cond_true]
  ·cases h
 ·split at h
  ·rename_i ys ey
   cases h
   simp only [ey,hc,cond_true]
  ·cases h
 ·cases h
theorem qR0 {te:TI} {ob:Nat→Option Ob} {x:V} {lo hi mx:Option V} {c:Bool} {v:V} (h:qRx te ob x lo hi mx=some (c,v)) (hc:c=true):qG8 te ob x lo hi mx=some v:=by
 unfold qRx at h
 unfold qG8
 split at h
 ·split at h
  ·rename_i k ek
   cases h
   simp only [ek,hc,cond_true]
  ·cases h
 ·split at h
  ·rename_i k ek
   cases h
   simp only [ek,hc,cond_true]
  ·cases h
 ·split at h
  ·rename_i k ver' _ _ _ ek eo
   cases h
   simp only [ek,eo,hc,cond_true]
  ·cases h
 ·split at h
  ·rename_i k l ek el
   cases h
   simp only [ek,el,hc,cond_true]
  ·cases h
 ·cases h
theorem qMs {T:Nat→Option TI} {nx:Nat} {val:Operand→V} {ob:Nat→Option Ob} {dst:Option Nat} {op:Op} {c:Bool} {r:RB} (h:opG T nx val ob op=some (c,r)) (hc:c=true):opE T nx val ob dst op=some r:=by
 unfold opG at h
 split at h
 ·split at h
  ·rename_i ti et
   simp only [opE,et]
   exact zKr h hc
  ·cases h
 ·split at h
  ·rename_i e a b c' d et
   split at h
   ·rename_i te ee
    split at h
    ·rename_i c1 v hs
     cases h
     simp only [opE,et,ee,qR0 hs hc]
     rfl
    ·cases h
   ·cases h
  ·cases h
 ·split at h
  ·rename_i t t' x y e1 e2
   obtain⟨h1,h⟩:=qQe h
   split at h
   ·rename_i e a b c' d et
    split at h
    ·rename_i te ee
     simp only [opE,e1,e2,h1,cond_true,et,ee]
     exact zKs h hc
    ·cases h
   ·cases h
  ·cases h
 ·split at h
  ·rename_i x y e1
   split at h
   ·rename_i a ea
    split at h
    ·rename_i b eb
     cases h
     simp only [opE,e1,ea,eb]
     rfl
    ·cases h
   ·cases h
  ·cases h
 ·cases h
theorem zBb {T:Nat→Option TI} {nx:Nat} {val:Operand→V} {ob:Nat→Option Ob} {dst:Option Nat} {op:Op} {es:List (List PV)} {n z:Nat} {x:List PV} (h:opX T val op=some (es,n,z)) (h1:qYl es n=some x) (h2:qAw z es=true):opE T nx val ob dst op=some ⟨.pv (.ptr x),none,false⟩:=by
 unfold opX at h
 split at h
 ·rename_i t x' i
  split at h
  ·rename_i zi ei
   split at h
   ·rename_i k ek
    split at h
    ·rename_i e a b c d et
     split at h
     ·rename_i te ee
      split at h
      ·rename_i es' ex
       cases h
       simp only [opE,qMi,ei,ek,et,ee,ex,h1,h2,cond_true]
       rfl
      ·cases h
     ·cases h
    ·cases h
   ·cases h
  ·cases h
 ·cases h
theorem zJ2 {r:RB} {k:RB→Prop} (h:brT r k):k r:=by
 unfold brT at h
 split at h
 ·split at h
  ·exact h
  ·exact h
 ·exact h
theorem zKt {r:RB} {v:Bool} {k:RB→Prop} (h:zFk r v k):k r:=by
 unfold zFk at h
 split at h
 ·obtain⟨rfl,h⟩:=h;exact h
 ·exact h.elim
theorem qR1 {T:Nat→Option TI} {nx:Nat} {val:Operand→V} {ob:Nat→Option Ob} {dst:Option Nat} {op:Op} {c:Bool} (h:qRy T val dst op=some c) (hc:c=true):opE T nx val ob dst op=some ⟨.undef,none,false⟩:=by
 subst hc
 unfold qRy at h
 split at h
 ·rename_i t x y
  split at h
  ·split at h
   ·rename_i ti et
    split at h
    ·rename_i q eq
     obtain⟨h1,h⟩:=qQe h
     have h1:=Nat.eq_of_beq_eq_true h1
     have key:∃ p l b,q = .nptr (.flg p::l)∧val y = .pv (.bool b)∧(bif b then p else true)=true:=by
      unfold zA7 at h
      split at h
      ·split at h
       ·split at h
        ·split at h
         ·rename_i z hz
          split at h
          ·exact⟨_,_,_,rfl,hz,Option.some.inj h⟩
          ·cases h
         ·cases h
        ·cases h
       ·cases h
      ·cases h
     obtain⟨p,l,b,rfl,hy,hb⟩:=key
     have h2:qVz (.pv (.bool b))=some [.pv (.bool b)]:=rfl
     simp only [opE,et,qCc,eq,hy,h2,List.length_singleton,← h1,qRa,hb,cond_true]
     rfl
    ·cases h
   ·cases h
  ·cases h
 ·cases h
def OpR (ev:qVq) (s:IS) (dst:Option Nat) (op:Op) (r:RB):Prop:=opE ev.T s.nx (s.val ev.gl) s.ob.get dst op=some r∨r.new=true∧(∃ o,r.wr=some (s.nx,o)) ∧ ∃ note,qO6 (qQb ev.T note (s.val ev.gl) s.ob.get dst op) r
theorem zKu {T:Nat→Option TI} {nx:Nat} {val:Operand→V} {ob:Nat→Option Ob} {dst:Option Nat} {op:Op} {c:Bool} {r:RB} (h:zFj T nx val op=some (c,r)) (hc:c=true):r.new=true∧(∃ o,r.wr=some (nx,o)) ∧ ∃ note,qO6 (qQb T note val ob dst op) r:=by
 unfold zFj at h
 split at h
 ·split at h
  ·rename_i e _ _ _ _ et
   split at h
   ·rename_i te ee
    split at h
    ·rename_i es ep
     cases h
     simp only [Bool.and_eq_true] at hc
     obtain⟨⟨⟨a1,a2⟩,a3⟩,a4⟩:=hc
     refine⟨rfl,⟨_,rfl⟩,.arr nx te.size e,?_⟩
     simp only [qQb,et,ee,qCd ep]
     exact⟨_,rfl,⟨⟨Nat.eq_of_beq_eq_true a1,Nat.le_of_ble_eq_true a2,Nat.le_of_ble_eq_true a3,qCa a4⟩,rfl,rfl⟩,rfl,rfl,rfl⟩
    ·cases h
   ·cases h
  ·cases h
 ·cases h
theorem zQe {ev:qVq} {s:IS} {dst:Option Nat} {op:Op} {tp:Di} {k:RB→Di→Prop} (h:zKo ev s dst op tp k):∃ r tp',OpR ev s dst op r∧k r tp':=by
 unfold zKo at h
 split at h
 ·split at h
  ·rename_i r hr
   split at h
   ·exact⟨r,tp,.inl hr,zJ2 h⟩
   ·exact⟨r,tp,.inl hr,zJ2 h⟩
   ·exact⟨r,tp,.inl hr,h⟩
  ·exact h.elim
 ·split at h
  ·split at h
   ·rename_i c r hg
    exact⟨r,_,.inl (qMs hg h.1),h.2⟩
   ·split at h
    ·rename_i c r hg
     exact⟨r,_,.inr (zKu hg h.1),h.2⟩
    ·exact h.elim
  ·split at h
   ·rename_i c r hg
    split at h
    ·obtain⟨⟨h1,rfl⟩,h2⟩:=h
     exact⟨_,_,.inl (qMs hg h1),h2⟩
    ·exact h.elim
   ·exact h.elim
  ·split at h
   ·rename_i c r hg
    split at h
    ·obtain⟨⟨h1,rfl⟩,h2⟩:=h
     exact⟨_,_,.inl (qMs hg h1),h2⟩
    ·exact h.elim
   ·exact h.elim
  ·split at h
   ·rename_i c r hg
    split at h
    ·obtain⟨⟨h1,rfl⟩,h2⟩:=h
     exact⟨_,_,.inl (qMs hg h1),h2⟩
    ·exact h.elim
   ·exact h.elim
  ·split at h
   ·rename_i es n z hg
    exact⟨_,_,.inl (zBb hg h.1.1 h.1.2),h.2⟩
   ·exact h.elim
  ·split at h
   ·rename_i c hg
    exact⟨_,_,.inl (qR1 hg h.1),h.2⟩
   ·exact h.elim
  ·split at h
   ·rename_i r hr
    exact⟨r,_,.inl hr,zKt h⟩
   ·exact h.elim
  ·exact⟨_,_,.inl h.1,h.2⟩
  ·exact h.elim
theorem qMt {H:Hp} : ∀ (n:Nat) (p:PV) (v:Value),RepP H p v→RepP H (p.w n) v
 | 0,_,_,h=>h
 | n+1,p,v,h=>by
  have hl:∀ (cs:List PV) (vs:List Value),RepL H cs vs→RepL H (wl (PV.w n) cs) vs:=by
   intro cs
   induction cs with
   | nil=>intro vs _;simp [wl,RepL]
   | cons c r ih =>
    intro vs h
    cases vs with
    | nil=>exact h
    | cons v vs=>exact⟨qMt n c v h.1,ih vs h.2⟩
  have hn:∀ (cs:List PV),(wl (PV.w n) cs).length=cs.length:=by
   intro cs
   induction cs with
   | nil=>rfl
   | cons c r ih=>simp [wl,ih]
  unfold PV.w
  split
  ·exact qUw h
  ·simp only [RepP] at h ⊢
   obtain⟨vs,e1,e2,e3⟩:=h
   exact⟨vs,e1,by rw [hn];exact e2,hl _ _ e3⟩
  ·simp only [RepP] at h ⊢
   obtain⟨vs,e1,e2,e3⟩:=h
   exact⟨vs,e1,by rw [hn];exact e2,hl _ _ e3⟩
  ·exact h
theorem zJ3 (f:PV→PV):∀ (cs:List PV),(wl f cs).length=cs.length
 | []=>rfl
 | c::r=>by simp [wl,zJ3 f r]
theorem qR2 {H:Hp} (n:Nat):∀ (cs:List PV) (vs:List Value),RepL H cs vs→RepL H (wl (PV.w n) cs) vs
 | [],vs,_=>by simp [wl,RepL]
 | c::r,[],h=>h
 | c::r,v::vs,h=>⟨qMt n c v h.1,qR2 n r vs h.2⟩
theorem qMu (n:Nat):∀ (es:List (List PV)),(wE n es).length=es.length
 | []=>rfl
 | c::r=>by simp [wE,qMu n r]
theorem zJ4 {H:Hp} (n:Nat):∀ (es:List (List PV)) (vs:List Value),RepE H es vs→RepE H (wE n es) vs
 | [],vs,_=>by simp [wE,RepE]
 | e::r,vs,h=>⟨qR2 n e vs h.1,by rw [zJ3];exact zJ4 n r _ h.2⟩
theorem zBc (n:Nat) {es:List (List PV)} (h:es=[]):wE n es=[]:=by subst h;rfl
theorem zFp (x:V):VLe x (wV x):=by
 cases x<;>try exact⟨fun _ _ h=>h,fun _ h=>h⟩
 rename_i p
 exact⟨fun E v h=>qMt 4 p v h,fun n h=>by simp [wV,V.names] at h⟩
theorem zKv (op:Op) (r:RB):VLe r.x (zA6 op r).x∧(zA6 op r).wr=r.wr∧(zA6 op r).new=r.new:=by
 unfold zA6
 split
 ·split
  ·refine⟨⟨fun E v h => ?_,fun n h=>by simp [V.names] at h⟩,rfl,rfl⟩
   rename_i es _
   simp only [RepV,RepP] at h ⊢
   obtain⟨a,cap,e1,e2,e3,e4⟩:=h
   refine⟨a,cap,by rw [qMu];exact e1,by rw [qMu];exact e2,by rw [qMu];exact e3,?_⟩
   rcases e4 with e4|⟨b,off,e5,e6⟩
   ·exact .inl (zBc 3 e4)
   ·exact .inr ⟨b,off,e5,zJ4 3 _ _ e6⟩
  ·exact⟨⟨fun _ _ h=>h,fun _ h=>h⟩,rfl,rfl⟩
 ·exact⟨⟨fun _ _ h=>h,fun _ h=>h⟩,rfl,rfl⟩
theorem zJ5:∀ (l:List V),(wA l).length=l.length
 | []=>rfl
 | x::r=>by simp [wA,zJ5 r]
theorem zQf (x:V):(wV x).names=x.names:=by cases x<;>rfl
theorem qMv:∀ (l:List V),qQj (wA l)=qQj l
 | []=>rfl
 | x::r=>by simp only [wA,qQj,qMv r,zQf]
theorem zJ6 {E:Env} : ∀ (l:List V) (vs:List Value),RepVL E l vs→RepVL E (wA l) vs
 | [],_,h=>by simp [wA,RepVL]
 | x::r,[],h=>h
 | x::r,v::vs,h=>⟨(zFp x).1 E v h.1,zJ6 r vs h.2⟩
theorem AC.wA {P:Program} {gl:Nat→Option (List PV)} {f:Nat} {args:List V} {objs objs':List (Nat × Ob)} {out:Out} (h:AC P gl f (wA args) objs out objs'):AC P gl f args objs out objs' :=
 h.le (zJ5 args).symm (by simp only [qXi,qMv]) (fun E vs hR=>zJ6 args vs hR)
section
variable {ev:qVq} {P:Program}
def qKf (ev:qVq) (P:Program) (call:qKe):Prop:=∀ (f:Nat) (args:List V) (s:IS) (tp:Di) (k:Res→List Nat→Di→Prop),call f args s tp k→∃ r ks tp',(∃ ro o1,Called P ev.gl s f args r ks ro o1)∧k r ks tp'
theorem qZn:∀ l:List (Nat × Ob),qJ9 l=qQa l
 | []=>rfl
 | (n,o)::r=>by simp only [qJ9,qZn r];rfl
theorem qMw {α:Type} : ∀ a b:List α,apL a b=a++b
 | [],b=>rfl
 | x::r,b=>by simp only [apL,qMw r b];rfl
theorem qXm:∀ {l:List Nat},qRz l=true→l.Nodup
 | [],_=>List.nodup_nil
 | n::r,h=>by
  unfold qRz at h
  cases e:qC6 r n with
  | true=>rw [e] at h;cases h
  | false =>
   rw [e] at h
   refine List.nodup_cons.2 ⟨fun hm => ?_,qXm h⟩
   rw [(qZw _ _).2 hm] at e
   cases e
theorem qR3 {m:List Nat} : ∀ {l:List Nat},zY5 m l=true→∀ n∈l,n ∉ m
 | [],_,n,hn=>by cases hn
 | k::r,h,n,hn=>by
  unfold zY5 at h
  cases e:qC6 m k with
  | true=>rw [e] at h;cases h
  | false =>
   rw [e] at h
   rcases List.mem_cons.1 hn with rfl|hn
   ·intro hm;rw [(qZw _ _).2 hm] at e;cases e
   ·exact qR3 h n hn
theorem qLm {s:Tr Ob} : ∀ {l:List Nat} {k:List (Nat × Ob)→Prop},zA8 s l k→∃ m,qQa m=l∧(∀ p∈m,s.get p.1=some p.2)∧k m
 | [],k,h=>⟨[],rfl,by simp,h⟩
 | n::r,k,h=>by
  unfold zA8 at h
  split at h
  ·rename_i o ho
   obtain⟨m,h1,h2,h3⟩:=qLm h
   refine⟨(n,o)::m,by rw [← h1];rfl,fun p hp => ?_,h3⟩
   rcases List.mem_cons.1 hp with rfl|hp
   ·exact ho
   ·exact h2 p hp
  ·exact h.elim
theorem qEa:∀ {l:List (Nat × Ob)} {n:Nat} {o:Ob},(qQa l).Nodup→(n,o)∈l→qQc l n=some o
 | (k,q)::r,n,o,hd,hm=>by
  have hd:(k::qQa r).Nodup:=hd
  obtain⟨h1,h2⟩:=List.nodup_cons.1 hd
  unfold qQc
  rcases List.mem_cons.1 hm with e|hm
  ·cases e;simp
  ·have:k≠n:=fun e=>h1 (by rw [e];exact keysO_mem.2 ⟨o,hm⟩)
   rw [if_neg this]
   exact qEa h2 hm
theorem qHn {m:Nat} : ∀ {l:List Nat},qCo m l=true→∀ n∈l,n<m
 | [],_,n,h=>by cases h
 | k::r,h,n,hn=>by
  unfold qCo at h
  cases e:Nat.blt k m with
  | false=>rw [e] at h;cases h
  | true =>
   rw [e] at h
   rcases List.mem_cons.1 hn with rfl|hn
   ·exact qVj e
   ·exact qHn h n hn
theorem zQg {call:qKe} (hc:qKf ev P call) {f:Nat} {args:List V} {s:IS} {dst:Option Nat} {tp:Di} {k:Res→List Nat→Di→Prop} (h:zKp ev P call f args s dst tp k):∃ r ks tp',(∃ ro o1,Called P ev.gl s f args r ks ro o1)∧k r ks tp':=by
 unfold zKp at h
 cases ht:qOn (zFl dst) tp with
 | none =>
  rw [ht] at h
  obtain⟨r,ks,_,h1,h2⟩:=hc _ _ _ _ _ h
  exact⟨r,ks,tp,h1,h2⟩
 | some p =>
  obtain⟨e,tp'⟩:=p
  rw [ht] at h
  cases e with
  | r x=>exact⟨⟨.pv x,[],[],s.nx⟩,[],tp',⟨[],[],⟨h.1.wA,by simp [qQa],by simp,by simp [qQa],by simp [qQa],⟨fun _=>none,by simp⟩,by simp [qQa],by simp [qQa],Nat.le_refl _,by simp⟩⟩,h.2⟩
  | d n o' x =>
   obtain⟨hn,h⟩:=qK4 h
   cases ho:s.ob.get n with
   | none=>rw [ho] at h;exact h.elim
   | some o =>
    rw [ho] at h
    refine⟨⟨x,[(n,o')],[],s.nx⟩,[n],tp',⟨[],[(n,o)],⟨h.1.wA,by simp [qQa],by simp [ho],by simp [qQa],by simp [qQa],⟨fun _=>some o',by simp⟩,?_,by simp [qQa],Nat.le_refl _,by simp [qQa]⟩⟩,h.2⟩
    intro m hm
    have hm:m=n:=by simpa [qQa] using hm
    subst hm
    exact⟨qVj hn,by rw [ho];rfl,by simp [qQa]⟩
  | c r ks=>exact⟨r,ks,tp',h.1,h.2⟩
  | o ro ch x =>
   obtain⟨hb,h⟩:=qK4 h
   have hb1:qRz (qJ9 ch)=true∧zY5 (qJ9 ch) ro=true∧qCo s.nx (qJ9 ch)=true:=by
    revert hb
    cases qRz (qJ9 ch)<;>cases zY5 (qJ9 ch) ro<;>cases qCo s.nx (qJ9 ch)<;>simp
   obtain⟨l,h1,h2,h⟩:=qLm h
   obtain⟨l1,h3,h4,h⟩:=qLm h
   rw [qMw,qMw,qMw] at h
   have hk:qQa l1=qQa ch:=by rw [h3,qZn]
   have hd:=qR3 hb1.2.1
   refine⟨⟨x,ch,[],s.nx⟩,ro++qJ9 ch,tp',⟨l,l1,⟨by simpa using h.1.wA,fun n hn => ?_,fun p hp => ?_,fun n hn => ?_,fun n hn=>by rw [← hk];exact hn,⟨qQc ch,fun n o hn => ?_⟩,fun n hn => ?_,by simp [qQa],Nat.le_refl _,fun n hn => ?_⟩⟩,h.2⟩
   ·rw [h1] at hn
    have h5:=hd n hn
    rw [qZn] at h5
    exact⟨by rw [hk];exact h5,by simpa using h5⟩
   ·rcases List.mem_append.1 hp with hp|hp
    ·exact h2 p hp
    ·exact h4 p hp
   ·rw [h1,h3] at hn;exact hn
   ·simp only [List.append_nil] at hn
    have h5:=qXm hb1.1
    rw [qZn] at h5
    exact qEa h5 hn
   ·have hn':n∈qQa ch:=hn
    refine⟨qHn hb1.2.2 n (by rw [qZn];exact hn'),?_,by rw [hk];exact hn'⟩
    rw [← hk] at hn'
    obtain⟨o,ho⟩:=keysO_mem.1 hn'
    rw [h4 _ ho]
    rfl
   ·rw [qQ3,List.mem_append,h1,h3]
    exact List.mem_append.1 hn
  | n tp1 =>
   obtain⟨r,ks,_,h1,h2⟩:=hc _ _ _ _ _ h
   exact⟨r,ks,tp',h1,h2⟩
  | i e=>exact h.elim
  | ok=>exact h.elim
  | z n=>exact h.elim
  | y n=>exact h.elim
  | v p=>exact h.elim
  | s=>exact h.elim
  | fb n b=>exact h.elim
  | b v=>exact h.elim
  | l k e s=>exact h.elim
  | f n ps=>exact h.elim
  | w r=>exact h.elim
open Classical in
noncomputable def zEa (f:Nat) (args:List V) (s:IS) (r:Res) (ks:List Nat):Call:=fun f' args' s'=>if f'=f∧args'=args∧s'=s then some (r,ks) else none
theorem qR4 (f:Nat) (args:List V) (s:IS) (r:Res) (ks:List Nat):zEa f args s r ks f args s=some (r,ks):=by simp [zEa]
theorem zKw {f:Nat} {args:List V} {s:IS} {r:Res} {ks:List Nat} (h:∃ ro o1,Called P ev.gl s f args r ks ro o1):qHk ev P (zEa f args s r ks):=by
 intro f' args' s' r' ks' e
 unfold zEa at e
 split at e
 ·rename_i hh
  obtain⟨rfl,rfl,rfl⟩:=hh
  cases e
  exact h
 ·cases e
theorem zBd:qHk ev P (fun _ _ _=>none):=fun _ _ _ _ _ e=>by cases e
structure DoFact (ev:qVq) (P:Program) (bs:Nat) (o:Oper) (s s1:IS) (tc:Tc):Prop where
 inv:∀ sub,Inv bs sub s→Inv bs sub s1
 ok:∀ X:qZ9,X.P=P→X.T=ev.T→X.gl=ev.gl→∀ σ,Rel s σ→∃ e,OpW X o σ e∧Rel s1 (σ.eff o.dst e)∧qU7 e tc
theorem DoFact.of {call:Call} (hg:qHk ev P call) {bs:Nat} {o:Oper} {s s1:IS} {tc:Tc} (h:doI ev call bs o s=some (s1,tc)):DoFact ev P bs o s s1 tc :=
 ⟨fun sub hI=>zKl hg h hI,fun X hP hT hgl σ hR=>zA5 hg h hP hT hgl hR⟩
theorem zQh {bs:Nat} {s:IS} {d:Option Nat} {r q:RB} (h:q.wr=r.wr) (h':q.new=r.new):s.app bs d q=⟨qIi s.sl d q.x,(s.app bs d r).ob,(s.app bs d r).nx,(s.app bs d r).dt⟩:=by
 unfold IS.app
 rw [h,h']
 split
 ·rfl
 ·cases r.new<;>rfl
theorem qR5 {bs:Nat} {s:IS} {d:Option Nat} {r:RB} : (s.app bs d r).sl=qIi s.sl d r.x:=by
 unfold IS.app
 split
 ·rfl
 ·cases r.new<;>rfl
theorem DoFact.weak {bs:Nat} {o:Oper} {s:IS} {r q:RB} {tc:Tc} (h:DoFact ev P bs o s (s.app bs o.dst r) tc) (hx:VLe r.x q.x) (hw:q.wr=r.wr) (hn:q.new=r.new):DoFact ev P bs o s (s.app bs o.dst q) tc:=by
 rw [zQh hw hn]
 refine⟨fun sub hI=>(h.inv sub hI).slot _,fun X hP hT hgl σ hR => ?_⟩
 obtain⟨⟨x,wr,nw,rd⟩,h1,h2,h3⟩:=h.ok X hP hT hgl σ hR
 cases hd:o.dst with
 | none =>
  refine⟨⟨x,wr,nw,rd⟩,h1,?_,h3⟩
  have:=h2
  rw [hd] at this
  refine⟨fun t => ?_,this.ob,this.us⟩
  have:=this.sl t
  rw [qR5] at this
  exact this
 | some d =>
  have hxd:x=r.x∨r.x = .undef∨True:=by simp
  have hsl:=h2.sl d
  rw [hd,qR5] at hsl
  have hxe:x=r.x:=by
   simp only [St.eff,qKw,qIi,Tr.get_put,if_true] at hsl
   exact hsl
  subst hxe
  refine⟨⟨q.x,wr,nw,rd⟩,.weak _ h1 hx,?_,h3⟩
  rw [hd] at h2
  refine⟨fun t => ?_,h2.ob,h2.us⟩
  have:=h2.sl t
  rw [qR5] at this
  simp only [St.eff,qKw,qIi,Tr.get_put,Option.some.injEq] at this ⊢
  by_cases e:d=t
  ·subst e;simp
  ·rw [if_neg e] at this ⊢
   rw [if_neg (fun h=>e h.symm)] at this ⊢
   exact this
theorem zJ7 {call:qKe} (hc:qKf ev P call) {bs:Nat} {o:Oper} {s:IS} {tp:Di} {k:IS→Tc→Di→Prop} (h:doT ev P call bs o s tp k):∃ s1 tc tp',DoFact ev P bs o s s1 tc∧k s1 tc tp':=by
 unfold doT at h
 split at h
 ·rename_i f args hf
  obtain⟨r,ks,tp',hC,hk⟩:=zQg hc h
  refine⟨_,_,tp',DoFact.of (zKw (f:=f) (args:=args) (s:=s) (r:=r) (ks:=ks) hC) ?_,hk⟩
  unfold doI
  rw [hf]
  simp only [qR4,Go.Lg.callR]
 ·rename_i hf
  obtain⟨r,tp',hr,hk⟩:=zQe h
  obtain⟨h1,h2,h3⟩:=zKv o.op r
  refine⟨_,_,tp',DoFact.weak (r:=r) ?_ h1 h2 h3,hk⟩
  rcases hr with hr|⟨hn,hw,note,hG⟩
  ·refine DoFact.of zBd (s1:=s.app bs o.dst r) ?_
   unfold doI
   rw [hf]
   simp only [hr]
   rfl
  ·exact⟨fun sub hI=>qRu hI hn hw _,fun X hP hT hgl σ hR=>zJz hG (fun _=>hw) hT hgl hR⟩
structure qR6 (ev:qVq) (P:Program) (nt bs:Nat) (all:List Oper) (o:Oper) (s s1:IS) (tc:Tc):Prop where
 inv:∀ sub,Inv bs sub s→Inv bs sub s1
 ok:∀ X:qZ9,X.P=P→X.T=ev.T→X.gl=ev.gl→X.nt=nt→∀ σ,Rel s σ→∃ e,Txt X all o σ e∧Rel s1 (σ.eff o.dst e)∧qU7 e tc
theorem qMx {nt:Nat} {o:Oper} (h:zFe nt o.dst=true) {X:qZ9} (hnt:X.nt=nt):zWw X o.dst:=by
 unfold zFe at h
 unfold zWw
 split at h
 ·rename_i d e;rw [e];simp only [hnt];exact qVj h
 ·rename_i e;rw [e];trivial
theorem zBe {call:qKe} (hc:qKf ev P call) {nt bs:Nat} {all:List Oper} {o:Oper} {s:IS} {tp:Di} {k:IS→Tc→Di→Prop} (h:opT ev P call nt bs all o s tp k):∃ s1 tc tp',qR6 ev P nt bs all o s s1 tc∧k s1 tc tp':=by
 unfold opT at h
 obtain⟨hd,h⟩:=qK4 h
 have hskip:qU7 qAv ⟨[],[]⟩:=⟨by simp [qAv,Eff.wn],by simp [qAv]⟩
 split at h
 ·rename_i hg
  obtain⟨s1,tc,tp',h1,h2⟩:=zJ7 hc h
  refine⟨s1,tc,tp',⟨h1.inv,fun X hP hT hgl hnt σ hR => ?_⟩,h2⟩
  obtain⟨e,h3,h4,h5⟩:=h1.ok X hP hT hgl σ hR
  exact⟨e,⟨qMx hd hnt,.inl ⟨hg,h3⟩⟩,h4,h5⟩
 ·rename_i j want hg
  split at h
  ·rename_i b hb
   have key:(b=want→doT ev P call bs o s tp k)→(b≠want→k ⟨qIi s.sl o.dst qOj,s.ob,s.nx,s.dt⟩ ⟨[],[]⟩ tp)→∃ s1 tc tp',qR6 ev P nt bs all o s s1 tc∧k s1 tc tp':=by
    intro h1 h2
    by_cases e:b=want
    ·obtain⟨s1,tc,tp',h4,h5⟩:=zJ7 hc (h1 e)
     refine⟨s1,tc,tp',⟨h4.inv,fun X hP hT hgl hnt σ hR => ?_⟩,h5⟩
     obtain⟨q,h6,h7,h8⟩:=h4.ok X hP hT hgl σ hR
     exact⟨q,⟨qMx hd hnt,.inr (.inl ⟨j,want,b,hg,by rw [← qRv hR];exact hb,.inl ⟨e,h6⟩⟩)⟩,h7,h8⟩
    ·exact⟨_,_,tp,⟨fun sub hI=>hI.slot _,fun X hP hT hgl hnt σ hR=>⟨qAv,⟨qMx hd hnt,.inr (.inl ⟨j,want,b,hg,by rw [← qRv hR];exact hb,.inr ⟨e,rfl⟩⟩)⟩,qMr hR _,hskip⟩⟩,h2 e⟩
   split at h
   ·split at h
    ·exact key (fun _=>h) (fun e=>absurd rfl e)
    ·exact key (nofun) (fun _=>h)
   ·split at h
    ·exact key (fun _=>h) (fun e=>absurd rfl e)
    ·exact key (nofun) (fun _=>h)
  ·rename_i hb
   exact⟨_,_,tp,⟨fun sub hI=>hI.slot _,fun X hP hT hgl hnt σ hR=>⟨qAv,⟨qMx hd hnt,.inr (.inr ⟨j,want,hg,by rw [← qRv hR];exact hb,rfl⟩)⟩,qMr hR _,hskip⟩⟩,h⟩
  ·exact h.elim
inductive OpsR (ev:qVq) (P:Program) (nt bs:Nat) (all:List Oper):List Oper→IS→List Tc→IS→List Tc→Prop
 | nil (s:IS) (tr:List Tc):OpsR ev P nt bs all [] s tr s tr
 | cons {o:Oper} {l:List Oper} {s s1 s2:IS} {tc:Tc} {tr tr2:List Tc} (h:qR6 ev P nt bs all o s s1 tc) (h':OpsR ev P nt bs all l s1 (tc::tr) s2 tr2):OpsR ev P nt bs all (o::l) s tr s2 tr2
theorem qR7 {call:qKe} (hc:qKf ev P call) {nt bs:Nat} {all:List Oper} : ∀ (l:List Oper) {s:IS} {tr:List Tc} {tp:Di} {k:IS→List Tc→Di→Prop},zFm ev P call nt bs all l s tr tp k→∃ s1 tr1 tp',OpsR ev P nt bs all l s tr s1 tr1∧k s1 tr1 tp'
 | [],s,tr,tp,k,h=>⟨s,tr,tp,.nil s tr,h⟩
 | o::l,s,tr,tp,k,h=>by
  obtain⟨s1,tc,tp',h1,h3⟩:=zBe hc h
  obtain⟨s2,tr2,tp2,h4,h5⟩:=qR7 hc l h3
  exact⟨s2,tr2,tp2,.cons h1 h4,h5⟩
theorem OpsR.inv {nt bs:Nat} {all l:List Oper} {s s1:IS} {tr tr1:List Tc} (h:OpsR ev P nt bs all l s tr s1 tr1) {sub:Tr Ob} (hI:Inv bs sub s):Inv bs sub s1:=by
 induction h with
 | nil=>exact hI
 | cons h _ ih=>exact ih (h.inv sub hI)
theorem OpsR.ok {nt bs:Nat} {all:List Oper} {X:qZ9} (hP:X.P=P) (hXT:X.T=ev.T) (hgl:X.gl=ev.gl) (hnt:X.nt=nt) {l:List Oper} {s s1:IS} {tr tr1:List Tc} (h:OpsR ev P nt bs all l s tr s1 tr1):∀ {σ:St},Rel s σ →
  ∃ es tcs,es.length=l.length∧qZm X all l es σ∧Rel s1 (qQw (fun _=>true) 0 (qX3 l es) σ)∧tr1=tcs.reverse++tr∧TcsOK es tcs:=by
 induction h with
 | nil s tr=>intro σ hR;exact⟨[],[],rfl,trivial,hR,rfl,rfl,by simp⟩
 | cons h1 _ ih =>
  intro σ hR
  obtain⟨e,h2,h3,h4⟩:=h1.ok X hP hXT hgl hnt σ hR
  obtain⟨es,tcs,h5,h6,h7,h8,h9⟩:=ih h3
  refine⟨e::es,_::tcs,by simp [h5],⟨h2,h6⟩,?_,by simp [h8],h9.cons h4⟩
  simp only [qX3,List.map_cons,List.zip_cons_cons,qQw,if_true]
  rw [qKz]
  exact h7
theorem AWP.postX {X:qZ9} {c:Code} {σ:St} {Q Q':AEx→St→Prop} (h:AWP X c σ Q) (hq:∀ ae σ',Q ae σ'→(∃ σ'',WkX X σ' σ''∧Q' ae σ'') ∧ ∀ p,ae ≠ .panic p):AWP X c σ Q':=by
 intro C E a w hC hG
 refine wp_mono (h C E a w hC hG) ?_
 rintro e a' w' ⟨E',σ',ae,hG',hr,hqq⟩
 obtain⟨⟨σ'',hw,hq'⟩,hp⟩:=hq ae σ' hqq
 obtain⟨E'',hG''⟩:=hw C E' a' w' hC hG'
 refine⟨E'',σ'',ae,hG'',?_,hq'⟩
 cases ae with
 | panic p=>exact absurd rfl (hp p)
 | _=>exact hr
theorem AWP.wkX {X:qZ9} {c:Code} {σ σ':St} {Q:AEx→St→Prop} (hw:WkX X σ σ') (h:AWP X c σ' Q):AWP X c σ Q:=by
 intro C E a w hC hG
 obtain⟨E',h'⟩:=hw C E a w hC hG
 exact h C E' a w hC h'
theorem zKx {call:qKe} (hc:qKf ev P call) {nt bs id:Nat} {ops:Array Oper} {d:Bool} {s:IS} {tp:Di} {k:IS→Di→Prop} (h:zFn ev P call nt bs ops.toList d s tp k):∃ s1 tp',Reach ev P nt bs (.region id ops d) s .normal s1∧k s1 tp':=by
 unfold zFn at h
 obtain⟨s1,tr,tp',h1,h2⟩:=qR7 hc _ h
 have hinv:∀ sub,Inv bs sub s→Inv bs sub s1:=fun sub hI=>h1.inv (zQa (qRp ops.toList) hI)
 cases d with
 | false =>
  refine⟨s1,tp',⟨hinv,fun X hX σ hR => ?_⟩,h2⟩
  obtain⟨σ0,hw,hR0⟩:=qRw (bs:=bs) (qRp ops.toList) hR
  obtain⟨es,tcs,h3,h4,h5,h6,h7⟩:=h1.ok hX.P hX.T hX.gl hX.nt hR0
  exact AWP.wk hw (AWP.seqR h4 ⟨rfl,h5⟩)
 | true =>
  obtain⟨hs,h2⟩:=qK4 h2
  have hq:(qOk tr=true∨qU5 ops.toList tr.reverse=true)∧k s1 tp':=by
   split at h2
   ·rename_i e;exact⟨.inl e,h2⟩
   ·obtain⟨h3,h4⟩:=qK4 h2;exact⟨.inr h3,h4⟩
  refine⟨s1,tp',⟨hinv,fun X hX σ hR => ?_⟩,hq.2⟩
  obtain⟨σ0,hw,hR0⟩:=qRw (bs:=bs) (qRp ops.toList) hR
  obtain⟨es,tcs,h3,h4,h5,h6,h7⟩:=h1.ok hX.P hX.T hX.gl hX.nt hR0
  have htr:tr=tcs.reverse:=by simpa using h6
  refine AWP.wk hw (AWP.anyR h3 h4 (qU9 hs ?_ h3 h7) ⟨rfl,h5⟩)
  rcases hq.1 with e|e
  ·exact .inl (by rw [← htr];exact e)
  ·exact .inr (by rw [htr,List.reverse_reverse] at e;exact e)
end
theorem AWP.condT {X:qZ9} {c:Operand} {x y:Code} {σ:St} {Q:AEx→St→Prop} {b:Bool} (hv:σ.val X.gl c = .pv (.bool b)) (hx:b=true→AWP X x σ Q) (hy:b=false→AWP X y σ Q):AWP X (.cond c x y) σ Q:=by
 intro C E a w hC hG
 have h:=qQg hG hC.glob c
 rw [hv] at h
 exact wp_cond_split (qZv h) (fun hb=>hx hb C E a w hC hG) (fun hb=>hy hb C E a w hC hG)
theorem AWP.scopeT {X:qZ9} {c:Code} {σ:St} {Q:AEx→St→Prop} (h:AWP X c σ Q):AWP X (.scope c) σ Q:=by
 intro C E a w hC hG
 refine wp_scope_straight (wp_mono (h C E a w hC hG) ?_)
 rintro e a' w' ⟨E',σ',ae,hG',hr,hq⟩
 have hp:qN9 C Q e a' w':=⟨E',σ',ae,hG',hr,hq⟩
 cases ae with
 | normal=>cases hr;exact hp
 | exit i=>cases hr;exact hp
 | ret=>cases hr;exact hp
 | panic p=>obtain⟨v,rfl,hv⟩:=hr;exact hp
theorem qZb {c d:Bool} (h:(bif c then d else false)=true):c=true∧d=true:=by
 cases c with
 | true=>exact⟨rfl,h⟩
 | false=>cases h
theorem qBd {m:Nat} : ∀ {l:List Nat},qCo m l=true→∀ n∈l,n<m
 | [],_,_,h=>by cases h
 | k::r,h,n,hn=>by
  unfold qCo at h
  obtain⟨h1,h2⟩:=qZb h
  rcases List.mem_cons.1 hn with rfl|hn
  ·exact qVj h1
  ·exact qBd h2 n hn
theorem qCp:∀ {l m:List Nat},zKm l m=true→∀ n∈l,n∈m
 | [],_,_,_,h=>by cases h
 | k::r,m,h,n,hn=>by
  unfold zKm at h
  obtain⟨h1,h2⟩:=qZb h
  rcases List.mem_cons.1 hn with rfl|hn
  ·exact (qZw _ _).1 h1
  ·exact qCp h2 n hn
theorem zJ8 {m:Nat} {s:Tr V} : ∀ {l:List Nat},slB m s l=true→∀ t∈l,∀ v,s.get t=some v→∀ n∈v.names,n<m
 | [],_,_,h=>by cases h
 | k::r,h,t,ht=>by
  unfold slB at h
  obtain⟨h1,h2⟩:=qZb h
  rcases List.mem_cons.1 ht with rfl|ht
  ·intro v hv
   rw [hv] at h1
   exact qBd h1
  ·exact zJ8 h2 t ht
theorem qLn {m:Nat} {s:Tr Ob} : ∀ {l:List Nat},zD8 m s l=true→∀ t∈l,t<m ∧ ∀ o,s.get t=some o→(∃ a b c es,o = .arr a b c es)∨(∃ c es,o = .smap c es) ∨ ∀ n∈o.names,n<m
 | [],_,_,h=>by cases h
 | k::r,h,t,ht=>by
  unfold zD8 at h
  obtain⟨h1,h2⟩:=qZb h
  obtain⟨h3,h4⟩:=qZb h2
  rcases List.mem_cons.1 ht with rfl|ht
  ·refine⟨qVj h1,?_⟩
   intro v hv
   rw [hv] at h3
   cases v<;>first|exact .inl ⟨_,_,_,_,rfl⟩|exact .inr (.inl ⟨_,_,rfl⟩)|exact .inr (.inr (qBd h3))
  ·exact qLn h4 t ht
structure KN (s:Tr Ob) (l:List Nat):Prop where
 a:∀ t∈l,∀ a b c es,s.get t=some (.arr a b c es)→qQm es=[]
 m:∀ t∈l,∀ c es,s.get t=some (.smap c es)→qZg es=[]
theorem qVr {s:Tr Ob} {R:Prop} : ∀ {l:List Nat},qOo s l R→R∧KN s l
 | [],h=>⟨h,⟨(fun t ht=>by cases ht),(fun t ht=>by cases ht)⟩⟩
 | k::r,h=>by
  unfold qOo at h
  split at h
  ·rename_i es ho
   obtain⟨h1,h2⟩:=qVr h.2
   refine⟨h1,⟨fun t ht a b c es' he => ?_,fun t ht c es' he => ?_⟩⟩
   ·rcases List.mem_cons.1 ht with rfl|ht
    ·rw [ho] at he;cases he;exact h.1
    ·exact h2.a t ht a b c es' he
   ·rcases List.mem_cons.1 ht with rfl|ht
    ·rw [ho] at he;cases he
    ·exact h2.m t ht c es' he
  ·rename_i es ho
   obtain⟨h1,h2⟩:=qVr h.2
   refine⟨h1,⟨fun t ht a b c es' he => ?_,fun t ht c es' he => ?_⟩⟩
   ·rcases List.mem_cons.1 ht with rfl|ht
    ·rw [ho] at he;cases he
    ·exact h2.a t ht a b c es' he
   ·rcases List.mem_cons.1 ht with rfl|ht
    ·rw [ho] at he;cases he;exact h.1
    ·exact h2.m t ht c es' he
  ·rename_i hno hnm
   obtain⟨h1,h2⟩:=qVr h
   refine⟨h1,⟨fun t ht a b c es' he => ?_,fun t ht c es' he => ?_⟩⟩
   ·rcases List.mem_cons.1 ht with rfl|ht
    ·exact absurd he (hno _ _ _ _)
    ·exact h2.a t ht a b c es' he
   ·rcases List.mem_cons.1 ht with rfl|ht
    ·exact absurd he (hnm _ _)
    ·exact h2.m t ht c es' he
theorem qR8 {on:List Nat} {s:Tr Ob} : ∀ {k:Nat},zD9 on s k=true→∀ n,n<k→n∈on∨s.get n=none
 | 0,_,_,h=>absurd h (Nat.not_lt_zero _)
 | k+1,h,n,hn=>by
  unfold zD9 at h
  obtain⟨h1,h2⟩:=qZb h
  by_cases e:n=k
  ·subst e
   cases e1:qC6 on n with
   | true=>exact .inl ((qZw _ _).1 e1)
   | false =>
    rw [e1] at h1
    refine .inr ?_
    cases e2:s.get n with
    | none=>rfl
    | some o=>rw [e2] at h1;cases h1
  ·exact qR8 h2 n (by omega)
theorem qCq {α:Type} (s:Tr α):∀ (l:List Nat) (t:Tr α) (n:Nat),(mkT s l t).get n=if n∈l then s.get n else t.get n
 | [],t,n=>by simp [mkT]
 | k::r,t,n=>by
  simp only [mkT,qCq s r,Tr.get_put]
  by_cases h:n∈r
  ·simp [h]
  ·by_cases e:n=k
   ·subst e;simp [h]
   ·simp [h,e]
def oV1:Option V→V
 | some v=>v
 | none => .undef
def zQi (s:Tr V):List Nat→List (Nat × V)
 | []=>[]
 | t::r=>(t,oV1 (s.get t))::zQi s r
def qR9 (s:Tr Ob):List Nat→List (Nat × Ob)
 | []=>[]
 | n::r=>match s.get n with
  | some o=>(n,o)::qR9 s r
  | none=>qR9 s r
theorem qMy (s:Tr V):∀ (l:List Nat) (t:Nat),qZy (zQi s l) t=if t∈l then oV1 (s.get t) else .undef
 | [],t=>by simp [zQi,qZy]
 | k::r,t=>by
  simp only [zQi,qZy,qMy s r]
  by_cases e:k=t
  ·subst e;simp
  ·have e':¬ t=k:=fun h=>e h.symm
   simp [e,e']
theorem qFo (s:Tr Ob):∀ (l:List Nat) (t:Nat),qQc (qR9 s l) t=if t∈l then s.get t else none
 | [],t=>by simp [qR9,qQc]
 | k::r,t=>by
  simp only [qR9]
  cases h:s.get k with
  | none =>
   simp only [qFo s r]
   by_cases e:t=k
   ·subst e;simp [h]
   ·simp [e]
  | some o =>
   simp only [qQc,qFo s r]
   by_cases e:k=t
   ·subst e;simp [h]
   ·have e':¬ t=k:=fun h=>e h.symm
    simp [e,e']
theorem qEb {s:Tr V} : ∀ {l:List Nat} {n:Nat},n∈qVo (zQi s l)→∃ t∈l,∃ v,s.get t=some v∧n∈v.names
 | [],n,h=>by cases h
 | k::r,n,h=>by
  simp only [zQi,qVo,List.mem_append] at h
  rcases h with h|h
  ·cases e:s.get k with
   | none=>rw [e] at h;simp [oV1,V.names] at h
   | some v=>rw [e] at h;exact⟨k,by simp,v,e,h⟩
  ·obtain⟨t,h1,h2⟩:=qEb h
   exact⟨t,by simp [h1],h2⟩
theorem qYu {s:Tr Ob} : ∀ {l:List Nat} {n:Nat},n∈qZz (qR9 s l)→∃ t∈l,∃ o,s.get t=some o∧(n=t∨n∈o.names)
 | [],n,h=>by cases h
 | k::r,n,h=>by
  simp only [qR9] at h
  split at h
  ·rename_i o e
   simp only [qZz,List.mem_cons,List.mem_append] at h
   rcases h with h|h
   ·exact⟨k,by simp,o,e,h⟩
   ·obtain⟨t,h1,h2⟩:=qYu h
    exact⟨t,by simp [h1],h2⟩
  ·obtain⟨t,h1,h2⟩:=qYu h
   exact⟨t,by simp [h1],h2⟩
structure KpOK (k:Kp) (bs:Nat) (s:IS):Prop where
 le:bs≤k.nx
 sl:∀ t∈k.sl,∀ v,s.sl.get t=some v→∀ n∈v.names,n<k.nx
 on:∀ t∈k.on,t<k.nx ∧ ∀ o,s.ob.get t=some o→∀ n∈o.names,n<k.nx
 old:∀ n,n<bs→n∈k.on∨s.ob.get n=none
 dt:∀ n∈s.dt,n∈k.dt
 db:∀ n∈k.dt,n<bs
theorem qXn {k:Kp} {bs:Nat} {s:IS} (h:zQb k bs s=true) (ha:KN s.ob k.on):KpOK k bs s:=by
 unfold zQb at h
 obtain⟨h1,h⟩:=qZb h
 obtain⟨h2,h⟩:=qZb h
 obtain⟨h3,h⟩:=qZb h
 obtain⟨h4,h⟩:=qZb h
 obtain⟨h5,h⟩:=qZb h
 refine⟨Nat.le_of_ble_eq_true h1,zJ8 h2,fun t ht=>⟨(qLn h3 t ht).1,fun o ho n hn => ?_⟩,qR8 h4,qCp h5,qBd h⟩
 rcases (qLn h3 t ht).2 o ho with ⟨a,b,c,es,rfl⟩|⟨c,es,rfl⟩|h6
 ·have:n∈qQm es:=hn
  rw [ha.a t ht a b c es ho] at this
  cases this
 ·have:n∈qZg es:=hn
  rw [ha.m t ht c es ho] at this
  cases this
 ·exact h6 n hn
theorem KpOK.inv {k:Kp} {bs:Nat} {s:IS} (h:KpOK k bs s) {sub:Tr Ob} (hI:Inv bs sub s):Inv bs sub (kpT k s):=by
 refine⟨h.le,fun n hn hd => ?_,fun n hn hs => ?_,hI.names,h.db⟩
 ·have:=hI.same n hn (fun hd'=>hd (h.dt n hd'))
  show (mkT s.ob k.on .nil).get n=_
  rw [qCq]
  rcases h.old n hn with h1|h1
  ·rw [if_pos h1];exact this
  ·by_cases h2:n∈k.on
   ·rw [if_pos h2];exact this
   ·rw [if_neg h2,← this,h1];rfl
 ·have hs:((mkT s.ob k.on .nil).get n).isSome=true:=hs
  rw [qCq] at hs
  split at hs
  ·exact hI.old n hn hs
  ·cases hs
theorem KpOK.wk {k:Kp} {bs:Nat} {s:IS} (h:KpOK k bs s) {ev:qVq} {P:Program} {nt:Nat} {X:qZ9} (hX:HX X ev P nt bs) {σ:St} (hR:Rel s σ):∃ τ,WkX X σ τ∧Rel (kpT k s) τ:=by
 refine⟨⟨zQi s.sl k.sl,qR9 s.ob k.on,List.range k.nx⟩,fun C E a w hC hG=>⟨E,Weak.ga (X:=X) (σ:=σ) ⟨?_,?_,?_⟩ hC hG⟩,⟨fun t => ?_,fun n => ?_,fun n hn => ?_⟩⟩
 ·have:∀ (l:List Nat),qB6 (zQi s.sl l) σ.slots:=by
   intro l
   induction l with
   | nil=>trivial
   | cons t r ih=>exact⟨by rw [hR.sl];cases s.sl.get t<;>rfl,ih⟩
  exact this k.sl
 ·refine qFj fun p hp => ?_
  have:∀ (l:List Nat),p∈qR9 s.ob l→s.ob.get p.1=some p.2:=by
   intro l
   induction l with
   | nil=>intro h;cases h
   | cons t r ih =>
    intro h
    simp only [qR9] at h
    split at h
    ·rename_i o e
     rcases List.mem_cons.1 h with rfl|h
     ·exact e
     ·exact ih h
    ·exact ih h
  rw [hR.ob]
  exact this _ hp
 ·refine qCl fun n hn => ?_
  rw [List.mem_append,List.mem_append] at hn
  refine List.mem_range.2 ?_
  rcases hn with (hn|hn)|hn
  ·obtain⟨t,h1,v,h2,h3⟩:=qEb hn
   exact h.sl t h1 v h2 n h3
  ·obtain⟨t,h1,o,h2,h3⟩:=qYu hn
   rcases h3 with rfl|h3
   ·exact (h.on n h1).1
   ·exact (h.on t h1).2 o h2 n h3
  ·have:=hX.given n hn
   have:=h.le
   omega
 ·show qZy (zQi s.sl k.sl) t=(match (mkT s.sl k.sl .nil).get t with|some v=>v|none => .undef)
  rw [qMy,qCq]
  by_cases h1:t∈k.sl
  ·rw [if_pos h1,if_pos h1];cases s.sl.get t<;>rfl
  ·rw [if_neg h1,if_neg h1];rfl
 ·show qQc (qR9 s.ob k.on) n=(mkT s.ob k.on .nil).get n
  rw [qFo,qCq]
  rfl
 ·exact List.mem_range.1 hn
section
variable {ev:qVq} {P:Program}
theorem AE.x_np (e:AE):∀ p,AE.x e ≠ .panic p:=by cases e<;>simp [AE.x]
theorem Reach.seq {nt bs:Nat} {a b:Code} {s s1 s2:IS} {e:AE} (h:Reach ev P nt bs a s .normal s1) (h':Reach ev P nt bs b s1 e s2):Reach ev P nt bs (.seq a b) s e s2:=by
 refine⟨fun sub hI=>h'.inv sub (h.inv sub hI),fun X hX σ hR=>AWP.seq (AWP.mono (h.awp X hX σ hR) ?_)⟩
 rintro ae σ' ⟨rfl,hR'⟩
 exact h'.awp X hX σ' hR'
theorem Reach.seq' {nt bs:Nat} {a b:Code} {s s1:IS} {e:AE} (he:e ≠ .normal) (h:Reach ev P nt bs a s e s1):Reach ev P nt bs (.seq a b) s e s1:=by
 refine⟨h.inv,fun X hX σ hR=>AWP.seq (AWP.mono (h.awp X hX σ hR) ?_)⟩
 rintro ae σ' ⟨rfl,hR'⟩
 cases e with
 | normal=>exact absurd rfl he
 | exit i=>exact⟨rfl,hR'⟩
 | ret=>exact⟨rfl,hR'⟩
theorem LoopIs.reach {nt bs:Nat} {b:Code} {s s':IS} {e:AE} (h:LoopIs ev P nt bs b s e s'):Reach ev P nt bs (.loop b) s e s':=by
 obtain⟨hi,m,h⟩:=h
 exact⟨hi,fun X hX σ hR=>zW1 m (h X hX σ hR)⟩
theorem LoopIs.round {nt bs:Nat} {b:Code} {s s1 s':IS} {e:AE} (h:Reach ev P nt bs b s .normal s1) (h':LoopIs ev P nt bs b s1 e s'):LoopIs ev P nt bs b s e s':=by
 obtain⟨hi,m,h'⟩:=h'
 refine⟨fun sub hI=>hi sub (h.inv sub hI),m+1,fun X hX σ hR=>qX4 (AWP.mono (h.awp X hX σ hR) ?_)⟩
 rintro ae σ' ⟨rfl,hR'⟩
 exact h' X hX σ' hR'
theorem LoopIs.last {nt bs:Nat} {b:Code} {s s':IS} {e:AE} (he:e ≠ .normal) (h:Reach ev P nt bs b s e s'):LoopIs ev P nt bs b s e s':=by
 refine⟨h.inv,1,fun X hX σ hR=>qX4 (AWP.mono (h.awp X hX σ hR) ?_)⟩
 rintro ae σ' ⟨rfl,hR'⟩
 cases e with
 | normal=>exact absurd rfl he
 | exit i=>exact⟨rfl,hR'⟩
 | ret=>exact⟨rfl,hR'⟩
theorem Reach.keep {nt bs:Nat} {c:Code} {s s':IS} {e:AE} {k:Kp} (hk:KpOK k bs s') (h:Reach ev P nt bs c s e s'):Reach ev P nt bs c s e (kpT k s'):=by
 refine⟨fun sub hI=>hk.inv (h.inv sub hI),fun X hX σ hR=>AWP.postX (h.awp X hX σ hR) ?_⟩
 rintro ae σ' ⟨rfl,hR'⟩
 obtain⟨τ,h1,h2⟩:=hk.wk hX hR'
 exact⟨⟨τ,h1,rfl,h2⟩,AE.x_np e⟩
theorem Reach.kept {nt bs:Nat} {c:Code} {s s':IS} {e:AE} {k:Kp} (hk:KpOK k bs s) (h:Reach ev P nt bs c (kpT k s) e s'):Reach ev P nt bs c s e s':=by
 refine⟨fun sub hI=>h.inv sub (hk.inv hI),fun X hX σ hR => ?_⟩
 obtain⟨τ,h1,h2⟩:=hk.wk hX hR
 exact AWP.wkX h1 (h.awp X hX τ h2)
theorem zKy {K:List PV→PV} {n:Nat} {ps:List PV} : ∀ {x:V},n ∉ x.names→qUb K n ps x=x:=by
 intro x h
 cases x<;>simp only [qUb]
 rename_i m off
 rw [if_neg]
 rintro rfl
 exact h (by simp [V.names])
theorem qSa {K:List PV→PV} {n:Nat} {ps:List PV} : ∀ {cs:List V},n ∉ qQj cs→qP3 K n ps cs=cs
 | [],_=>rfl
 | c::cs,h=>by
  simp only [qQj,List.mem_append,not_or] at h
  simp only [qP3]
  rw [zKy h.1,qSa h.2]
theorem zQj {K:List PV→PV} {n:Nat} {ps:List PV} {o:Ob} (h:n ∉ o.names):qE6 K n ps o=o:=by
 cases o with
 | box cs=>simp only [qE6];rw [qSa h]
 | _=>rfl
theorem zQk {bs:Nat} {sub:Tr Ob} {s:IS} (hI:Inv bs sub s) {n:Nat} (hn:¬ n<bs) (K:List PV→PV) (ps:List PV):Inv bs sub (zKn K n ps s):=by
 have hget:∀ m,((s.ob.put n none).map (qE6 K n ps)).get m=if m=n then none else (s.ob.get m).map (qE6 K n ps):=by
  intro m
  rw [Tr.get_map,Tr.get_put]
  split<;>rfl
 refine⟨hI.le,?_,?_,hI.names,hI.dts⟩
 ·intro m hm hd
  show ((s.ob.put n none).map (qE6 K n ps)).get m=_
  rw [hget m,if_neg (by omega),hI.same m hm hd]
  cases q:sub.get m with
  | none=>rfl
  | some o =>
   simp only [Option.map_some]
   rw [zQj]
   intro hk
   exact hn ((hI.names m o q).2 n hk)
 ·intro m hm hs
  have hs:(((s.ob.put n none).map (qE6 K n ps)).get m).isSome=true:=hs
  rw [hget m,if_neg (by omega)] at hs
  exact hI.old m hm (by simpa using hs)
theorem zKz {s:IS} {σ:St} (hR:Rel s σ) {n:Nat} {qs ps:List PV} {K:List PV→PV} (ho:s.ob.get n=some (.box (pvL qs))) (hc:qG4 K qs ps):∃ σ',Wk σ σ'∧Rel (zKn K n ps s) σ':=by
 have ho':qQc σ.objs n=some (.box (pvL qs)):=(hR.ob n).trans ho
 refine⟨σ.frb K n ps,fun C E a w hG=>hG.frb ho' hc,⟨?_,?_,hR.us⟩⟩
 ·intro t
  simp only [St.frb,zKn,qE7,hR.sl,Tr.get_map]
  cases s.sl.get t<;>rfl
 ·intro m
  simp only [St.frb,zKn,qKy,hR.ob,Tr.get_map,Tr.get_put]
  split<;>rfl
theorem qMz {b:Bool} : ∀ {qs ps:List PV},zQc b qs=some ps→flgs qs ps
 | [],_,h=>by cases h
 | [c],ps,h=>by
  cases c with
  | bool x=>cases x with
   | false =>
    have h:some [PV.flg b]=some ps:=h
    cases h
    exact⟨fun e=>(by cases e),trivial⟩
   | true=>cases h
  | _=>cases h
 | c::d::r,ps,h=>by
  have key:(∀ x,c ≠ .flg x)→(match zQc b (d::r) with|some l=>some (c::l)|none=>none)=some ps→flgs (c::d::r) ps:=by
   intro hc h
   split at h
   ·rename_i l hl
    cases h
    rw [flgs.eq_3 _ _ _ _ (fun c b _ e=>hc b e)]
    exact⟨⟨rfl,fun b e=>hc b e⟩,qMz hl⟩
   ·cases h
  cases c with
  | flg x=>cases h
  | _=>exact key (fun x e=>by cases e) h
theorem zQl (qs:List PV):qG4 PV.ptr qs (wl (PV.w 4) qs):=by
 intro H cur r
 have r:=qR2 4 qs cur r
 refine⟨cur.map sn,Msk.sn cur,fun _ _=>trivial,fun b H' hh e off => ?_⟩
 simp only [RepP]
 exact⟨b,off,rfl,by rw [e];exact RepL.drop off (RepL.mono hh (wl (PV.w 4) qs) _ _ List.prefix_rfl r.sn)⟩
theorem qHo {bs n:Nat} {b:Option Bool} {s s':IS} (h:fbI bs n b s=some s'):¬ n<bs ∧ ∃ K qs ps,s.ob.get n=some (.box (pvL qs))∧qG4 K qs ps∧s'=zKn K n ps s:=by
 unfold fbI at h
 cases e:Nat.blt n bs with
 | true=>rw [e] at h;cases h
 | false =>
  rw [e,cond_false] at h
  rw [qJ8] at e
  refine⟨of_decide_eq_false e,?_⟩
  split at h
  ·rename_i cs ho
   split at h
   ·rename_i qs hq
    rw [qP8] at hq
    have hcs:=qLh hq
    subst hcs
    split at h
    ·cases h;exact⟨_,qs,_,ho,zQl qs,rfl⟩
    ·split at h
     ·rename_i ps hp
      cases h
      exact⟨_,qs,ps,ho,qUu (qMz hp),rfl⟩
     ·cases h
   ·cases h
  ·cases h
theorem zK0 {bs n:Nat} {b:Option Bool} {s s':IS} {sub:Tr Ob} (h:fbI bs n b s=some s') (hI:Inv bs sub s):Inv bs sub s':=by
 obtain⟨hn,K,qs,ps,_,_,rfl⟩:=qHo h
 exact zQk hI hn K ps
theorem zBf {bs n:Nat} {b:Option Bool} {s s':IS} {σ:St} (h:fbI bs n b s=some s') (hR:Rel s σ):∃ σ',Wk σ σ'∧Rel s' σ':=by
 obtain⟨_,K,qs,ps,ho,hc,rfl⟩:=qHo h
 exact zKz hR ho hc
theorem qZa {call:qKe} (hc:qKf ev P call) {N nt bs:Nat} : ∀ (c:Code) (s:IS) (tp:Di) (k:KT),qLl ev P call N nt bs c s tp k→∃ e s' tp',Reach ev P nt bs c s e s'∧k e s' tp'
 | .skip,s,tp,k,h=>⟨.normal,s,tp,⟨fun _ h=>h,fun X hX σ hR C E a w hC hG=>wp_skip ⟨E,σ,.normal,hG,rfl,rfl,hR⟩⟩,h⟩
 | .seq a b,s,tp,k,h=>by
  obtain⟨e,s1,tp1,h1,h2⟩:=qZa hc a s tp _ h
  cases e with
  | normal =>
   obtain⟨e,s2,tp2,h3,h4⟩:=qZa hc b s1 tp1 _ h2
   exact⟨e,s2,tp2,h1.seq h3,h4⟩
  | exit i=>exact⟨_,s1,tp1,h1.seq' (by simp),h2⟩
  | ret=>exact⟨_,s1,tp1,h1.seq' (by simp),h2⟩
 | .cond c x y,s,tp,k,h=>by
  unfold qLl at h
  split at h
  ·rename_i b hb
   have hv:∀ X,HX X ev P nt bs→∀ σ,Rel s σ→σ.val X.gl c = .pv (.bool b):=fun X hX σ hR=>by rw [hR.val,hX.gl];exact hb
   split at h
   ·obtain⟨e,s1,tp1,h1,h2⟩:=qZa hc x s tp _ h
    exact⟨e,s1,tp1,⟨h1.inv,fun X hX σ hR=>AWP.condT (hv X hX σ hR) (fun _=>h1.awp X hX σ hR) (nofun)⟩,h2⟩
   ·obtain⟨e,s1,tp1,h1,h2⟩:=qZa hc y s tp _ h
    exact⟨e,s1,tp1,⟨h1.inv,fun X hX σ hR=>AWP.condT (hv X hX σ hR) (nofun) (fun _=>h1.awp X hX σ hR)⟩,h2⟩
  ·exact h.elim
 | .block id b,s,tp,k,h=>by
  obtain⟨e,s1,tp1,h1,h2⟩:=qZa hc b s tp _ h
  have key:∀ e',(∀ ae σ',qLk e s1 ae σ'→qAa id (qLk e' s1) ae σ')→Reach ev P nt bs (.block id b) s e' s1:=fun e' hq=>⟨h1.inv,fun X hX σ hR=>AWP.block (AWP.mono (h1.awp X hX σ hR) hq)⟩
  cases e with
  | normal=>exact⟨.normal,s1,tp1,key _ (by rintro ae σ' ⟨rfl,hR⟩;exact⟨rfl,hR⟩),h2⟩
  | ret=>exact⟨.ret,s1,tp1,key _ (by rintro ae σ' ⟨rfl,hR⟩;exact⟨rfl,hR⟩),h2⟩
  | exit i =>
   simp only [qHl] at h2
   split at h2
   ·rename_i e
    have e:=Nat.eq_of_beq_eq_true e
    refine⟨.normal,s1,tp1,key _ ?_,h2⟩
    rintro ae σ' ⟨rfl,hR⟩
    simp only [AE.x,qAa,if_pos e]
    exact⟨rfl,hR⟩
   ·rename_i e
    refine⟨.exit i,s1,tp1,key _ ?_,h2⟩
    rintro ae σ' ⟨rfl,hR⟩
    have hne:¬ i=id:=fun e'=>by rw [qLb e'] at e;cases e
    simp only [AE.x,qAa,if_neg hne]
    exact⟨rfl,hR⟩
 | .exit id,s,tp,k,h=>⟨.exit id,s,tp,⟨fun _ h=>h,fun X hX σ hR C E a w hC hG=>wp_exit ⟨E,σ,.exit id,hG,rfl,rfl,hR⟩⟩,h⟩
 | .ret,s,tp,k,h=>⟨.ret,s,tp,⟨fun _ h=>h,fun X hX σ hR C E a w hC hG=>wp_ret ⟨E,σ,.ret,hG,rfl,rfl,hR⟩⟩,h⟩
 | .region id ops d,s,tp,k,h=>by
  obtain⟨s1,tp',h1,h2⟩:=zKx (id:=id) hc h
  split at h2
  ·split at h2
   ·rename_i n ps tp2 _ _ ver sz ty es ho
    obtain⟨hn,rfl,h3⟩:=qK4 h2
    have hn:Nat.blt n bs=false:=by simpa using hn
    have hf:qU2 bs s1 n=⟨s1.sl.map (qB8 n ver ps),(s1.ob.put n none).map (qJo n ver ps),s1.nx,s1.dt⟩:=by
     unfold qU2
     rw [hn,ho]
     simp only [cond_false,qYn]
    refine⟨.normal,_,tp2,?_,h3⟩
    rw [← hf]
    refine⟨fun sub hI=>qFf (h1.inv sub hI) n,fun X hX σ hR=>AWP.postX (h1.awp X hX σ hR) ?_⟩
    rintro ae σ' ⟨rfl,hR'⟩
    obtain⟨τ,hw,hRt⟩:=qLi (bs:=bs) hR' n
    exact⟨⟨τ,fun C E a w _ hG=>hw C E a w hG,rfl,hRt⟩,AE.x_np .normal⟩
   ·exact h2.elim
  ·split at h2
   ·rename_i s2 hf
    refine⟨.normal,s2,_,⟨fun sub hI=>zK0 hf (h1.inv sub hI),fun X hX σ hR=>AWP.postX (h1.awp X hX σ hR) ?_⟩,h2⟩
    rintro ae σ' ⟨rfl,hR'⟩
    obtain⟨τ,hw,hRt⟩:=zBf hf hR'
    exact⟨⟨τ,fun C E a w _ hG=>hw C E a w hG,rfl,hRt⟩,AE.x_np .normal⟩
   ·exact h2.elim
  ·exact⟨.normal,s1,_,h1,h2⟩
  ·exact⟨.normal,s1,tp',h1,h2⟩
 | .loop b,s,tp,k,h=>by
  have hl:∀ m s tp,zKq (qLl ev P call N nt bs b) k m s tp→∃ e s' tp',LoopIs ev P nt bs b s e s'∧k e s' tp':=by
   intro m
   induction m with
   | zero=>intro s tp h;exact h.elim
   | succ m ih =>
    intro s tp h
    obtain⟨e,s1,tp1,h1,h2⟩:=qZa hc b s tp _ h
    cases e with
    | normal =>
     obtain⟨e,s2,tp2,h3,h4⟩:=ih s1 tp1 h2
     exact⟨e,s2,tp2,h3.round h1,h4⟩
    | exit i=>exact⟨_,s1,tp1,.last (by simp) h1,h2⟩
    | ret=>exact⟨_,s1,tp1,.last (by simp) h1,h2⟩
  unfold qLl at h
  split at h
  ·obtain⟨hk,h0⟩:=qK4 h
   obtain⟨⟨h1,h2⟩,ha⟩:=qVr h0
   exact⟨_,_,_,h1.reach.kept (qXn hk ha),h2⟩
  ·obtain⟨e,s',tp',h1,h2⟩:=hl N s tp h
   exact⟨e,s',tp',h1.reach,h2⟩
 | .scope b,s,tp,k,h=>by
  obtain⟨e,s1,tp1,h1,h2⟩:=qZa hc b s tp _ h
  exact⟨e,s1,tp1,⟨h1.inv,fun X hX σ hR=>AWP.scopeT (h1.awp X hX σ hR)⟩,h2⟩
 | .label l,s,tp,k,h=>⟨.normal,s,tp,⟨fun _ h=>h,fun X hX σ hR C E a w hC hG=>wp_label ⟨E,σ,.normal,hG,rfl,rfl,hR⟩⟩,h⟩
 | .rangeFunc _ _ _ _,_,_,_,h=>h.elim
 | .goto _,_,_,_,h=>h.elim
 | .refuse _,_,_,_,h=>h.elim
open Classical in
noncomputable def zY7 (nt bs:Nat) (c:Code) (s:IS) (e:AE) (s':IS):Run:=fun nt' bs' c' s1 k=>if nt'=nt∧bs'=bs∧c'=c∧s1=s then k e s' else none
theorem qCr {nt bs:Nat} {c:Code} {s s':IS} {e:AE} (h:Reach ev P nt bs c s e s'):Good ev P (zY7 nt bs c s e s'):=by
 refine⟨fun nt1 bs1 c1 s1 k r hr sub hI => ?_,fun nt1 bs1 c1 s1 k r hr X hP hXT hgl hnt hgv sub σ hR hI => ?_⟩
 ·unfold zY7 at hr
  split at hr
  ·rename_i hh
   obtain⟨rfl,rfl,rfl,rfl⟩:=hh
   exact⟨e,s',h.inv sub hI,hr⟩
  ·cases hr
 ·unfold zY7 at hr
  split at hr
  ·rename_i hh
   obtain⟨rfl,rfl,rfl,rfl⟩:=hh
   refine AWP.mono (h.awp X ⟨hP,hXT,hgl,hnt,hgv⟩ σ hR) ?_
   rintro ae σ' ⟨rfl,hR'⟩
   exact⟨e,s',rfl,hR',h.inv sub hI,hr⟩
  ·cases hr
theorem qK0 (he:zJy ev P) (N:Nat):∀ (n:Nat),qKf ev P (qHm ev P N n)
 | 0=>fun _ _ _ _ _ h=>h.elim
 | n+1=>fun f args s tp k h=>by
  unfold qHm at h
  split at h
  ·rename_i fn hf
   split at h
   ·rename_i c hb
    obtain⟨hl,h⟩:=qK4 h
    split at h
    ·rename_i sub ks hrc
     obtain⟨e,s',tp',h1,h2⟩:=qZa (qK0 he N n) _ _ _ _ h
     split at h2
     ·rename_i r hr
      refine⟨r,ks,tp',qBb (qCr h1) he hf hb (Nat.le_of_ble_eq_true hl) hrc ?_,h2⟩
      unfold qD8 zY7
      simp only [and_self,if_true]
      exact hr
     ·exact h2.elim
    ·exact h.elim
   ·exact h.elim
  ·exact h.elim
theorem LoopIs.of_round (he:zJy ev P) {n N nt bs:Nat} {b:Code} {s s':IS} {tp:Di} {ki ko:Kp} {e:AE} (h:zJ1 ev P n N nt bs b s tp ki ko e s'):LoopIs ev P nt bs b s e s':=by
 obtain⟨e1,s1,tp1,h1,h2⟩:=qZa (qK0 he N n) _ _ _ _ h
 cases e1 with
 | normal =>
  obtain⟨hk,h2⟩:=qK4 h2
  obtain⟨h2,ha⟩:=qVr h2
  exact .round (h1.keep (qXn hk ha)) h2
 | exit i =>
  obtain⟨rfl,h2⟩:=h2
  obtain⟨hk,h2⟩:=qK4 h2
  obtain⟨h2,ha⟩:=qVr h2
  exact h2 ▸ .last (by simp) (h1.keep (qXn hk ha))
 | ret =>
  obtain⟨rfl,h2⟩:=h2
  obtain⟨hk,h2⟩:=qK4 h2
  obtain⟨h2,ha⟩:=qVr h2
  exact h2 ▸ .last (by simp) (h1.keep (qXn hk ha))
theorem AC.wO {f:Nat} {args:List V} {p:PV} {objs objs':List (Nat × Ob)} (n:Nat) (h:AC P ev.gl f args objs (.ret (.pv p)) objs'):AC P ev.gl f args objs (.ret (.pv (p.w n))) objs':=h.leO fun H v=>qMt n p v
theorem qSb (he:zJy ev P) {N n f:Nat} {args:List PV} {tp:Di} {x:PV} (h:zFo ev P N n f args tp x):AC P ev.gl f (args.map .pv) [] (.ret (.pv x)) []:=by
 obtain⟨⟨y,ch,nw,nx⟩,ks,tp',⟨ro,o1,hC⟩,hr⟩:=qK0 he N n _ _ _ _ _ h
 unfold zId at hr
 split at hr
 ·rename_i e
  cases e
  subst hr
  have h1:ro=[]:=by
   cases ro with
   | nil=>rfl
   | cons p r=>have:=hC.subs p (by simp);cases this
  have h2:o1=[]:=by
   cases o1 with
   | nil=>rfl
   | cons p r=>have:=hC.subs p (by simp);cases this
  have:=hC.ac
  rw [h1,h2] at this
  exact AC.wO 4 this
 ·exact hr.elim
end
theorem getO_iff {l:List (Nat × Ob)} {n:Nat} : n∈qQa l↔(qQc l n).isSome=true:=by
 constructor
 ·intro h
  cases e:qQc l n with
  | some o=>rfl
  | none =>
   exfalso
   induction l with
   | nil=>cases h
   | cons p r ih =>
    obtain⟨k,q⟩:=p
    unfold qQc at e
    by_cases hk:k=n
    ·rw [if_pos hk] at e;cases e
    ·rw [if_neg hk] at e
     rcases List.mem_cons.1 h with h|h
     ·exact hk h.symm
     ·exact ih h e
 ·intro h
  obtain⟨o,ho⟩:=Option.isSome_iff_exists.1 h
  exact keysO_mem.2 ⟨o,qVk ho⟩
theorem AC.cong {P:Program} {gl:Nat→Option (List PV)} {f:Nat} {args:List V} {a b a' b':List (Nat × Ob)} {out:Out} (h:AC P gl f args a out a') (h1:∀ n,qQc a n=qQc b n) (h2:∀ n,qQc a' n=qQc b' n) (h3:∀ n,n∈qJ4 a→n∈qJ4 b):AC P gl f args b out b':=by
 have k1:∀ n,n∈qQa a↔n∈qQa b:=fun n=>by rw [getO_iff,getO_iff,h1]
 have k2:∀ n,n∈qQa a'↔n∈qQa b':=fun n=>by rw [getO_iff,getO_iff,h2]
 have kk:∀ n,(n∈qQa a∨n∈qQa a'∨n∈qXi args a)→(n∈qQa b∨n∈qQa b'∨n∈qXi args b):=by
  rintro n (h|h|h)
  ·exact .inl ((k1 n).1 h)
  ·exact .inr (.inl ((k2 n).1 h))
  ·refine .inr (.inr ?_)
   rw [qXi,List.mem_append] at h ⊢
   exact h.imp id (h3 n)
 refine⟨h.direct,fun n hn=>kk n (h.names n hn),fun m o hm n hn=>kk n (h.namesO m o (by rw [h2];exact hm) n hn),fun E w vs hB hl hR => ?_⟩
 have hB':zAv gl E w a:=⟨hB.heap,hB.glob,fun n o hn=>hB.obs n o (by rw [← h1];exact hn),fun n m o o' hn hm=>hB.apart n m o o' (by rw [← h1];exact hn) (by rw [← h1];exact hm)⟩
 refine (h.calls E w vs hB' hl hR).mono ?_
 rintro e w' ⟨E',hD,ho⟩
 refine⟨E',⟨hD.heap,fun n o hn=>hD.obs n o (by rw [h2];exact hn),fun n m o o' hn hm=>hD.apart n m o o' (by rw [h2];exact hn) (by rw [h2];exact hm),hD.hle,hD.size,hD.rest,fun b hb hne=>hD.same b hb (fun n o hn=>hne n o (by rw [← h1];exact hn)),fun n o b hn hb => ?_,fun n o hn=>hD.ext n o (by rw [h1];exact hn),fun n hn hn'=>hD.other n (by rw [h1];exact hn) (by rw [h2];exact hn')⟩,ho⟩
 rcases hD.own n o b (by rw [h2];exact hn) hb with h|⟨m,o',h,h'⟩
 ·exact .inl h
 ·exact .inr ⟨m,o',by rw [← h1];exact h,h'⟩
theorem qFp:∀ (l:List (Nat × Ob)) (t:Tr Ob),(qQa l).Nodup→∀ n,(obL l t).get n=match qQc l n with|some o=>some o|none=>t.get n
 | [],t,_,n=>rfl
 | (k,q)::r,t,hd,n=>by
  have hd:(k::qQa r).Nodup:=hd
  obtain⟨h1,h2⟩:=List.nodup_cons.1 hd
  simp only [obL]
  rw [qFp r _ h2,Tr.get_put]
  by_cases e:k=n
  ·subst e
   have:qQc r k=none:=by
    cases e:qQc r k with
    | none=>rfl
    | some o=>exact absurd (getO_iff.2 (by rw [e];rfl)) h1
   rw [this]
   simp [qQc]
  ·rw [if_neg (Ne.symm e)]
   simp only [qQc,if_neg e]
theorem qX9:∀ (ch:List (Nat × Ob)) (n:Nat) (o:Ob),zBa n o ch=match qQc ch n with|some o'=>o'|none=>o
 | [],n,o=>rfl
 | (m,q)::r,n,o=>by
  unfold zBa
  by_cases e:n=m
  ·subst e;rw [qLb rfl];simp [qQc]
  ·rw [zW4 e,cond_false,qX9 r n o]
   simp only [qQc,if_neg (Ne.symm e)]
theorem qFq (ch:List (Nat × Ob)):∀ (l:List (Nat × Ob)) (n:Nat),qQc (zY6 ch l) n=(qQc l n).map fun o=>zBa n o ch
 | [],n=>rfl
 | (k,q)::r,n=>by
  simp only [zY6,qQc]
  by_cases e:k=n
  ·subst e;simp
  ·rw [if_neg e,if_neg e,qFq ch r n]
theorem qYa (a b:List (Nat × Ob)) (n:Nat):qQc (a++b) n=match qQc a n with|some o=>some o|none=>qQc b n:=by
 induction a with
 | nil=>rfl
 | cons p r ih =>
  obtain⟨k,q⟩:=p
  simp only [List.cons_append,qQc]
  by_cases e:k=n
  ·simp [e]
  ·simp only [if_neg e,ih]
theorem zK1 {ev:qVq} {P:Program} (he:zJy ev P) {N n f m:Nat} {args:List V} {objs objs':List (Nat × Ob)} {tp:Di} {x:V} (h:zIf ev P N n f args objs m tp x objs'):AC P ev.gl f args objs (.ret x) objs':=by
 obtain⟨hd,h⟩:=qK4 h
 obtain⟨⟨y,ch,nw,nx⟩,ks,tp',⟨ro,o1,hC⟩,hr⟩:=qK0 he N n _ _ _ _ _ h
 have hd:=qXm hd
 rw [qZn] at hd
 unfold zIe at hr
 split at hr
 ·rename_i e
  cases e
  obtain⟨hb,hr⟩:=qK4 hr
  obtain⟨hk,hn⟩:=qZb hb
  have hk:=qCp hk
  rw [qZn] at hk
  have hn:=qXm hn
  rw [qZn] at hn
  cases hr
  have hs0:∀ k,(obL objs .nil).get k=qQc objs k:=fun k=>by
   rw [qFp objs _ hd]
   cases qQc objs k<;>rfl
  have hsub:∀ p∈ro++o1,qQc objs p.1=some p.2:=fun p hp=>by rw [← hs0];exact hC.subs p hp
  have hget:∀ k,qQc (ro++o1) k=qQc objs k:=by
   intro k
   cases e:qQc (ro++o1) k with
   | some o=>exact (hsub (k,o) (qVk e)).symm
   | none =>
    cases e2:qQc objs k with
    | none=>rfl
    | some o =>
     have h1:=hC.all k (hk k (getO_iff.2 (by rw [e2];rfl)))
     rw [getO_iff,e] at h1
     cases h1
  have key:AC P ev.gl f args objs (.ret y) (zY6 ch objs):=by
   refine AC.cong hC.ac hget (fun k => ?_) (fun k hk => ?_)
   ·rw [qFq,← hget,List.append_nil,qYa,qYa]
    cases e:qQc ro k with
    | some o =>
     have h1:=(hC.apart k (getO_iff.2 (by rw [e];rfl))).2
     have h2:qQc ch k=none:=by
      cases e2:qQc ch k with
      | none=>rfl
      | some o=>exact absurd (by simpa using getO_iff.2 (by rw [e2];rfl)) h1
     simp only [Option.map_some,qX9,h2]
    | none =>
     simp only
     cases e2:qQc o1 k with
     | some o =>
      have h1:=hC.inch k (getO_iff.2 (by rw [e2];rfl))
      obtain⟨o',ho'⟩:=Option.isSome_iff_exists.1 (getO_iff.1 h1)
      have ho':qQc ch k=some o':=ho'
      simp only [Option.map_some,qX9,ho']
     | none =>
      cases e3:qQc ch k with
      | none=>rfl
      | some o =>
       have h1:=(hC.chs k (getO_iff.2 (by rw [e3];rfl))).2.2
       rw [getO_iff,e2] at h1
       cases h1
   ·obtain⟨p,hp,hkp⟩:=mem_mentO.1 hk
    exact mem_mentO.2 ⟨p,qVk (hsub p hp),hkp⟩
  cases y with
  | pv p=>exact AC.wO 4 key
  | _=>exact key
 ·exact hr.elim
section
variable {ev:qVq} {P:Program}
theorem qCs {X:qZ9} {b:Code} {Q Q':AEx→St→Prop} (hq:∀ ae σ',Q ae σ'→(∃ σ'',WkX X σ' σ''∧Q' ae σ'')∧(∀ p,ae ≠ .panic p)∧ae ≠ .normal):∀ (m:Nat) (σ:St),qXa X b Q m σ→qXa X b Q' m σ
 | 0,_,h=>h
 | m+1,σ,h=>by
  refine qX4 ?_
  intro C E a w hC hG
  refine wp_mono (h C E a w hC hG) ?_
  rintro e a' w' ⟨E',σ',ae,hG',hr,hqq⟩
  have key:ae ≠ .normal→Q ae σ'→qN9 C (qUq (qXa X b Q' m) Q') e a' w':=by
   intro hn hh
   obtain⟨⟨σ'',hw,hq'⟩,hp,_⟩:=hq ae σ' hh
   obtain⟨E'',hG''⟩:=hw C E' a' w' hC hG'
   refine⟨E'',σ'',ae,hG'',?_,?_⟩
   ·cases ae with
    | panic p=>exact absurd rfl (hp p)
    | _=>exact hr
   ·cases ae with
    | normal=>exact absurd rfl hn
    | _=>exact hq'
  cases ae with
  | normal=>exact⟨E',σ',.normal,hG',hr,qCs hq m σ' hqq⟩
  | exit i=>exact key (by simp) hqq
  | ret=>exact key (by simp) hqq
  | panic p=>exact key (by simp) hqq
theorem LoopIs.post {nt bs:Nat} {b:Code} {s s' s'':IS} {e:AE} (he:e ≠ .normal) (h:LoopIs ev P nt bs b s e s') (hi:∀ sub,Inv bs sub s'→Inv bs sub s'') (hw:∀ X,HX X ev P nt bs→∀ σ,Rel s' σ→∃ τ,WkX X σ τ∧Rel s'' τ):LoopIs ev P nt bs b s e s'':=by
 obtain⟨h1,m,h2⟩:=h
 refine⟨fun sub hI=>hi sub (h1 sub hI),m,fun X hX σ hR=>qCs ?_ m σ (h2 X hX σ hR)⟩
 rintro ae σ' ⟨rfl,hR'⟩
 obtain⟨τ,h3,h4⟩:=hw X hX σ' hR'
 exact⟨⟨τ,h3,rfl,h4⟩,AE.x_np e,by cases e<;>simp [AE.x] at he ⊢⟩
def fzS (n ver:Nat) (ps:List (List PV)):List (Nat × V)→List (Nat × V)
 | []=>[]
 | (t,x)::r=>(t,qB8 n ver ps x)::fzS n ver ps r
def fzO (n ver:Nat) (ps:List (List PV)):List (Nat × Ob)→List (Nat × Ob)
 | []=>[]
 | (m,o)::r=>if m=n then fzO n ver ps r else (m,qJo n ver ps o)::fzO n ver ps r
theorem qSc (n ver:Nat) (ps:List (List PV)):∀ (l:List (Nat × V)) (t t':Tr V) (i:Nat),t'.get i=(t.get i).map (qB8 n ver ps)→(slL (fzS n ver ps l) t').get i=((slL l t).get i).map (qB8 n ver ps)
 | [],t,t',i,h=>h
 | (k,x)::r,t,t',i,h=>by
  simp only [slL,fzS]
  refine qSc n ver ps r _ _ i ?_
  rw [Tr.get_put,Tr.get_put]
  by_cases e:i=k
  ·rw [if_pos e,if_pos e];rfl
  ·rw [if_neg e,if_neg e];exact h
theorem qLo (n ver:Nat) (ps:List (List PV)):∀ (l:List (Nat × Ob)) (t t':Tr Ob) (i:Nat),(i≠n→t'.get i=(t.get i).map (qJo n ver ps))→(i=n→t'.get i=none)→(obL (fzO n ver ps l) t').get i=if i=n then none else ((obL l t).get i).map (qJo n ver ps)
 | [],t,t',i,h,h'=>by
  simp only [fzO,obL]
  split
  ·rename_i e;exact h' e
  ·rename_i e;exact h e
 | (k,x)::r,t,t',i,h,h'=>by
  simp only [fzO,obL]
  split
  ·rename_i e
   refine qLo n ver ps r _ _ i (fun hi => ?_) h'
   rw [Tr.get_put,if_neg (fun h=>hi (h.trans e))]
   exact h hi
  ·rename_i e
   refine qLo n ver ps r _ _ i (fun hi => ?_) (fun hi => ?_)
   ·rw [Tr.get_put,Tr.get_put]
    by_cases e1:i=k
    ·rw [if_pos e1,if_pos e1];rfl
    ·rw [if_neg e1,if_neg e1];exact h hi
   ·rw [Tr.get_put,if_neg (fun h=>e (h.symm.trans hi))]
    exact h' hi
theorem LoopIs.fz {nt bs:Nat} {b:Code} {s:IS} {e:AE} {sl:List (Nat × V)} {ob:List (Nat × Ob)} {nx:Nat} {dt:List Nat} (he:e ≠ .normal) (h:LoopIs ev P nt bs b s e ⟨slL sl .nil,obL ob .nil,nx,dt⟩) (n:Nat) {ver sz ty:Nat} {ps:List (List PV)} (hn:Nat.blt n bs=false)
  (ho:(obL ob .nil).get n=some (.arr ver sz ty (pvE ps))):LoopIs ev P nt bs b s e ⟨slL (fzS n ver ps sl) .nil,obL (fzO n ver ps ob) .nil,nx,dt⟩:=by
 have hf:qU2 bs ⟨slL sl .nil,obL ob .nil,nx,dt⟩ n=⟨(slL sl .nil).map (qB8 n ver ps),((obL ob .nil).put n none).map (qJo n ver ps),nx,dt⟩:=by
  unfold qU2
  rw [hn,ho]
  simp only [cond_false,qYn]
 have h1:∀ i,(slL (fzS n ver ps sl) .nil).get i=((slL sl .nil).map (qB8 n ver ps)).get i:=fun i=>by rw [Tr.get_map];exact qSc n ver ps sl .nil .nil i rfl
 have h2:∀ i,(obL (fzO n ver ps ob) .nil).get i=(((obL ob .nil).put n none).map (qJo n ver ps)).get i:=fun i=>by
  rw [Tr.get_map,Tr.get_put,qLo n ver ps ob .nil .nil i (fun _=>rfl) (fun _=>rfl)]
  split<;>rfl
 refine h.post he (fun _ hI => ?_) (fun X _ σ hR => ?_)
 ·have:=qFf hI n
  rw [hf] at this
  exact⟨this.le,fun i hi hd=>(h2 i).trans (this.same i hi hd),fun i hi hs=>this.old i hi ((h2 i) ▸ hs),this.names,this.dts⟩
 ·obtain⟨τ,hw,hR'⟩:=qLi (bs:=bs) hR n
  rw [hf] at hR'
  exact⟨τ,fun C E a w _ hG=>hw C E a w hG,⟨fun t=>(hR'.sl t).trans (by rw [h1]),fun m=>(hR'.ob m).trans (h2 m).symm,hR'.us⟩⟩
end
section
variable {ev:qVq} {P:Program}
structure Reach2 (ev:qVq) (P:Program) (nt bs:Nat) (c:Code) (s:IS) (k:KT):Prop where
 syn:∃ e s' tp,(∀ sub,Inv bs sub s→Inv bs sub s')∧k e s' tp
 awp:∀ X,HX X ev P nt bs→∀ σ,Rel s σ→AWP X c σ fun ae σ' => ∃ e s' tp,ae=AE.x e∧Rel s' σ'∧(∀ sub,Inv bs sub s→Inv bs sub s')∧k e s' tp
theorem Reach2.of {nt bs:Nat} {c:Code} {s s':IS} {e:AE} {tp:Di} {k:KT} (h:Reach ev P nt bs c s e s') (hk:k e s' tp):Reach2 ev P nt bs c s k :=
 ⟨⟨e,s',tp,h.inv,hk⟩,fun X hX σ hR=>AWP.mono (h.awp X hX σ hR) (by rintro ae σ' ⟨rfl,hR'⟩;exact⟨e,s',tp,rfl,hR',h.inv,hk⟩)⟩
theorem qWj {call:qKe} (hc:qKf ev P call) {N nt bs:Nat} : ∀ (c:Code) (s:IS) (tp:Di) (k:KT),qO7 ev P call N nt bs c s tp k→Reach2 ev P nt bs c s k
 | .seq a b,s,tp,k,h=>by
  have ha:=qWj hc a s tp _ h
  have hb:∀ s1 tp1,qO7 ev P call N nt bs b s1 tp1 k→Reach2 ev P nt bs b s1 k:=fun s1 tp1 h1=>qWj hc b s1 tp1 k h1
  refine⟨?_,fun X hX σ hR=>AWP.seq (AWP.mono (ha.awp X hX σ hR) ?_)⟩
  ·obtain⟨e,s1,tp1,hi,h1⟩:=ha.syn
   cases e with
   | normal =>
    obtain⟨e,s2,tp2,hi2,h2⟩:=(hb s1 tp1 h1).syn
    exact⟨e,s2,tp2,fun sub hI=>hi2 sub (hi sub hI),h2⟩
   | exit i=>exact⟨.exit i,s1,tp1,hi,h1⟩
   | ret=>exact⟨.ret,s1,tp1,hi,h1⟩
  ·rintro ae σ' ⟨e,s1,tp1,rfl,hR',hi,h1⟩
   cases e with
   | normal =>
    refine AWP.mono ((hb s1 tp1 h1).awp X hX σ' hR') ?_
    rintro ae σ'' ⟨e,s2,tp2,rfl,hR2,hi2,h2⟩
    exact⟨e,s2,tp2,rfl,hR2,fun sub hI=>hi2 sub (hi sub hI),h2⟩
   | exit i=>exact⟨.exit i,s1,tp1,rfl,hR',hi,h1⟩
   | ret=>exact⟨.ret,s1,tp1,rfl,hR',hi,h1⟩
 | .block id b,s,tp,k,h=>by
  have hb:=qWj hc b s tp _ h
  have key:∀ e s1 tp1,qHl id k e s1 tp1→∃ e',k e' s1 tp1 ∧ ∀ (Q:AEx→St→Prop) σ',Q (AE.x e') σ'→qAa id Q (AE.x e) σ':=by
   intro e s1 tp1 h1
   cases e with
   | normal=>exact⟨.normal,h1,fun Q σ' hq=>hq⟩
   | ret=>exact⟨.ret,h1,fun Q σ' hq=>hq⟩
   | exit i =>
    simp only [qHl] at h1
    split at h1
    ·rename_i e
     have e:=Nat.eq_of_beq_eq_true e
     refine⟨.normal,h1,fun Q σ' hq => ?_⟩
     simp only [AE.x,qAa,if_pos e]
     exact hq
    ·rename_i e
     have hne:¬ i=id:=fun e'=>by rw [qLb e'] at e;cases e
     refine⟨.exit i,h1,fun Q σ' hq => ?_⟩
     simp only [AE.x,qAa,if_neg hne]
     exact hq
  refine⟨?_,fun X hX σ hR=>AWP.block (AWP.mono (hb.awp X hX σ hR) ?_)⟩
  ·obtain⟨e,s1,tp1,hi,h1⟩:=hb.syn
   obtain⟨e',h2,_⟩:=key e s1 tp1 h1
   exact⟨e',s1,tp1,hi,h2⟩
  ·rintro ae σ' ⟨e,s1,tp1,rfl,hR',hi,h1⟩
   obtain⟨e',h2,h3⟩:=key e s1 tp1 h1
   exact h3 _ σ' ⟨e',s1,tp1,rfl,hR',hi,h2⟩
 | .scope b,s,tp,k,h=>by
  have hb:=qWj hc b s tp _ h
  exact⟨hb.syn,fun X hX σ hR=>AWP.scopeT (hb.awp X hX σ hR)⟩
 | .cond c x y,s,tp,k,h=>by
  unfold qO7 at h
  split at h
  ·rename_i b hb
   obtain⟨hx,hy⟩:=h
   have hy:=qWj hc y s tp k hy
   have hx:b=true→Reach2 ev P nt bs x s k:=fun e=>qWj hc x s tp k (hx e)
   refine⟨hy.syn,fun X hX σ hR=>zWz (v:=.pv (.flg b)) (by rw [hR.val,hX.gl];exact hb) ⟨fun e=>(hx e).awp X hX σ hR,hy.awp X hX σ hR⟩⟩
  ·rename_i b hb
   have hv:∀ X,HX X ev P nt bs→∀ σ,Rel s σ→σ.val X.gl c = .pv (.bool b):=fun X hX σ hR=>by rw [hR.val,hX.gl];exact hb
   split at h
   ·have hx:=qWj hc x s tp k h
    exact⟨hx.syn,fun X hX σ hR=>AWP.condT (hv X hX σ hR) (fun _=>hx.awp X hX σ hR) (nofun)⟩
   ·have hy:=qWj hc y s tp k h
    exact⟨hy.syn,fun X hX σ hR=>AWP.condT (hv X hX σ hR) (nofun) (fun _=>hy.awp X hX σ hR)⟩
  ·exact h.elim
 | .skip,s,tp,k,h=>by obtain⟨e,s1,tp1,h1,h2⟩:=qZa hc .skip s tp k h;exact .of h1 h2
 | .exit id,s,tp,k,h=>by obtain⟨e,s1,tp1,h1,h2⟩:=qZa hc (.exit id) s tp k h;exact .of h1 h2
 | .ret,s,tp,k,h=>by obtain⟨e,s1,tp1,h1,h2⟩:=qZa hc .ret s tp k h;exact .of h1 h2
 | .region id ops d,s,tp,k,h=>by obtain⟨e,s1,tp1,h1,h2⟩:=qZa hc (.region id ops d) s tp k h;exact .of h1 h2
 | .loop b,s,tp,k,h=>by obtain⟨e,s1,tp1,h1,h2⟩:=qZa hc (.loop b) s tp k h;exact .of h1 h2
 | .label l,s,tp,k,h=>by obtain⟨e,s1,tp1,h1,h2⟩:=qZa hc (.label l) s tp k h;exact .of h1 h2
 | .rangeFunc a b c d,s,tp,k,h=>by obtain⟨e,s1,tp1,h1,h2⟩:=qZa hc (.rangeFunc a b c d) s tp k h;exact .of h1 h2
 | .goto l,s,tp,k,h=>by obtain⟨e,s1,tp1,h1,h2⟩:=qZa hc (.goto l) s tp k h;exact .of h1 h2
 | .refuse l,s,tp,k,h=>by obtain⟨e,s1,tp1,h1,h2⟩:=qZa hc (.refuse l) s tp k h;exact .of h1 h2
theorem qEc:∀ args:List PV,qQj (args.map V.pv)=[]
 | []=>rfl
 | a::l=>by show []++qQj (l.map V.pv)=[];rw [qEc l];rfl
open Classical in
noncomputable def zBg (nt bs:Nat) (c:Code) (s:IS) (K:AE→IS→Option Res) (r:Res):Run:=fun nt' bs' c' s1 k=>if nt'=nt∧bs'=bs∧c'=c∧s1=s∧k=K then some r else none
theorem qXo (he:zJy ev P) {N n f:Nat} {args:List PV} {tp:Di} {ko:Kp} {x:PV} (h:zQd ev P N n f args tp ko x):AC P ev.gl f (args.map .pv) [] (.ret (.pv x)) []:=by
 unfold zQd at h
 split at h
 ·rename_i fn hf
  split at h
  ·rename_i c hb
   obtain⟨hl,h⟩:=qK4 h
   have hl:args.length≤fn.ntmps:=Nat.le_of_ble_eq_true hl
   let s0:IS:=⟨qJe 0 (args.map .pv) .nil,.nil,0,[]⟩
   let K:=zY4 ev.T 0 .nil fn.results.toList
   let r:Res:=⟨.pv x,[],[],ko.nx⟩
   have hR:=qWj (qK0 he N n) (nt:=fn.ntmps) (bs:=0) c s0 tp _ h
   have hend:∀ e s1,gd (zQb ko 0 s1) (qOo s1.ob ko.on (K e (kpT ko s1)=some r))→KpOK ko 0 s1∧K e (kpT ko s1)=some r:=by
    intro e s1 h1
    obtain⟨hk,h1⟩:=qK4 h1
    obtain⟨h1,ha⟩:=qVr h1
    exact⟨qXn hk ha,h1⟩
   have hg:Good ev P (zBg fn.ntmps 0 c s0 K r):=by
    refine⟨fun nt1 bs1 c1 s1 k r1 hr sub hI => ?_,fun nt1 bs1 c1 s1 k r1 hr X hP hXT hgl hnt hgv sub σ hRel hI => ?_⟩
    ·unfold zBg at hr
     split at hr
     ·rename_i hh
      obtain⟨rfl,rfl,rfl,rfl,rfl⟩:=hh
      cases hr
      obtain⟨e,s2,tp2,hi,h2⟩:=hR.syn
      obtain⟨h3,h4⟩:=hend e s2 h2
      exact⟨e,_,h3.inv (hi sub hI),h4⟩
     ·cases hr
    ·unfold zBg at hr
     split at hr
     ·rename_i hh
      obtain⟨rfl,rfl,rfl,rfl,rfl⟩:=hh
      cases hr
      have hX:HX X ev P fn.ntmps 0:=⟨hP,hXT,hgl,hnt,hgv⟩
      refine AWP.postX (hR.awp X hX σ hRel) ?_
      rintro ae σ' ⟨e,s2,tp2,rfl,hR2,hi,h2⟩
      obtain⟨h3,h4⟩:=hend e s2 h2
      obtain⟨τ,h5,h6⟩:=h3.wk hX hR2
      exact⟨⟨τ,h5,e,_,rfl,h6,h3.inv (hi sub hI),h4⟩,AE.x_np e⟩
     ·cases hr
   have hrun:qD8 ev (zBg fn.ntmps 0 c s0 K r) fn c (args.map .pv) 0 .nil=some r:=by
    unfold qD8 zBg
    simp only [s0,K,and_self,if_true]
   have hn:qQj (args.map V.pv)=[]:=by
    exact qEc args
   have hrc:reach 0 .nil 1000000 (qQj (args.map V.pv)) .nil []=some (.nil,[]):=by rw [hn];rfl
   obtain⟨ro,o1,hC⟩:=qBb (s:=⟨.nil,.nil,0,[]⟩) hg he hf hb (by simpa using hl) hrc hrun
   have h1:ro=[]:=by
    cases ro with
    | nil=>rfl
    | cons p r=>have:=hC.subs p (by simp);cases this
   have h2:o1=[]:=by
    cases o1 with
    | nil=>rfl
    | cons p r=>have:=hC.subs p (by simp);cases this
   have:=hC.ac
   rw [h1,h2] at this
   exact this
  ·exact h.elim
 ·exact h.elim
end
end Go.Lg
