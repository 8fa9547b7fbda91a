/- The engine that computes runs; no conditions. -/
import Derived.Test.YtbbbnbikmbaejaaGreatDoorConB1
import Derived.Test.YtbbbnbikmbaejaaGreatDoorConA4
import Derived.Scope
set_option linter.all false
namespace Go.Lg
structure Kp where
 sl:List Nat
 on:List Nat
 nx:Nat
 dt:List Nat
inductive De where
 | r (x:PV)
 | d (n:Nat) (o:Ob) (x:V)
 | c (r:Res) (ks:List Nat)
 | o (ro:List Nat) (ch:List (Nat × Ob)) (x:V)
 | i (e:List PV)
 | ok
 | z (n:Nat)
 | y (z:Int)
 | v (p:PV)
 | s
 | fb (n:Nat) (b:Option Bool)
 | b (v:Bool)
 | l (k:Kp) (e:AE) (s:IS)
 | n (tp:List (Nat × De))
 | f (n:Nat) (ps:List (List PV))
 | w (r:RB)
 | g
abbrev De.T:De:=.r (.bool true)
abbrev De.F:De:=.r (.bool false)
abbrev De.G:De:=.b true
abbrev De.H:De:=.b false
abbrev De.U (l:List PV):De:=.r (.tuple l)
abbrev Di:=List (Nat × De)
def qGi (n:Nat):Di→Option (De × Di)
 | []=>none
 | p::r=>match p with
  | (m,e)=>bif Nat.beq m n then some (e,r) else (match qGi n r with
   | some (x,r')=>some (x,(m,e)::r')
   | none=>none)
def slL:List (Nat × V)→Tr V→Tr V
 | [],t=>t
 | (n,x)::r,t=>slL r (t.put n (some x))
def obL:List (Nat × Ob)→Tr Ob→Tr Ob
 | [],t=>t
 | (n,x)::r,t=>obL r (t.put n (some x))
def mkT {α:Type} (s:Tr α):List Nat→Tr α→Tr α
 | [],t=>t
 | n::r,t=>mkT s r (t.put n (s.get n))
def kpT (k:Kp) (s:IS):IS:=⟨mkT s.sl k.sl .nil,mkT s.ob k.on .nil,k.nx,k.dt⟩
def qAo (m:Nat):List Nat→Bool
 | []=>true
 | n::r=>bif Nat.blt n m then qAo m r else false
def slB (m:Nat) (s:Tr V):List Nat→Bool
 | []=>true
 | t::r=>bif (match s.get t with
  | some v=>qAo m v.names
  | none=>true) then slB m s r else false
def zY7 (m:Nat) (s:Tr Ob):List Nat→Bool
 | []=>true
 | n::r=>bif Nat.blt n m then (bif (match s.get n with
  | some (.arr _ _ _ _)=>true
  | some (.smap _ _)=>true
  | some o=>qAo m o.names
  | none=>true) then zY7 m s r else false) else false
def qLs (s:Tr Ob):List Nat→Prop→Prop
 | [],R=>R
 | n::r,R=>match s.get n with
  | some (.arr _ _ _ es)=>qQw es=[]∧qLs s r R
  | some (.smap _ es)=>qZm es=[]∧qLs s r R
  | _=>qLs s r R
def zVs (l m:List Nat):Bool:=match l with
 | []=>true
 | n::r=>bif qAn m n then zVs r m else false
def isN {α:Type} : Option α→Bool
 | none=>true
 | some _=>false
def zY8 (on:List Nat) (s:Tr Ob):Nat→Bool
 | 0=>true
 | n+1=>bif (bif qAn on n then true else isN (s.get n)) then zY8 on s n else false
def qTr (k:Kp) (bs:Nat) (s:IS):Bool :=
 bif Nat.ble bs k.nx then (bif slB k.nx s.sl k.sl then (bif zY7 k.nx s.ob k.on then (bif zY8 k.on s.ob bs then (bif zVs s.dt k.dt then qAo bs k.dt else false) else false) else false) else false) else false
def wl (f:PV→PV):List PV→List PV
 | []=>[]
 | c::r=>f c::wl f r
def PV.w:Nat→PV→PV
 | 0,p=>p
 | n+1,p=>match p with
  | .nils => .slice []
  | .agg cs => .agg (wl (PV.w n) cs)
  | .tuple cs => .tuple (wl (PV.w n) cs)
  | p=>p
def wE (n:Nat):List (List PV)→List (List PV)
 | []=>[]
 | e::r=>wl (PV.w n) e::wE n r
def wV:V→V
 | .pv p => .pv (PV.w 4 p)
 | x=>x
def wG:V→V
 | .gsl _ _ es => .pv (.slice es)
 | x=>x
def zY9 (dst:Option Nat) (op:Op) (tp:Di):Option Di:=match op with
 | .move _=>match qGi (match dst with|some d=>d|none=>99999) tp with
  | some (.g,tp')=>some tp'
  | _=>none
 | _=>none
def wA:List V→List V
 | []=>[]
 | x::r=>wV x::wA r
def zWl (op:Op) (r:RB):RB:=match op with
 | .buildSlice _ _ _=>match r with
  | ⟨.pv (.slice es),none,w⟩=>⟨.pv (.slice (wE 3 es)),none,w⟩
  | r=>r
 | _=>r
def gd (c:Bool) (P:Prop):Prop:=match c with
 | true=>P
 | false=>False
def zAa (op:BinOp) (x y:V):Option (Bool × RB):=match x with
 | .pv (.int a)=>match y with
  | .pv (.int b)=>match op with
   | .add=>some (inB (a+b),⟨.pv (.int (a+b)),none,false⟩)
   | .sub=>some (inB (a-b),⟨.pv (.int (a-b)),none,false⟩)
   | .mul=>some (inB (a * b),⟨.pv (.int (a * b)),none,false⟩)
   | .rem=>some (!eqI b 0,⟨.pv (.int (a.tmod b)),none,false⟩)
   | _=>none
  | _=>none
 | .pv (.num j a)=>match y with
  | .pv (.num j' b)=>match op with
   | .or=>some (bif qXt j j' then inB (qQj .or j a b) else false,⟨.pv (.num j (qQj .or j a b)),none,false⟩)
   | .and=>some (bif qXt j j' then inB (qQj .and j a b) else false,⟨.pv (.num j (qQj .and j a b)),none,false⟩)
   | .sub=>some (bif qXt j j' then inB (j.wrap (a-b)) else false,⟨.pv (.num j (j.wrap (a-b))),none,false⟩)
   | _=>none
  | .pv (.int n)=>match op with
   | .shl=>some (bif ltI n 0 then false else inB (j.wrap (a * 2 ^ (min n.toNat j.bits))),⟨.pv (.num j (j.wrap (a * 2 ^ (min n.toNat j.bits)))),none,false⟩)
   | .shr=>some (bif ltI n 0 then false else inB (a.fdiv (2 ^ (min n.toNat j.bits))),⟨.pv (.num j (a.fdiv (2 ^ (min n.toNat j.bits)))),none,false⟩)
   | _=>none
  | _=>none
 | _=>none
def zAb (e:Nat) (te:TI) (ob:Nat→Option Ob) (nx:Nat) (x y:V):Option (Bool × RB):=match x with
 | .arr n ver len=>match ob n with
  | some (.arr ver' sz ty es)=>match qYd y with
   | some ys=>some (Nat.beq ver ver' && Nat.ble len es.length && Nat.beq ty e && Nat.beq sz te.size && Nat.blt 0 sz && qD8 sz ys && qVe ys && Nat.ble (len+ys.length) maxLen && Nat.ble ((len+ys.length) * te.bytes) 140737488355328,
    ⟨.arr n (ver+1) (len+ys.length),some (n,.arr (ver+1) sz ty (es.take len++ys)),false⟩)
   | none=>none
  | _=>none
 | .fsl es=>match y with
  | .pv (.slice (y::ys))=>some (qWd te.size es && qWd te.size (y::ys) && Nat.blt 0 te.size && Nat.ble (es.length+(y::ys).length) maxLen && Nat.ble ((es.length+(y::ys).length) * te.bytes) 140737488355328,
    ⟨.pv (.slice (es++y::ys)),none,false⟩)
  | _=>none
 | .pv .nils=>match qYd y with
  | some ys=>some (Nat.blt 0 te.size && qD8 te.size ys && qVe ys && Nat.ble ys.length maxLen && Nat.ble (ys.length * te.bytes) 140737488355328,
    ⟨.arr nx 1 ys.length,some (nx,.arr 1 te.size e ys),true⟩)
  | none=>none
 | _=>none
def qNj (te:TI) (ob:Nat→Option Ob) (x:V) (lo hi mx:Option V):Option (Bool × V):=match x,lo,hi,mx with
 | .pv (.slice es),some (.pv (.int l)),none,none=>match qEa l with
  | some k=>some (Nat.ble k es.length && qWd te.size es,.pv (.slice (es.drop k)))
  | none=>none
 | .pv (.slice es),none,some (.pv (.int h)),none=>match qEa h with
  | some k=>some (Nat.ble k es.length,.pv (.slice (es.take k)))
  | none=>none
 | .arr n ver len,none,some (.pv (.int h)),none=>match qEa h,ob n with
  | some k,some (.arr ver' _ _ _)=>some (Nat.beq ver ver' && Nat.ble k len,.arr n ver k)
  | _,_=>none
 | .pv (.slice es),none,some (.pv (.int h)),some (.pv (.int m))=>match qEa h,qEa m with
  | some k,some l=>some (Nat.beq k es.length && Nat.beq l es.length,.fsl es)
  | _,_=>none
 | _,_,_,_=>none
def opG (T:Nat→Option TI) (nx:Nat) (val:Operand→V) (ob:Nat→Option Ob) (op:Op):Option (Bool × RB):=match op with
 | .binOp b t x y _=>match T t with
  | some _=>zAa b (val x) (val y)
  | none=>none
 | .slice t x lo hi mx=>match T t with
  | some ⟨.slice e,_,_,_,_⟩=>match T e with
   | some te=>match qNj te ob (val x) (lo.map val) (hi.map val) (mx.map val) with
    | some (c,v)=>some (c,⟨v,none,false⟩)
    | none=>none
   | none=>none
  | _=>none
 | .call { callee:=.builtin .append,args,argTypes } => match argTypes.toList,args.toList with
  | [t,t'],[x,y]=>bif Nat.beq t t' then (match T t with
    | some ⟨.slice e,_,_,_,_⟩=>match T e with
     | some te=>zAb e te ob nx (val x) (val y)
     | none=>none
    | _=>none) else none
  | _,_=>none
 | .call { callee:=.builtin .max,args,argTypes:=_ } => match args.toList with
  | [x,y]=>match val x with
   | .pv (.int a)=>match val y with
    | .pv (.int b)=>some (true,⟨.pv (.int (bif ltI a b then b else a)),none,false⟩)
    | _=>none
   | _=>none
  | _=>none
 | _=>none
def zAc (T:Nat→Option TI) (nx:Nat) (val:Operand→V) (op:Op):Option (Bool × RB):=match op with
 | .buildSlice t len parts=>match T t with
  | some ⟨.slice e,_,_,_,_⟩=>match T e with
   | some te=>match qHm 0 (parts.toList.map fun p=>(p.1,val p.2)) with
    | some es=>some (Nat.beq es.length len && Nat.ble len 16777216 && Nat.ble (len * te.size) 16777216 && qD8 te.size es,⟨.arr nx 0 len,some (nx,.arr 0 te.size e es),true⟩)
    | none=>none
   | none=>none
  | _=>none
 | _=>none
def zZe (T:Nat→Option TI) (nx:Nat) (val:Operand→V) (op:Op):Option (Bool × RB):=match op with
 | .call { callee:=.builtin .append,args,argTypes } => match argTypes.toList,args.toList with
  | [t,t'],[x,y]=>bif Nat.beq t t' then (match T t with
    | some ⟨.slice e,_,_,_,_⟩=>match T e with
     | some te=>match val x with
      | .pv .nils=>match val y with
       | .pv (.slice (y::ys))=>some (Nat.blt 0 te.size && qWd te.size (y::ys) && qVe (pvE (y::ys)) && Nat.ble (y::ys).length maxLen && Nat.ble ((y::ys).length * te.bytes) 140737488355328,⟨.gsl nx 1 (y::ys),some (nx,.grow 1 te.size e (y::ys)),true⟩)
       | _=>none
      | _=>none
     | none=>none
    | _=>none) else none
  | _,_=>none
 | _=>none
def opX (T:Nat→Option TI) (val:Operand→V) (op:Op):Option (List (List PV) × Nat × Nat):=match op with
 | .indexAddr t x i=>match val i with
  | .pv (.int z)=>match qEa z with
   | some k=>match T t with
    | some ⟨.slice e,_,_,_,_⟩=>match T e with
     | some te=>match val x with
      | .pv (.slice es)=>some (es,k,te.size)
      | _=>none
     | none=>none
    | _=>none
   | none=>none
  | _=>none
 | _=>none
def zWm (q:PV) (y:V):Option Bool:=match q with
 | .nptr cs=>match cs with
  | c::_=>match c with
   | .flg p=>match y with
    | .pv z=>match z with
     | .bool b=>some (bif b then p else true)
     | _=>none
    | _=>none
   | _=>none
  | []=>none
 | _=>none
def qNk (T:Nat→Option TI) (val:Operand→V) (dst:Option Nat) (op:Op):Option Bool:=match op with
 | .store t x y=>match dst with
  | none=>match T t with
   | some ti=>match val x with
    | .pv q=>bif Nat.beq 1 ti.size then zWm q (val y) else none
    | _=>none
   | none=>none
  | some _=>none
 | _=>none
def qRp (b:Bool):List PV→Option (List PV)
 | []=>none
 | c::r=>match r with
  | []=>match c with
   | .bool x=>match x with
    | false=>some [.flg b]
    | true=>none
   | _=>none
  | _::_=>match c with
   | .flg _=>none
   | c=>match qRp b r with
    | some l=>some (c::l)
    | none=>none
def zZf (K:List PV→PV) (n:Nat) (ps:List PV) (s:IS):IS:=⟨s.sl.map (qPh K n ps),(s.ob.put n none).map (qB5 K n ps),s.nx,s.dt⟩
def fbI (bs n:Nat) (b:Option Bool) (s:IS):Option IS:=bif Nat.blt n bs then none else (match s.ob.get n with
 | some (.box cs)=>match unR cs with
  | some qs=>match b with
   | none=>some (zZf .ptr n (wl (PV.w 4) qs) s)
   | some b=>match qRp b qs with
    | some ps=>some (zZf .nptr n ps s)
    | none=>none
  | none=>none
 | _=>none)
def brT (r:RB) (k:RB→Prop):Prop:=match r with
 | ⟨.pv (.bool c),none,w⟩=>match c with
  | true=>k ⟨.pv (.bool true),none,w⟩
  | false=>k ⟨.pv (.bool false),none,w⟩
 | r=>k r
def zAd (r:RB) (v:Bool) (k:RB→Prop):Prop:=match r with
 | ⟨.pv (.bool c),none,w⟩=>c=v∧k ⟨.pv (.bool v),none,w⟩
 | _=>False
def zAe:Option Nat→Nat
 | some d=>d
 | none=>99999
def zZg (ev:qZx) (s:IS) (dst:Option Nat) (op:Op) (tp:Di) (k:RB→Di→Prop):Prop:=match qGi (zAe dst) tp with
 | none=>match opE ev.T s.nx (s.val ev.gl) s.ob.get dst op with
  | some r=>match op with
   | .binOp _ _ _ _ _=>brT r fun r=>k r tp
   | .unOp _ _ _=>brT r fun r=>k r tp
   | _=>k r tp
  | none=>False
 | some (e,tp')=>match e with
  | .ok=>match opG ev.T s.nx (s.val ev.gl) s.ob.get op with
   | some (c,r)=>c=true∧k r tp'
   | none=>match zAc ev.T s.nx (s.val ev.gl) op with
    | some (c,r)=>c=true∧k r tp'
    | none=>False
  | .z n=>match opG ev.T s.nx (s.val ev.gl) s.ob.get op with
   | some (c,r)=>match r with
    | ⟨.pv (.int z),none,false⟩=>(c=true∧z = .ofNat n)∧k ⟨.pv (.int (.ofNat n)),none,false⟩ tp'
    | _=>False
   | none=>False
  | .y y=>match opG ev.T s.nx (s.val ev.gl) s.ob.get op with
   | some (c,r)=>match r with
    | ⟨.pv (.int z),none,false⟩=>(c=true∧z=y)∧k ⟨.pv (.int y),none,false⟩ tp'
    | _=>False
   | none=>False
  | .v p=>match opG ev.T s.nx (s.val ev.gl) s.ob.get op with
   | some (c,r)=>match r with
    | ⟨.pv q,none,false⟩=>(c=true∧q=p)∧k ⟨.pv p,none,false⟩ tp'
    | _=>False
   | none=>False
  | .i x=>match opX ev.T (s.val ev.gl) op with
   | some (es,n,z)=>(qXs es n=some x∧qWd z es=true)∧k ⟨.pv (.ptr x),none,false⟩ tp'
   | none=>False
  | .s=>match qNk ev.T (s.val ev.gl) dst op with
   | some c=>c=true∧k ⟨.undef,none,false⟩ tp'
   | none=>False
  | .b v=>match opE ev.T s.nx (s.val ev.gl) s.ob.get dst op with
   | some r=>zAd r v fun r=>k r tp'
   | none=>False
  | .w r=>opE ev.T s.nx (s.val ev.gl) s.ob.get dst op=some r∧k r tp'
  | .g=>match zZe ev.T s.nx (s.val ev.gl) op with
   | some (c,r)=>c=true∧k r tp'
   | none=>False
  | _=>False
def qJw:List (Nat × Ob)→List Nat
 | []=>[]
 | (n,_)::r=>n::qJw r
def qNl:List Nat→Bool
 | []=>true
 | n::r=>bif qAn r n then false else qNl r
def zWn (m:List Nat):List Nat→Bool
 | []=>true
 | n::r=>bif qAn m n then false else zWn m r
def apL {α:Type} : List α→List α→List α
 | [],l=>l
 | x::r,l=>x::apL r l
def zWo (s:Tr Ob):List Nat→(List (Nat × Ob)→Prop)→Prop
 | [],k=>k []
 | n::r,k=>match s.get n with
  | some o=>zWo s r fun l=>k ((n,o)::l)
  | none=>False
abbrev qZ2:=Nat→List V→IS→Di→(Res→List Nat→Di→Prop)→Prop
def zZh (ev:qZx) (P:Program) (call:qZ2) (f:Nat) (args:List V) (s:IS) (dst:Option Nat) (tp:Di) (k:Res→List Nat→Di→Prop):Prop:=match qGi (zAe dst) tp with
 | none=>call f args s [] fun r ks _=>k r ks tp
 | some (e,tp')=>match e with
  | .r x=>AC P ev.gl f (wA args) [] (.ret (.pv x)) []∧k ⟨.pv x,[],[],s.nx⟩ [] tp'
  | .d n o' x=>gd (Nat.blt n s.nx) (match s.ob.get n with
   | some o=>AC P ev.gl f (wA args) [(n,o)] (.ret x) [(n,o')]∧k ⟨x,[(n,o')],[],s.nx⟩ [n] tp'
   | none=>False)
  | .n tp=>call f args s tp fun r ks _=>k r ks tp'
  | .o ro ch x=>gd (bif qNl (qJw ch) then (bif zWn (qJw ch) ro then (bif qAo s.nx (qJw ch) then true else false) else false) else false) (zWo s.ob ro fun l=>zWo s.ob (qJw ch) fun l1 =>
   AC P ev.gl f (wA args) (apL l l1) (.ret x) (apL l ch)∧k ⟨x,ch,[],s.nx⟩ (apL ro (qJw ch)) tp')
  | .c r ks=>(∃ ro o1,Called P ev.gl s f args r ks ro o1)∧k r ks tp'
  | _=>False
def doT (ev:qZx) (P:Program) (call:qZ2) (bs:Nat) (o:Oper) (s:IS) (tp:Di) (k:IS→Tc→Di→Prop):Prop:=match qQ1 (s.val ev.gl) o.op with
 | some (f,args)=>zZh ev P call f args s o.dst tp fun r ks tp=>k (qCd bs s o.dst r) ⟨r.ch.map (·.1)++r.nw.map (·.1),ks⟩ tp
 | none=>match zY9 o.dst o.op tp with
  | some tp=>match opE ev.T s.nx (s.val ev.gl) s.ob.get o.dst o.op with
   | some r=>k (s.app bs o.dst ⟨wG r.x,r.wr,r.new⟩) ⟨match r.wr with|some (n,_)=>[n]|none=>[],rdN (s.val ev.gl) o.op⟩ tp
   | none=>False
  | none=>zZg ev s o.dst o.op tp fun r tp=>k (s.app bs o.dst (zWl o.op r)) ⟨match r.wr with|some (n,_)=>[n]|none=>[],rdN (s.val ev.gl) o.op⟩ tp
def opT (ev:qZx) (P:Program) (call:qZ2) (nt bs:Nat) (all:List Oper) (o:Oper) (s:IS) (tp:Di) (k:IS→Tc→Di→Prop):Prop :=
 gd (zY4 nt o.dst) (match o.guard with
  | none=>doT ev P call bs o s tp k
  | some (j,want)=>match gvI all s j with
   | .pv (.bool b)=>match b with
    | true=>match want with
     | true=>doT ev P call bs o s tp k
     | false=>k ⟨qYy s.sl o.dst qI9,s.ob,s.nx,s.dt⟩ ⟨[],[]⟩ tp
    | false=>match want with
     | false=>doT ev P call bs o s tp k
     | true=>k ⟨qYy s.sl o.dst qI9,s.ob,s.nx,s.dt⟩ ⟨[],[]⟩ tp
   | .pv (.tuple [])=>k ⟨qYy s.sl o.dst qI9,s.ob,s.nx,s.dt⟩ ⟨[],[]⟩ tp
   | _=>False)
def zAf (ev:qZx) (P:Program) (call:qZ2) (nt bs:Nat) (all:List Oper):List Oper→IS→List Tc→Di→(IS→List Tc→Di→Prop)→Prop
 | [],s,tr,tp,k=>k s tr tp
 | o::rest,s,tr,tp,k=>opT ev P call nt bs all o s tp fun s1 tc tp=>zAf ev P call nt bs all rest s1 (tc::tr) tp k
def zCm (ev:qZx) (P:Program) (call:qZ2) (nt bs:Nat) (ops:List Oper) (draw:Bool) (s:IS) (tp:Di) (k:IS→Di→Prop):Prop :=
 zAf ev P call nt bs ops ops (zQ9 bs (qXv ops) s) [] tp fun s1 tr tp=>match draw with
  | true=>gd (qRl ops) (match qEg tr with
   | true=>k s1 tp
   | false=>gd (qLa ops tr.reverse) (k s1 tp))
  | false=>k s1 tp
abbrev KT:=AE→IS→Di→Prop
def onT (f:IS→Di→Prop) (k:KT):KT
 | .normal,s,tp=>f s tp
 | .exit i,s,tp=>k (.exit i) s tp
 | .ret,s,tp=>k .ret s tp
def qEn (id:Nat) (k:KT):KT
 | .normal,s,tp=>k .normal s tp
 | .exit i,s,tp=>match Nat.beq i id with
  | true=>k .normal s tp
  | false=>k (.exit i) s tp
 | .ret,s,tp=>k .ret s tp
def zZi (b:IS→Di→KT→Prop) (k:KT):Nat→IS→Di→Prop
 | 0,_,_=>False
 | m+1,s,tp=>b s tp (onT (zZi b k m) k)
def qTs:Code→Option Nat
 | .region id _ _=>some id
 | .seq a b=>match qTs a with
  | some n=>some n
  | none=>qTs b
 | .block _ b=>qTs b
 | .scope b=>qTs b
 | .cond _ a b=>match qTs a with
  | some n=>some n
  | none=>qTs b
 | .loop b=>qTs b
 | _=>none
def zD6 (c:Code):Nat:=match qTs c with
 | some n=>n+100000
 | none=>99998
def WkX (X:Env1) (σ σ':St):Prop:=∀ C E a w,COK X C→Ga C E σ a w→∃ E',Ga C E' σ' a w
structure HX (X:Env1) (ev:qZx) (P:Program) (nt bs:Nat):Prop where
 P:X.P=P
 T:X.T=ev.T
 gl:X.gl=ev.gl
 nt:X.nt=nt
 given:∀ n∈X.given,n<bs
def qRq (e:AE) (s':IS):AEx→St→Prop:=fun ae σ'=>ae=AE.x e∧Rel s' σ'
structure Reach (ev:qZx) (P:Program) (nt bs:Nat) (c:Code) (s:IS) (e:AE) (s':IS):Prop where
 inv:∀ sub,Inv bs sub s→Inv bs sub s'
 awp:∀ X,HX X ev P nt bs→∀ σ,Rel s σ→AWP X c σ (qRq e s')
structure LoopIs (ev:qZx) (P:Program) (nt bs:Nat) (b:Code) (s:IS) (e:AE) (s':IS):Prop where
 inv:∀ sub,Inv bs sub s→Inv bs sub s'
 awp:∃ m,∀ X,HX X ev P nt bs→∀ σ,Rel s σ→qKe X b (qRq e s') m σ
def qDk (ev:qZx) (P:Program) (call:qZ2) (N nt bs:Nat):Code→IS→Di→KT→Prop
 | .skip,s,tp,k=>k .normal s tp
 | .seq a b,s,tp,k=>qDk ev P call N nt bs a s tp (onT (fun s tp=>qDk ev P call N nt bs b s tp k) k)
 | .cond c x y,s,tp,k=>match s.val ev.gl c with
  | .pv (.bool b)=>match b with
   | true=>qDk ev P call N nt bs x s tp k
   | false=>qDk ev P call N nt bs y s tp k
  | _=>False
 | .block id b,s,tp,k=>qDk ev P call N nt bs b s tp (qEn id k)
 | .exit id,s,tp,k=>k (.exit id) s tp
 | .ret,s,tp,k=>k .ret s tp
 | .region id ops d,s,tp,k=>zCm ev P call nt bs ops.toList d s tp fun s tp=>match qGi (id+300000) tp with
  | some (.f n ps,tp')=>match s.ob.get n with
   | some (.arr ver _ _ es)=>gd (!Nat.blt n bs) (es=pvE ps∧k .normal ⟨s.sl.map (qD4 n ver ps),(s.ob.put n none).map (qKd n ver ps),s.nx,s.dt⟩ tp')
   | _=>False
  | some (.fb n b,tp')=>match fbI bs n b s with
   | some s'=>k .normal s' tp'
   | none=>False
  | some (.ok,tp')=>k .normal s tp'
  | _=>k .normal s tp
 | .loop b,s,tp,k=>match qGi (zD6 b) tp with
  | some (.l kp e s',tp')=>gd (qTr kp bs s) (qLs s.ob kp.on (LoopIs ev P nt bs b (kpT kp s) e s'∧k e s' tp'))
  | _=>zZi (qDk ev P call N nt bs b) k N s tp
 | .scope b,s,tp,k=>qDk ev P call N nt bs b s tp k
 | .label _,s,tp,k=>k .normal s tp
 | _,_,_,_=>False
def qLd (ev:qZx) (P:Program) (call:qZ2) (N nt bs:Nat):Code→IS→Di→KT→Prop
 | .seq a b,s,tp,k=>qLd ev P call N nt bs a s tp (onT (fun s tp=>qLd ev P call N nt bs b s tp k) k)
 | .block id b,s,tp,k=>qLd ev P call N nt bs b s tp (qEn id k)
 | .scope b,s,tp,k=>qLd ev P call N nt bs b s tp k
 | .cond c x y,s,tp,k=>match s.val ev.gl c with
  | .pv (.flg b)=>(b=true→qLd ev P call N nt bs x s tp k)∧qLd ev P call N nt bs y s tp k
  | .pv (.bool b)=>match b with
   | true=>qLd ev P call N nt bs x s tp k
   | false=>qLd ev P call N nt bs y s tp k
  | _=>False
 | c,s,tp,k=>qDk ev P call N nt bs c s tp k
def zWp (ev:qZx) (P:Program) (call:qZ2) (N:Nat) (fn:Func) (c:Code) (args:List V) (nx:Nat) (sub:Tr Ob) (tp:Di) (k:Res→Di→Prop):Prop :=
 qDk ev P call N fn.ntmps nx c ⟨qZh 0 args .nil,sub,nx,[]⟩ tp fun e s tp=>match zQ8 ev.T nx sub fn.results.toList e s with
  | some r=>k r tp
  | none=>False
def qAp (ev:qZx) (P:Program) (N:Nat):Nat→qZ2
 | 0=>fun _ _ _ _ _=>False
 | n+1=>fun f args s tp k=>match ev.F f with
  | some fn=>match fn.body with
   | some c=>gd (Nat.ble args.length fn.ntmps) (match reach s.nx s.ob 1000000 (qQg args) .nil [] with
    | some (sub,ks)=>zWp ev P (qAp ev P N n) N fn c args s.nx sub tp fun r tp=>k r ks tp
    | none=>False)
   | none=>False
  | none=>False
def qTt (ev:qZx) (P:Program) (n N nt bs:Nat) (b:Code) (s:IS) (tp:Di) (ki ko:Kp) (e:AE) (s':IS):Prop :=
 qDk ev P (qAp ev P N n) N nt bs b s tp fun e1 s1 _=>match e1 with
  | .normal=>gd (qTr ki bs s1) (qLs s1.ob ki.on (LoopIs ev P nt bs b (kpT ki s1) e s'))
  | e1=>e1=e∧gd (qTr ko bs s1) (qLs s1.ob ko.on (kpT ko s1=s'))
def zCn (r:Res) (x:PV):Prop:=match r with
 | ⟨.pv y,[],[],_⟩=>y.w 4=x
 | _=>False
def zAg (ev:qZx) (P:Program) (N n f:Nat) (args:List PV) (tp:Di) (x:PV):Prop:=qAp ev P N n f (args.map .pv) ⟨.nil,.nil,0,[]⟩ tp fun r _ _=>zCn r x
def zWq (n:Nat) (o:Ob):List (Nat × Ob)→Ob
 | []=>o
 | (m,o')::r=>bif Nat.beq n m then o' else zWq n o r
def qTu (ch:List (Nat × Ob)):List (Nat × Ob)→List (Nat × Ob)
 | []=>[]
 | (n,o)::r=>(n,zWq n o ch)::qTu ch r
def zCo (objs:List (Nat × Ob)) (r:Res) (ks:List Nat) (x:V) (objs':List (Nat × Ob)):Prop:=match r with
 | ⟨y,ch,[],_⟩=>gd (bif zVs (qJw objs) ks then qNl (qJw ch) else false) ((wV y,qTu ch objs)=(x,objs'))
 | _=>False
def zAh (ev:qZx) (P:Program) (N n f:Nat) (args:List V) (objs:List (Nat × Ob)) (m:Nat) (tp:Di) (x:V) (objs':List (Nat × Ob)):Prop :=
 gd (qNl (qJw objs)) (qAp ev P N n f args ⟨.nil,obL objs .nil,m,[]⟩ tp fun r ks _=>zCo objs r ks x objs')
def zAi (ev:qZx) (P:Program) (N n f:Nat) (args:List PV) (tp:Di) (ko:Kp) (x:PV):Prop:=match ev.F f with
 | some fn=>match fn.body with
  | some c=>gd (Nat.ble args.length fn.ntmps) (qLd ev P (qAp ev P N n) N fn.ntmps 0 c ⟨qZh 0 (args.map .pv) .nil,.nil,0,[]⟩ tp fun e s _ =>
    gd (qTr ko 0 s) (qLs s.ob ko.on (zQ8 ev.T 0 .nil fn.results.toList e (kpT ko s)=some ⟨.pv x,[],[],ko.nx⟩)))
  | none=>False
 | none=>False
theorem qZs {c:Bool} {P:Prop} (h:gd c P):c=true∧P:=by
 unfold gd at h
 grind
theorem zZj {k:TK} {op:BinOp} {x y:V} {yo:Operand} {c:Bool} {r:RB} (h:zAa op x y=some (c,r)) (hc:c=true):ro (zQ2 k op x y yo)=some r:=by
 have hn:∀ {d:Bool} {j:IntKind} {z:Int},(bif d then inB z else false)=true→d=true∧qFd j z=some (.pv (.num j z)):=by
  intro d j z hd
  cases d with
  | false=>cases hd
  | true=>exact⟨rfl,by unfold qFd qM1;rw [show inB z=true from hd];rfl⟩
 have hs:∀ {n:Int} {j:IntKind} {z:Int},(bif ltI n 0 then false else inB z)=true→ltI n 0=false∧qFd j z=some (.pv (.num j z)):=by
  simp_all
 unfold zAa at h
 split at h
 ·rename_i a
  split at h
  ·rename_i b
   have hi:zQ2 k op (.pv (.int a)) (.pv (.int b)) yo=qTn op a b:=rfl
   rw [hi]
   split at h
   ·cases h;simp only [qTn,qHi,hc,cond_true];rfl
   ·cases h;simp only [qTn,qHi,hc,cond_true];rfl
   ·cases h;simp only [qTn,qHi,hc,cond_true];rfl
   ·cases h
    have hb:eqI b 0=false:=by simp_all
    simp only [qTn,hb,cond_false]
    rfl
   ·cases h
  ·cases h
 ·rename_i j a
  split at h
  ·rename_i j' b
   have hi:zQ2 k op (.pv (.num j a)) (.pv (.num j' b)) yo=(bif qXt j j' then zQ0 op j a b else none):=rfl
   rw [hi]
   split at h
   ·cases h;obtain⟨h1,h2⟩:=hn (j:=j) hc;rw [h1,cond_true];simp only [zQ0,h2];rfl
   ·cases h;obtain⟨h1,h2⟩:=hn (j:=j) hc;rw [h1,cond_true];simp only [zQ0,h2];rfl
   ·cases h;obtain⟨h1,h2⟩:=hn (j:=j) hc;rw [h1,cond_true];simp only [zQ0,h2];rfl
   ·cases h
  ·rename_i n
   have hi:zQ2 k op (.pv (.num j a)) (.pv (.int n)) yo=qBa op j a n:=rfl
   rw [hi]
   split at h
   ·cases h;obtain⟨h1,h2⟩:=hs (j:=j) hc;simp only [qBa,h1,h2,cond_false];rfl
   ·cases h;obtain⟨h1,h2⟩:=hs (j:=j) hc;simp only [qBa,h1,h2,cond_false];rfl
   ·cases h
  ·cases h
 ·cases h
theorem zZk {e:Nat} {te:TI} {ob:Nat→Option Ob} {nx:Nat} {x y:V} {c:Bool} {r:RB} (h:zAb e te ob nx x y=some (c,r)) (hc:c=true):qWx e te ob nx x y=some r:=by
 unfold zAb at h
 grind [qWx]
theorem qNm {te:TI} {ob:Nat→Option Ob} {x:V} {lo hi mx:Option V} {c:Bool} {v:V} (h:qNj te ob x lo hi mx=some (c,v)) (hc:c=true):qEb te ob x lo hi mx=some v:=by
 unfold qNj at h
 grind [qEb]
theorem qHv {T:Nat→Option TI} {nx:Nat} {val:Operand→V} {ob:Nat→Option Ob} {dst:Option Nat} {op:Op} {c:Bool} {r:RB} (h:opG T nx val ob op=some (c,r)) (hc:c=true):opE T nx val ob dst op=some r:=by
 unfold opG at h
 split at h
 ·grind [opE,zZj]
 ·split at h
  ·rename_i e a b c' d et
   split at h
   ·rename_i te ee
    split at h
    ·rename_i c1 v hs
     cases h
     simp only [opE,et,ee,qNm hs hc]
     rfl
    ·cases h
   ·cases h
  ·cases h
 ·split at h
  ·rename_i t t' x y e1 e2
   obtain⟨h1,h⟩:=qQf h
   split at h
   ·rename_i e a b c' d et
    split at h
    ·rename_i te ee
     simp only [opE,e1,e2,h1,cond_true,et,ee]
     exact zZk h hc
    ·cases h
   ·cases h
  ·cases h
 ·split at h
  ·rename_i x y e1
   split at h
   ·rename_i a ea
    split at h
    ·rename_i b eb
     cases h
     simp only [opE,e1,ea,eb]
     rfl
    ·cases h
   ·cases h
  ·cases h
 ·cases h
theorem zWr {T:Nat→Option TI} {nx:Nat} {val:Operand→V} {ob:Nat→Option Ob} {dst:Option Nat} {op:Op} {es:List (List PV)} {n z:Nat} {x:List PV} (h:opX T val op=some (es,n,z)) (h1:qXs es n=some x) (h2:qWd z es=true):opE T nx val ob dst op=some ⟨.pv (.ptr x),none,false⟩:=by
 unfold opX at h
 split at h
 ·split at h
  ·rename_i zi ei
   split at h
   ·rename_i k ek
    split at h
    ·rename_i e a b c d et
     split at h
     ·rename_i te ee
      split at h
      ·rename_i es' ex
       cases h
       simp only [opE,qHl,ei,ek,et,ee,ex,h1,h2,cond_true]
       rfl
      ·cases h
     ·cases h
    ·cases h
   ·cases h
  ·cases h
 ·cases h
theorem qTv {r:RB} {k:RB→Prop} (h:brT r k):k r:=by
 unfold brT at h
 grind
theorem zZl {r:RB} {v:Bool} {k:RB→Prop} (h:zAd r v k):k r:=by
 unfold zAd at h
 grind
theorem qNn {T:Nat→Option TI} {nx:Nat} {val:Operand→V} {ob:Nat→Option Ob} {dst:Option Nat} {op:Op} {c:Bool} (h:qNk T val dst op=some c) (hc:c=true):opE T nx val ob dst op=some ⟨.undef,none,false⟩:=by
 unfold qNk at h
 split at h
 ·rename_i t x y
  split at h
  ·split at h
   ·rename_i ti et
    split at h
    ·rename_i q eq
     obtain⟨h1,h⟩:=qQf h
     have h1:=Nat.eq_of_beq_eq_true h1
     have key:∃ p l b,q = .nptr (.flg p::l)∧val y = .pv (.bool b)∧(bif b then p else true)=true:=by
      unfold zWm at h
      split at h
      ·grind
      ·cases h
     obtain⟨p,l,b,rfl,hy,hb⟩:=key
     have h2:qJz (.pv (.bool b))=some [.pv (.bool b)]:=rfl
     simp only [opE,et,qYw,eq,hy,h2,List.length_singleton,← h1,qMv,hb,cond_true]
     rfl
    ·cases h
   ·cases h
  ·cases h
 ·cases h
def OpR (ev:qZx) (s:IS) (dst:Option Nat) (op:Op) (r:RB):Prop:=opE ev.T s.nx (s.val ev.gl) s.ob.get dst op=some r∨r.new=true∧(∃ o,r.wr=some (s.nx,o)) ∧ ∃ note,qHj (qQb ev.T note (s.val ev.gl) s.ob.get dst op) r
theorem zZm {T:Nat→Option TI} {nx:Nat} {val:Operand→V} {ob:Nat→Option Ob} {dst:Option Nat} {op:Op} {c:Bool} {r:RB} (h:zAc T nx val op=some (c,r)) (hc:c=true):r.new=true∧(∃ o,r.wr=some (nx,o)) ∧ ∃ note,qHj (qQb T note val ob dst op) r:=by
 unfold zAc at h
 split at h
 ·split at h
  ·rename_i e _ _ _ _ et
   split at h
   ·rename_i te ee
    split at h
    ·rename_i es ep
     cases h
     simp only [Bool.and_eq_true] at hc
     obtain⟨⟨⟨a1,a2⟩,a3⟩,a4⟩:=hc
     refine⟨rfl,⟨_,rfl⟩,.arr nx te.size e,?_⟩
     simp only [qQb,et,ee,qYx ep]
     exact⟨_,rfl,⟨⟨Nat.eq_of_beq_eq_true a1,Nat.le_of_ble_eq_true a2,Nat.le_of_ble_eq_true a3,qYu a4⟩,rfl,rfl⟩,rfl,rfl,rfl⟩
    ·cases h
   ·cases h
  ·cases h
 ·cases h
theorem qRr {T:Nat→Option TI} {nx:Nat} {val:Operand→V} {ob:Nat→Option Ob} {dst:Option Nat} {op:Op} {c:Bool} {r:RB} (h:zZe T nx val op=some (c,r)) (hc:c=true):r.new=true∧(∃ o,r.wr=some (nx,o)) ∧ ∃ note,qHj (qQb T note val ob dst op) r:=by
 unfold zZe at h
 split at h
 ·split at h
  ·rename_i t t' x y ea eb
   cases e1:Nat.beq t t' with
   | false=>rw [e1] at h;cases h
   | true =>
    rw [e1] at h
    have e1:=Nat.eq_of_beq_eq_true e1
    subst e1
    split at h
    ·rename_i e _ _ _ _ et
     split at h
     ·rename_i te ee
      split at h
      ·rename_i ex
       split at h
       ·rename_i z zs ey
        cases h
        simp only [Bool.and_eq_true] at hc
        obtain⟨⟨⟨⟨a1,a2⟩,a3⟩,a4⟩,a5⟩:=hc
        refine⟨rfl,⟨_,rfl⟩,.grow nx te.size e,?_⟩
        simp only [qQb,ea,eb,et,ee,if_true,qQ4,ex,ey]
        exact⟨_,rfl,⟨⟨by simp,by simp,qJi a1,by simp⟩,qVv a2,qKg a3,Nat.le_of_ble_eq_true a4,Nat.le_of_ble_eq_true a5⟩,rfl,rfl,rfl⟩
       ·cases h
      ·cases h
     ·cases h
    ·cases h
  ·cases h
 ·cases h
theorem qRs {ev:qZx} {s:IS} {dst:Option Nat} {op:Op} {tp:Di} {k:RB→Di→Prop} (h:zZg ev s dst op tp k):∃ r tp',OpR ev s dst op r∧k r tp':=by
 unfold zZg at h
 split at h
 ·split at h
  ·rename_i r hr
   split at h
   ·exact⟨r,tp,.inl hr,qTv h⟩
   ·exact⟨r,tp,.inl hr,qTv h⟩
   ·exact⟨r,tp,.inl hr,h⟩
  simp_all
 ·split at h
  ·split at h
   ·rename_i c r hg
    exact⟨r,_,.inl (qHv hg h.1),h.2⟩
   ·split at h
    ·rename_i c r hg
     exact⟨r,_,.inr (zZm hg h.1),h.2⟩
    simp_all
  ·split at h
   ·rename_i c r hg
    split at h
    ·obtain⟨⟨h1,rfl⟩,h2⟩:=h
     exact⟨_,_,.inl (qHv hg h1),h2⟩
    simp_all
   simp_all
  ·split at h
   ·rename_i c r hg
    split at h
    ·obtain⟨⟨h1,rfl⟩,h2⟩:=h
     exact⟨_,_,.inl (qHv hg h1),h2⟩
    simp_all
   simp_all
  ·split at h
   ·rename_i c r hg
    split at h
    ·obtain⟨⟨h1,rfl⟩,h2⟩:=h
     exact⟨_,_,.inl (qHv hg h1),h2⟩
    simp_all
   simp_all
  ·split at h
   ·rename_i es n z hg
    exact⟨_,_,.inl (zWr hg h.1.1 h.1.2),h.2⟩
   simp_all
  ·split at h
   ·rename_i c hg
    exact⟨_,_,.inl (qNn hg h.1),h.2⟩
   simp_all
  ·split at h
   ·rename_i r hr
    exact⟨r,_,.inl hr,zZl h⟩
   simp_all
  ·exact⟨_,_,.inl h.1,h.2⟩
  ·split at h
   ·rename_i c r hg
    exact⟨r,_,.inr (qRr hg h.1),h.2⟩
   simp_all
  simp_all
theorem qHw {H:Hp} : ∀ (n:Nat) (p:PV) (v:Value),RepP H p v→RepP H (p.w n) v
 | 0,_,_,h=>h
 | n+1,p,v,h=>by
  have hl:∀ (cs:List PV) (vs:List Value),RepL H cs vs→RepL H (wl (PV.w n) cs) vs:=by
   intro cs
   induction cs with
   | nil=>simp [wl,RepL]
   | cons c r ih =>
    intro vs h
    cases vs with
    | nil=>exact h
    | cons v vs=>exact⟨qHw n c v h.1,ih vs h.2⟩
  have hn:∀ (cs:List PV),(wl (PV.w n) cs).length=cs.length:=by
   intro cs
   induction cs with
   | nil=>rfl
   | cons c r ih=>simp [wl,ih]
  unfold PV.w
  grind [qRc,RepP]
theorem qTw (f:PV→PV):∀ (cs:List PV),(wl f cs).length=cs.length
 | []=>rfl
 | c::r=>by simp [wl,qTw]
theorem qNo {H:Hp} (n:Nat):∀ (cs:List PV) (vs:List Value),RepL H cs vs→RepL H (wl (PV.w n) cs) vs
 | [],vs,_=>by simp [wl,RepL]
 | c::r,[],h=>h
 | c::r,v::vs,h=>⟨qHw n c v h.1,qNo n r vs h.2⟩
theorem qTx (n:Nat):∀ (es:List (List PV)),(wE n es).length=es.length
 | []=>rfl
 | c::r=>by simp [wE,qTx]
theorem zWs {H:Hp} (n:Nat):∀ (es:List (List PV)) (vs:List Value),RepE H es vs→RepE H (wE n es) vs
 := by intro x;induction x<;>simp_all [wE,RepE,qNo,qTw,Hp]
theorem zWt (n:Nat) {es:List (List PV)} (h:es=[]):wE n es=[]:=by subst h;rfl
theorem zAj (x:V):VLe x (wV x):=by
 cases x<;>try exact⟨fun _ _ h=>h,fun _ h=>h⟩
 rename_i p
 exact⟨fun E v h=>qHw 4 p v h,fun n h=>by grind [wV,V.names]⟩
theorem zAk (x:V):VLe x (wG x):=by
 cases x<;>try exact⟨fun _ _ h=>h,fun _ h=>h⟩
 exact⟨fun E v h=>by grind [wG,RepV],fun n h=>by grind [wG,V.names]⟩
theorem zZn (op:Op) (r:RB):VLe r.x (zWl op r).x∧(zWl op r).wr=r.wr∧(zWl op r).new=r.new:=by
 unfold zWl
 split
 ·split
  ·refine⟨⟨fun E v h => ?_,fun n h=>by grind [V.names]⟩,rfl,rfl⟩
   grind [RepV,RepP,qTx,zWt,zWs]
  ·exact⟨⟨fun _ _ h=>h,fun _ h=>h⟩,rfl,rfl⟩
 ·exact⟨⟨fun _ _ h=>h,fun _ h=>h⟩,rfl,rfl⟩
theorem qTy:∀ (l:List V),(wA l).length=l.length
 | []=>rfl
 | x::r=>by simp [wA,qTy r]
theorem qRt (x:V):(wV x).names=x.names:=by cases x<;>rfl
theorem qHx:∀ (l:List V),qQg (wA l)=qQg l
 | []=>rfl
 | x::r=>by simp [wA,qQg,qHx,qRt]
theorem qTz {E:Env} : ∀ (l:List V) (vs:List Value),RepVL E l vs→RepVL E (wA l) vs
 | [],_,h=>by simp [wA,RepVL]
 | x::r,[],h=>h
 | x::r,v::vs,h=>⟨(zAj x).1 E v h.1,qTz r vs h.2⟩
theorem AC.wA {P:Program} {gl:Nat→Option (List PV)} {f:Nat} {args:List V} {objs objs':List (Nat × Ob)} {out:Out} (h:AC P gl f (wA args) objs out objs'):AC P gl f args objs out objs' :=
 h.le (qTy args).symm (by simp [qWv,qHx]) (fun E vs hR=>qTz args vs hR)
section
variable {ev:qZx} {P:Program}
def qZ3 (ev:qZx) (P:Program) (call:qZ2):Prop:=∀ (f:Nat) (args:List V) (s:IS) (tp:Di) (k:Res→List Nat→Di→Prop),call f args s tp k→∃ r ks tp',(∃ ro o1,Called P ev.gl s f args r ks ro o1)∧k r ks tp'
theorem qJr:∀ l:List (Nat × Ob),qJw l=qQa l
 | []=>rfl
 | (n,o)::r=>by simp only [qJw,qJr r];rfl
theorem qHy {α:Type} : ∀ a b:List α,apL a b=a++b
 | [],b=>rfl
 | x::r,b=>by simp only [apL,qHy r b];rfl
theorem qGj:∀ {l:List Nat},qNl l=true→l.Nodup
 := by intro x;induction x<;>grind [List.nodup_nil,qNl,qAn,qZo]
theorem qNp {m:List Nat} : ∀ {l:List Nat},zWn m l=true→∀ n∈l,n ∉ m
 | [],_,n,hn=>by cases hn
 | k::r,h,n,hn=>by
  unfold zWn at h
  cases e:qAn m k with
  | true=>rw [e] at h;cases h
  | false =>
   rw [e] at h
   rcases List.mem_cons.1 hn with rfl|hn
   ·grind [qZo]
   ·exact qNp h n hn
theorem qGk {s:Tr Ob} : ∀ {l:List Nat} {k:List (Nat × Ob)→Prop},zWo s l k→∃ m,qQa m=l∧(∀ p∈m,s.get p.1=some p.2)∧k m
 | [],k,h=>⟨[],rfl,by simp,h⟩
 | n::r,k,h=>by
  unfold zWo at h
  split at h
  ·rename_i o ho
   obtain⟨m,h1,h2,h3⟩:=qGk h
   refine⟨(n,o)::m,by rw [← h1];rfl,fun p hp => ?_,h3⟩
   grind
  simp_all
theorem qLe:∀ {l:List (Nat × Ob)} {n:Nat} {o:Ob},(qQa l).Nodup→(n,o)∈l→qQc l n=some o
 := by intro x;induction x<;>simp_all [qQa,qQc,if_neg]<;>grind
theorem qEo {m:Nat} : ∀ {l:List Nat},qAo m l=true→∀ n∈l,n<m
 | [],_,n,h=>by cases h
 | k::r,h,n,hn=>by
  unfold qAo at h
  cases e:Nat.blt k m with
  | false=>rw [e] at h;cases h
  | true =>
   rw [e] at h
   rcases List.mem_cons.1 hn with rfl|hn
   ·simp_all
   ·exact qEo h n hn
theorem qRu {call:qZ2} (hc:qZ3 ev P call) {f:Nat} {args:List V} {s:IS} {dst:Option Nat} {tp:Di} {k:Res→List Nat→Di→Prop} (h:zZh ev P call f args s dst tp k):∃ r ks tp',(∃ ro o1,Called P ev.gl s f args r ks ro o1)∧k r ks tp':=by
 unfold zZh at h
 cases ht:qGi (zAe dst) tp with
 | none =>
  rw [ht] at h
  obtain⟨r,ks,_,h1,h2⟩:=hc _ _ _ _ _ h
  grind
 | some p =>
  obtain⟨e,tp'⟩:=p
  rw [ht] at h
  cases e with
  | r x=>exact⟨⟨.pv x,[],[],s.nx⟩,[],tp',⟨[],[],⟨h.1.wA,by simp [qQa],by simp,by simp [qQa],by simp,⟨fun _=>none,by simp⟩,by simp [qQa],by simp [qQa],Nat.le_refl _,by simp⟩⟩,h.2⟩
  | d n o' x =>
   obtain⟨hn,h⟩:=qZs h
   cases ho:s.ob.get n with
   | none=>rw [ho] at h;simp_all
   | some o =>
    rw [ho] at h
    refine⟨⟨x,[(n,o')],[],s.nx⟩,[n],tp',⟨[],[(n,o)],⟨h.1.wA,by simp [qQa],by simp [ho],by simp [qQa],by simp [qQa],⟨fun _=>some o',by simp⟩,?_,by simp [qQa],Nat.le_refl _,by simp [qQa]⟩⟩,h.2⟩
    intro m hm
    have hm:m=n:=by grind [qQa]
    subst hm
    exact⟨qJi hn,by rw [ho];rfl,by simp [qQa]⟩
  | c r ks=>grind
  | o ro ch x =>
   obtain⟨hb,h⟩:=qZs h
   have hb1:qNl (qJw ch)=true∧zWn (qJw ch) ro=true∧qAo s.nx (qJw ch)=true:=by
    simp_all
   obtain⟨l,h1,h2,h⟩:=qGk h
   obtain⟨l1,h3,h4,h⟩:=qGk h
   rw [qHy,qHy,qHy] at h
   have hk:qQa l1=qQa ch:=by rw [h3,qJr]
   have hd:=qNp hb1.2.1
   refine⟨⟨x,ch,[],s.nx⟩,ro++qJw ch,tp',⟨l,l1,⟨by simpa using h.1.wA,fun n hn => ?_,fun p hp => ?_,fun n hn => ?_,fun n hn=>by rw [← hk];exact hn,⟨qQc ch,fun n o hn => ?_⟩,fun n hn => ?_,by simp [qQa],Nat.le_refl _,fun n hn => ?_⟩⟩,h.2⟩
   ·simp_all
   ·grind
   ·rw [h1,h3] at hn;exact hn
   ·grind [qGj,qJr,qLe]
   ·have hn':n∈qQa ch:=hn
    refine⟨qEo hb1.2.2 n (by rw [qJr];exact hn'),?_,by rw [hk];exact hn'⟩
    rw [← hk] at hn'
    obtain⟨o,ho⟩:=keysO_mem.1 hn'
    rw [h4 _ ho]
    rfl
   grind [qQt]
  | n tp1 =>
   obtain⟨r,ks,_,h1,h2⟩:=hc _ _ _ _ _ h
   grind
  | i e=>simp_all
  | ok=>simp_all
  | z n=>simp_all
  | y n=>simp_all
  | v p=>simp_all
  | s=>simp_all
  | fb n b=>simp_all
  | b v=>simp_all
  | l k e s=>simp_all
  | f n ps=>simp_all
  | w r=>simp_all
  | g=>simp_all
open Classical in
noncomputable def zX9 (f:Nat) (args:List V) (s:IS) (r:Res) (ks:List Nat):Call:=fun f' args' s'=>if f'=f∧args'=args∧s'=s then some (r,ks) else none
theorem qNq (f:Nat) (args:List V) (s:IS) (r:Res) (ks:List Nat):zX9 f args s r ks f args s=some (r,ks):=by simp [zX9]
theorem zZo {f:Nat} {args:List V} {s:IS} {r:Res} {ks:List Nat} (h:∃ ro o1,Called P ev.gl s f args r ks ro o1):qEl ev P (zX9 f args s r ks):=by
 intro f' args' s' r' ks' e
 grind [zX9]
theorem zWu:qEl ev P (fun _ _ _=>none):=fun _ _ _ _ _ e=>by cases e
structure DoFact (ev:qZx) (P:Program) (bs:Nat) (o:Oper) (s s1:IS) (tc:Tc):Prop where
 inv:∀ sub,Inv bs sub s→Inv bs sub s1
 ok:∀ X:Env1,X.P=P→X.T=ev.T→X.gl=ev.gl→∀ σ,Rel s σ→∃ e,OpW X o σ e∧Rel s1 (σ.eff o.dst e)∧qRn e tc
theorem DoFact.of {call:Call} (hg:qEl ev P call) {bs:Nat} {o:Oper} {s s1:IS} {tc:Tc} (h:doI ev call bs o s=some (s1,tc)):DoFact ev P bs o s s1 tc :=
 ⟨fun sub hI=>zZd hg h hI,fun X hP hT hgl σ hR=>zWk hg h hP hT hgl hR⟩
theorem qRv {bs:Nat} {s:IS} {d:Option Nat} {r q:RB} (h:q.wr=r.wr) (h':q.new=r.new):s.app bs d q=⟨qYy s.sl d q.x,(s.app bs d r).ob,(s.app bs d r).nx,(s.app bs d r).dt⟩:=by
 grind [IS.app]
theorem qNr {bs:Nat} {s:IS} {d:Option Nat} {r:RB} : (s.app bs d r).sl=qYy s.sl d r.x:=by
 grind [IS.app]
theorem DoFact.weak {bs:Nat} {o:Oper} {s:IS} {r q:RB} {tc:Tc} (h:DoFact ev P bs o s (s.app bs o.dst r) tc) (hx:VLe r.x q.x) (hw:q.wr=r.wr) (hn:q.new=r.new):DoFact ev P bs o s (s.app bs o.dst q) tc:=by
 rw [qRv hw hn]
 refine⟨fun sub hI=>(h.inv sub hI).slot _,fun X hP hT hgl σ hR => ?_⟩
 obtain⟨⟨x,wr,nw,rd⟩,h1,h2,h3⟩:=h.ok X hP hT hgl σ hR
 cases hd:o.dst with
 | none =>
  refine⟨⟨x,wr,nw,rd⟩,h1,?_,h3⟩
  have:=h2
  rw [hd] at this
  refine⟨fun t => ?_,this.ob,this.us⟩
  have:=this.sl t
  rw [qNr] at this
  exact this
 | some d =>
  have hsl:=h2.sl d
  rw [hd,qNr] at hsl
  have hxe:x=r.x:=by
   simp only [St.eff,qWa,qYy,Tr.get_put,if_true] at hsl
   exact hsl
  subst hxe
  refine⟨⟨q.x,wr,nw,rd⟩,.weak _ h1 hx,?_,h3⟩
  rw [hd] at h2
  refine⟨fun t => ?_,h2.ob,h2.us⟩
  have:=h2.sl t
  rw [qNr] at this
  grind [St.eff,qWa,qYy,Tr.get_put,Option.some.injEq]
theorem qT0 {call:qZ2} (hc:qZ3 ev P call) {bs:Nat} {o:Oper} {s:IS} {tp:Di} {k:IS→Tc→Di→Prop} (h:doT ev P call bs o s tp k):∃ s1 tc tp',DoFact ev P bs o s s1 tc∧k s1 tc tp':=by
 unfold doT at h
 split at h
 ·rename_i f args hf
  obtain⟨r,ks,tp',hC,hk⟩:=qRu hc h
  refine⟨_,_,tp',DoFact.of (zZo (f:=f) (args:=args) (s:=s) (r:=r) (ks:=ks) hC) ?_,hk⟩
  grind [doI,qNq,Go.Lg.callR]
 ·have key:∀ r,opE ev.T s.nx (s.val ev.gl) s.ob.get o.dst o.op=some r→DoFact ev P bs o s (s.app bs o.dst r) ⟨match r.wr with|some (n,_)=>[n]|none=>[],rdN (s.val ev.gl) o.op⟩:=fun r hr=>by
   refine DoFact.of zWu (s1:=s.app bs o.dst r) ?_
   grind [doI]
  split at h
  ·split at h
   ·rename_i r hr
    exact⟨_,_,_,DoFact.weak (r:=r) (q:=⟨wG r.x,r.wr,r.new⟩) (key r hr) (zAk r.x) rfl rfl,h⟩
   simp_all
  obtain⟨r,tp',hr,hk⟩:=qRs h
  obtain⟨h1,h2,h3⟩:=zZn o.op r
  refine⟨_,_,tp',DoFact.weak (r:=r) ?_ h1 h2 h3,hk⟩
  rcases hr with hr|⟨hn,hw,note,hG⟩
  ·grind
  ·exact⟨fun sub hI=>qNg hI hn hw _,fun X hP hT hgl σ hR=>qNh hG (fun _=>hw) hT hgl hR⟩
structure qHz (ev:qZx) (P:Program) (nt bs:Nat) (all:List Oper) (o:Oper) (s s1:IS) (tc:Tc):Prop where
 inv:∀ sub,Inv bs sub s→Inv bs sub s1
 ok:∀ X:Env1,X.P=P→X.T=ev.T→X.gl=ev.gl→X.nt=nt→∀ σ,Rel s σ→∃ e,Txt X all o σ e∧Rel s1 (σ.eff o.dst e)∧qRn e tc
theorem qH0 {nt:Nat} {o:Oper} (h:zY4 nt o.dst=true) {X:Env1} (hnt:X.nt=nt):qP2 X o.dst:=by
 unfold zY4 at h
 unfold qP2
 split at h
 ·simp_all
 simp_all
theorem qNs {call:qZ2} (hc:qZ3 ev P call) {nt bs:Nat} {all:List Oper} {o:Oper} {s:IS} {tp:Di} {k:IS→Tc→Di→Prop} (h:opT ev P call nt bs all o s tp k):∃ s1 tc tp',qHz ev P nt bs all o s s1 tc∧k s1 tc tp':=by
 obtain⟨hd,h⟩:=qZs h
 have hskip:qRn qXr ⟨[],[]⟩:=⟨by simp [qXr,Eff.wn],by simp [qXr]⟩
 split at h
 ·rename_i hg
  obtain⟨s1,tc,tp',h1,h2⟩:=qT0 hc h
  refine⟨s1,tc,tp',⟨h1.inv,fun X hP hT hgl hnt σ hR => ?_⟩,h2⟩
  obtain⟨e,h3,h4,h5⟩:=h1.ok X hP hT hgl σ hR
  exact⟨e,⟨qH0 hd hnt,.inl ⟨hg,h3⟩⟩,h4,h5⟩
 ·rename_i j want hg
  split at h
  ·rename_i b hb
   have key:(b=want→doT ev P call bs o s tp k)→(b≠want→k ⟨qYy s.sl o.dst qI9,s.ob,s.nx,s.dt⟩ ⟨[],[]⟩ tp)→∃ s1 tc tp',qHz ev P nt bs all o s s1 tc∧k s1 tc tp':=by
    intro h1 h2
    by_cases e:b=want
    ·obtain⟨s1,tc,tp',h4,h5⟩:=qT0 hc (h1 e)
     refine⟨s1,tc,tp',⟨h4.inv,fun X hP hT hgl hnt σ hR => ?_⟩,h5⟩
     obtain⟨q,h6,h7,h8⟩:=h4.ok X hP hT hgl σ hR
     exact⟨q,⟨qH0 hd hnt,.inr (.inl ⟨j,want,b,hg,by rw [← qNi hR];exact hb,.inl ⟨e,h6⟩⟩)⟩,h7,h8⟩
    ·exact⟨_,_,tp,⟨fun sub hI=>hI.slot _,fun X hP hT hgl hnt σ hR=>⟨qXr,⟨qH0 hd hnt,.inr (.inl ⟨j,want,b,hg,by rw [← qNi hR];exact hb,.inr ⟨e,rfl⟩⟩)⟩,qHs hR _,hskip⟩⟩,h2 e⟩
   grind
  ·rename_i hb
   exact⟨_,_,tp,⟨fun sub hI=>hI.slot _,fun X hP hT hgl hnt σ hR=>⟨qXr,⟨qH0 hd hnt,.inr (.inr ⟨j,want,hg,by rw [← qNi hR];exact hb,rfl⟩)⟩,qHs hR _,hskip⟩⟩,h⟩
  simp_all
inductive OpsR (ev:qZx) (P:Program) (nt bs:Nat) (all:List Oper):List Oper→IS→List Tc→IS→List Tc→Prop
 | nil (s:IS) (tr:List Tc):OpsR ev P nt bs all [] s tr s tr
 | cons {o:Oper} {l:List Oper} {s s1 s2:IS} {tc:Tc} {tr tr2:List Tc} (h:qHz ev P nt bs all o s s1 tc) (h':OpsR ev P nt bs all l s1 (tc::tr) s2 tr2):OpsR ev P nt bs all (o::l) s tr s2 tr2
theorem qNt {call:qZ2} (hc:qZ3 ev P call) {nt bs:Nat} {all:List Oper} : ∀ (l:List Oper) {s:IS} {tr:List Tc} {tp:Di} {k:IS→List Tc→Di→Prop},zAf ev P call nt bs all l s tr tp k→∃ s1 tr1 tp',OpsR ev P nt bs all l s tr s1 tr1∧k s1 tr1 tp'
 | [],s,tr,tp,k,h=>⟨s,tr,tp,.nil s tr,h⟩
 | o::l,s,tr,tp,k,h=>by
  obtain⟨s1,tc,tp',h1,h3⟩:=qNs hc h
  obtain⟨s2,tr2,tp2,h4,h5⟩:=qNt hc l h3
  exact⟨s2,tr2,tp2,.cons h1 h4,h5⟩
theorem OpsR.inv {nt bs:Nat} {all l:List Oper} {s s1:IS} {tr tr1:List Tc} (h:OpsR ev P nt bs all l s tr s1 tr1) {sub:Tr Ob} (hI:Inv bs sub s):Inv bs sub s1:=by
 induction h with
 | nil=>exact hI
 | cons h _ ih=>exact ih (h.inv sub hI)
theorem OpsR.ok {nt bs:Nat} {all:List Oper} {X:Env1} (hP:X.P=P) (hXT:X.T=ev.T) (hgl:X.gl=ev.gl) (hnt:X.nt=nt) {l:List Oper} {s s1:IS} {tr tr1:List Tc} (h:OpsR ev P nt bs all l s tr s1 tr1):∀ {σ:St},Rel s σ →
  ∃ es tcs,es.length=l.length∧qVc X all l es σ∧Rel s1 (qQl (fun _=>true) 0 (qWm l es) σ)∧tr1=tcs.reverse++tr∧TcsOK es tcs:=by
 induction h with
 | nil s tr=>intro σ hR;exact⟨[],[],rfl,trivial,hR,rfl,rfl,by simp⟩
 | cons h1 _ ih =>
  intro σ hR
  obtain⟨e,h2,h3,h4⟩:=h1.ok X hP hXT hgl hnt σ hR
  obtain⟨es,tcs,h5,h6,h7,h8,h9⟩:=ih h3
  refine⟨e::es,_::tcs,by simp [h5],⟨h2,h6⟩,?_,by simp [h8],h9.cons h4⟩
  simp only [qWm,List.map_cons,List.zip_cons_cons,qQl,if_true]
  rw [qK1]
  exact h7
theorem AWP.postX {X:Env1} {c:Code} {σ:St} {Q Q':AEx→St→Prop} (h:AWP X c σ Q) (hq:∀ ae σ',Q ae σ'→(∃ σ'',WkX X σ' σ''∧Q' ae σ'') ∧ ∀ p,ae ≠ .panic p):AWP X c σ Q':=by
 intro C E a w hC hG
 refine wp_mono (h C E a w hC hG) ?_
 rintro e a' w' ⟨E',σ',ae,hG',hr,hqq⟩
 obtain⟨⟨σ'',hw,hq'⟩,hp⟩:=hq ae σ' hqq
 obtain⟨E'',hG''⟩:=hw C E' a' w' hC hG'
 refine⟨E'',σ'',ae,hG'',?_,hq'⟩
 cases ae with
 | panic p=>simp_all
 | _=>exact hr
theorem AWP.wkX {X:Env1} {c:Code} {σ σ':St} {Q:AEx→St→Prop} (hw:WkX X σ σ') (h:AWP X c σ' Q):AWP X c σ Q:=by
 intro C E a w hC hG
 obtain⟨E',h'⟩:=hw C E a w hC hG
 exact h C E' a w hC h'
theorem zZp {call:qZ2} (hc:qZ3 ev P call) {nt bs id:Nat} {ops:Array Oper} {d:Bool} {s:IS} {tp:Di} {k:IS→Di→Prop} (h:zCm ev P call nt bs ops.toList d s tp k):∃ s1 tp',Reach ev P nt bs (.region id ops d) s .normal s1∧k s1 tp':=by
 obtain⟨s1,tr,tp',h1,h2⟩:=qNt hc _ h
 have hinv:∀ sub,Inv bs sub s→Inv bs sub s1:=fun sub hI=>h1.inv (qX5 (qXv ops.toList) hI)
 cases d with
 | false =>
  refine⟨s1,tp',⟨hinv,fun X hX σ hR => ?_⟩,h2⟩
  obtain⟨σ0,hw,hR0⟩:=qCq (bs:=bs) (qXv ops.toList) hR
  obtain⟨es,tcs,h3,h4,h5,h6,h7⟩:=h1.ok hX.P hX.T hX.gl hX.nt hR0
  exact AWP.wk hw (AWP.seqR h4 ⟨rfl,h5⟩)
 | true =>
  obtain⟨hs,h2⟩:=qZs h2
  have hq:(qEg tr=true∨qLa ops.toList tr.reverse=true)∧k s1 tp':=by
   grind [qZs]
  refine⟨s1,tp',⟨hinv,fun X hX σ hR => ?_⟩,hq.2⟩
  obtain⟨σ0,hw,hR0⟩:=qCq (bs:=bs) (qXv ops.toList) hR
  obtain⟨es,tcs,h3,h4,h5,h6,h7⟩:=h1.ok hX.P hX.T hX.gl hX.nt hR0
  refine AWP.wk hw (AWP.anyR h3 h4 (qHu hs ?_ h3 h7) ⟨rfl,h5⟩)
  simp_all
end
theorem AWP.condT {X:Env1} {c:Operand} {x y:Code} {σ:St} {Q:AEx→St→Prop} {b:Bool} (hv:σ.val X.gl c = .pv (.bool b)) (hx:b=true→AWP X x σ Q) (hy:b=false→AWP X y σ Q):AWP X (.cond c x y) σ Q:=by
 intro C E a w hC hG
 have h:=qQd hG hC.glob c
 rw [hv] at h
 exact wp_cond_split (qZe h) (fun hb=>hx hb C E a w hC hG) (fun hb=>hy hb C E a w hC hG)
theorem AWP.scopeT {X:Env1} {c:Code} {σ:St} {Q:AEx→St→Prop} (h:AWP X c σ Q):AWP X (.scope c) σ Q:=by
 intro C E a w hC hG
 refine wp_scope_straight (wp_mono (h C E a w hC hG) ?_)
 rintro e a' w' ⟨E',σ',ae,hG',hr,hq⟩
 have hp:qF5 C Q e a' w':=⟨E',σ',ae,hG',hr,hq⟩
 cases ae with
 | normal=>cases hr;exact hp
 | exit i=>cases hr;exact hp
 | ret=>cases hr;exact hp
 | panic p=>obtain⟨v,rfl,hv⟩:=hr;exact hp
theorem qQ2 {c d:Bool} (h:(bif c then d else false)=true):c=true∧d=true:=by
 simp_all
theorem qKi {m:Nat} : ∀ {l:List Nat},qAo m l=true→∀ n∈l,n<m
 | [],_,_,h=>by cases h
 | k::r,h,n,hn=>by
  obtain⟨h1,h2⟩:=qQ2 h
  rcases List.mem_cons.1 hn with rfl|hn
  ·simp_all
  ·exact qKi h2 n hn
theorem qCr:∀ {l m:List Nat},zVs l m=true→∀ n∈l,n∈m
 | [],_,_,_,h=>by cases h
 | k::r,m,h,n,hn=>by
  obtain⟨h1,h2⟩:=qQ2 h
  rcases List.mem_cons.1 hn with rfl|hn
  ·grind [qZo]
  ·exact qCr h2 n hn
theorem qT1 {m:Nat} {s:Tr V} : ∀ {l:List Nat},slB m s l=true→∀ t∈l,∀ v,s.get t=some v→∀ n∈v.names,n<m
 | [],_,_,h=>by cases h
 | k::r,h,t,ht=>by
  obtain⟨h1,h2⟩:=qQ2 h
  rcases List.mem_cons.1 ht with rfl|ht
  ·intro v hv
   rw [hv] at h1
   exact qKi h1
  ·exact qT1 h2 t ht
theorem qGl {m:Nat} {s:Tr Ob} : ∀ {l:List Nat},zY7 m s l=true→∀ t∈l,t<m ∧ ∀ o,s.get t=some o→(∃ a b c es,o = .arr a b c es)∨(∃ c es,o = .smap c es) ∨ ∀ n∈o.names,n<m
 | [],_,_,h=>by cases h
 | k::r,h,t,ht=>by
  obtain⟨h1,h2⟩:=qQ2 h
  obtain⟨h3,h4⟩:=qQ2 h2
  rcases List.mem_cons.1 ht with rfl|ht
  ·refine⟨qJi h1,?_⟩
   intro v hv
   rw [hv] at h3
   cases v<;>first|exact .inl ⟨_,_,_,_,rfl⟩|exact .inr (.inl ⟨_,_,rfl⟩)|exact .inr (.inr (qKi h3))
  ·exact qGl h4 t ht
structure KN (s:Tr Ob) (l:List Nat):Prop where
 a:∀ t∈l,∀ a b c es,s.get t=some (.arr a b c es)→qQw es=[]
 m:∀ t∈l,∀ c es,s.get t=some (.smap c es)→qZm es=[]
theorem qVg {s:Tr Ob} {R:Prop} : ∀ {l:List Nat},qLs s l R→R∧KN s l
 | [],h=>⟨h,⟨(fun t ht=>by cases ht),(fun t ht=>by cases ht)⟩⟩
 | k::r,h=>by
  unfold qLs at h
  split at h
  ·rename_i es ho
   obtain⟨h1,h2⟩:=qVg h.2
   refine⟨h1,⟨fun t ht a b c es' he => ?_,fun t ht c es' he => ?_⟩⟩
   ·rcases List.mem_cons.1 ht with rfl|ht
    ·simp_all
    ·exact h2.a t ht a b c es' he
   ·rcases List.mem_cons.1 ht with rfl|ht
    ·rw [ho] at he;cases he
    ·exact h2.m t ht c es' he
  ·rename_i es ho
   obtain⟨h1,h2⟩:=qVg h.2
   refine⟨h1,⟨fun t ht a b c es' he => ?_,fun t ht c es' he => ?_⟩⟩
   ·rcases List.mem_cons.1 ht with rfl|ht
    ·rw [ho] at he;cases he
    ·exact h2.a t ht a b c es' he
   ·rcases List.mem_cons.1 ht with rfl|ht
    ·simp_all
    ·exact h2.m t ht c es' he
  ·obtain⟨h1,h2⟩:=qVg h
   refine⟨h1,⟨fun t ht a b c es' he => ?_,fun t ht c es' he => ?_⟩⟩
   ·rcases List.mem_cons.1 ht with rfl|ht
    ·grind
    ·exact h2.a t ht a b c es' he
   ·rcases List.mem_cons.1 ht with rfl|ht
    ·simp_all
    ·exact h2.m t ht c es' he
theorem qNu {on:List Nat} {s:Tr Ob} : ∀ {k:Nat},zY8 on s k=true→∀ n,n<k→n∈on∨s.get n=none
 | 0,_,_,h=>absurd h (Nat.not_lt_zero _)
 | k+1,h,n,hn=>by
  obtain⟨h1,h2⟩:=qQ2 h
  by_cases e:n=k
  ·subst e
   cases e1:qAn on n with
   | true=>grind [qZo]
   | false =>
    rw [e1] at h1
    refine .inr ?_
    cases e2:s.get n with
    | none=>rfl
    | some o=>rw [e2] at h1;cases h1
  ·exact qNu h2 n (by omega)
theorem qCs {α:Type} (s:Tr α):∀ (l:List Nat) (t:Tr α) (n:Nat),(mkT s l t).get n=if n∈l then s.get n else t.get n
 := by intro x;induction x<;>grind [mkT,Tr.get_put]
def oV1:Option V→V
 | some v=>v
 | none => .undef
def qT2 (s:Tr V):List Nat→List (Nat × V)
 | []=>[]
 | t::r=>(t,oV1 (s.get t))::qT2 s r
def qPl (s:Tr Ob):List Nat→List (Nat × Ob)
 | []=>[]
 | n::r=>match s.get n with
  | some o=>(n,o)::qPl s r
  | none=>qPl s r
theorem qRw (s:Tr V):∀ (l:List Nat) (t:Nat),qZi (qT2 s l) t=if t∈l then oV1 (s.get t) else .undef
 := by intro x;induction x<;>grind [qT2,qZi,oV1]
theorem qRx (s:Tr Ob):∀ (l:List Nat) (t:Nat),qQc (qPl s l) t=if t∈l then s.get t else none
 := by intro x;induction x<;>grind [qPl,qQc]
theorem qBf {s:Tr V} : ∀ {l:List Nat} {n:Nat},n∈qZn (qT2 s l)→∃ t∈l,∃ v,s.get t=some v∧n∈v.names
 | [],n,h=>by cases h
 | k::r,n,h=>by
  simp only [qT2,qZn,List.mem_append] at h
  rcases h with h|h
  ·cases e:s.get k with
   | none=>rw [e] at h;simp [oV1,V.names] at h
   | some v=>rw [e] at h;exact⟨k,by simp,v,e,h⟩
  ·obtain⟨t,h1,h2⟩:=qBf h
   exact⟨t,by simp [h1],h2⟩
theorem qLf {s:Tr Ob} : ∀ {l:List Nat} {n:Nat},n∈qZg (qPl s l)→∃ t∈l,∃ o,s.get t=some o∧(n=t∨n∈o.names)
 := by intro x;induction x<;>grind [qPl,qZg]
structure KpOK (k:Kp) (bs:Nat) (s:IS):Prop where
 le:bs≤k.nx
 sl:∀ t∈k.sl,∀ v,s.sl.get t=some v→∀ n∈v.names,n<k.nx
 on:∀ t∈k.on,t<k.nx ∧ ∀ o,s.ob.get t=some o→∀ n∈o.names,n<k.nx
 old:∀ n,n<bs→n∈k.on∨s.ob.get n=none
 dt:∀ n∈s.dt,n∈k.dt
 db:∀ n∈k.dt,n<bs
theorem qK2 {k:Kp} {bs:Nat} {s:IS} (h:qTr k bs s=true) (ha:KN s.ob k.on):KpOK k bs s:=by
 obtain⟨h1,h⟩:=qQ2 h
 obtain⟨h2,h⟩:=qQ2 h
 obtain⟨h3,h⟩:=qQ2 h
 obtain⟨h4,h⟩:=qQ2 h
 obtain⟨h5,h⟩:=qQ2 h
 refine⟨Nat.le_of_ble_eq_true h1,qT1 h2,fun t ht=>⟨(qGl h3 t ht).1,fun o ho n hn => ?_⟩,qNu h4,qCr h5,qKi h⟩
 rcases (qGl h3 t ht).2 o ho with ⟨a,b,c,es,rfl⟩|⟨c,es,rfl⟩|h6
 ·have:n∈qQw es:=hn
  rw [ha.a t ht a b c es ho] at this
  cases this
 ·have:n∈qZm es:=hn
  rw [ha.m t ht c es ho] at this
  cases this
 simp_all
theorem KpOK.inv {k:Kp} {bs:Nat} {s:IS} (h:KpOK k bs s) {sub:Tr Ob} (hI:Inv bs sub s):Inv bs sub (kpT k s):=by
 refine⟨h.le,fun n hn hd => ?_,fun n hn hs => ?_,hI.names,h.db⟩
 ·have:=hI.same n hn (fun hd'=>hd (h.dt n hd'))
  show (mkT s.ob k.on .nil).get n=_
  rw [qCs]
  rcases h.old n hn with h1|h1
  ·rw [if_pos h1];exact this
  ·by_cases h2:n∈k.on
   ·rw [if_pos h2];exact this
   ·rw [if_neg h2,← this,h1];rfl
 ·have hs:((mkT s.ob k.on .nil).get n).isSome=true:=hs
  rw [qCs] at hs
  split at hs
  ·exact hI.old n hn hs
  ·cases hs
theorem KpOK.wk {k:Kp} {bs:Nat} {s:IS} (h:KpOK k bs s) {ev:qZx} {P:Program} {nt:Nat} {X:Env1} (hX:HX X ev P nt bs) {σ:St} (hR:Rel s σ):∃ τ,WkX X σ τ∧Rel (kpT k s) τ:=by
 refine⟨⟨qT2 s.sl k.sl,qPl s.ob k.on,List.range k.nx⟩,fun C E a w hC hG=>⟨E,Weak.ga (X:=X) (σ:=σ) ⟨?_,?_,?_⟩ hC hG⟩,⟨fun t => ?_,fun n => ?_,fun n hn => ?_⟩⟩
 ·have:∀ (l:List Nat),qB3 (qT2 s.sl l) σ.slots:=by
   intro l
   induction l with
   | nil=>trivial
   | cons t r ih=>exact⟨by rw [hR.sl];cases s.sl.get t<;>rfl,ih⟩
  simp_all
 ·refine qGh fun p hp => ?_
  have:∀ (l:List Nat),p∈qPl s.ob l→s.ob.get p.1=some p.2:=by
   intro l
   induction l with
   | nil=>intro h;cases h
   | cons t r ih =>
    grind [qPl]
  rw [hR.ob]
  grind
 ·refine qCi fun n hn => ?_
  rw [List.mem_append,List.mem_append] at hn
  refine List.mem_range.2 ?_
  rcases hn with (hn|hn)|hn
  ·obtain⟨t,h1,v,h2,h3⟩:=qBf hn
   exact h.sl t h1 v h2 n h3
  ·obtain⟨t,h1,o,h2,h3⟩:=qLf hn
   rcases h3 with rfl|h3
   ·exact (h.on n h1).1
   ·exact (h.on t h1).2 o h2 n h3
  ·have:=hX.given n hn
   have:=h.le
   omega
 ·show qZi (qT2 s.sl k.sl) t=(match (mkT s.sl k.sl .nil).get t with|some v=>v|none => .undef)
  rw [qRw,qCs]
  by_cases h1:t∈k.sl
  ·rw [if_pos h1,if_pos h1];cases s.sl.get t<;>rfl
  ·rw [if_neg h1,if_neg h1];rfl
 ·show qQc (qPl s.ob k.on) n=(mkT s.ob k.on .nil).get n
  rw [qRx,qCs]
  rfl
 ·exact List.mem_range.1 hn
section
variable {ev:qZx} {P:Program}
theorem AE.x_np (e:AE):∀ p,AE.x e ≠ .panic p:=by cases e<;>simp [AE.x]
theorem Reach.seq {nt bs:Nat} {a b:Code} {s s1 s2:IS} {e:AE} (h:Reach ev P nt bs a s .normal s1) (h':Reach ev P nt bs b s1 e s2):Reach ev P nt bs (.seq a b) s e s2:=by
 refine⟨fun sub hI=>h'.inv sub (h.inv sub hI),fun X hX σ hR=>AWP.seq (AWP.mono (h.awp X hX σ hR) ?_)⟩
 rintro ae σ' ⟨rfl,hR'⟩
 exact h'.awp X hX σ' hR'
theorem Reach.seq' {nt bs:Nat} {a b:Code} {s s1:IS} {e:AE} (he:e ≠ .normal) (h:Reach ev P nt bs a s e s1):Reach ev P nt bs (.seq a b) s e s1:=by
 refine⟨h.inv,fun X hX σ hR=>AWP.seq (AWP.mono (h.awp X hX σ hR) ?_)⟩
 rintro ae σ' ⟨rfl,hR'⟩
 cases e with
 | normal=>simp_all
 | exit i=>exact⟨rfl,hR'⟩
 | ret=>exact⟨rfl,hR'⟩
theorem LoopIs.reach {nt bs:Nat} {b:Code} {s s':IS} {e:AE} (h:LoopIs ev P nt bs b s e s'):Reach ev P nt bs (.loop b) s e s':=by
 obtain⟨hi,m,h⟩:=h
 exact⟨hi,fun X hX σ hR=>zQp m (h X hX σ hR)⟩
theorem LoopIs.round {nt bs:Nat} {b:Code} {s s1 s':IS} {e:AE} (h:Reach ev P nt bs b s .normal s1) (h':LoopIs ev P nt bs b s1 e s'):LoopIs ev P nt bs b s e s':=by
 obtain⟨hi,m,h'⟩:=h'
 refine⟨fun sub hI=>hi sub (h.inv sub hI),m+1,fun X hX σ hR=>qHg (AWP.mono (h.awp X hX σ hR) ?_)⟩
 rintro ae σ' ⟨rfl,hR'⟩
 exact h' X hX σ' hR'
theorem LoopIs.last {nt bs:Nat} {b:Code} {s s':IS} {e:AE} (he:e ≠ .normal) (h:Reach ev P nt bs b s e s'):LoopIs ev P nt bs b s e s':=by
 refine⟨h.inv,1,fun X hX σ hR=>qHg (AWP.mono (h.awp X hX σ hR) ?_)⟩
 rintro ae σ' ⟨rfl,hR'⟩
 cases e with
 | normal=>simp_all
 | exit i=>exact⟨rfl,hR'⟩
 | ret=>exact⟨rfl,hR'⟩
theorem Reach.keep {nt bs:Nat} {c:Code} {s s':IS} {e:AE} {k:Kp} (hk:KpOK k bs s') (h:Reach ev P nt bs c s e s'):Reach ev P nt bs c s e (kpT k s'):=by
 refine⟨fun sub hI=>hk.inv (h.inv sub hI),fun X hX σ hR=>AWP.postX (h.awp X hX σ hR) ?_⟩
 rintro ae σ' ⟨rfl,hR'⟩
 obtain⟨τ,h1,h2⟩:=hk.wk hX hR'
 exact⟨⟨τ,h1,rfl,h2⟩,AE.x_np e⟩
theorem Reach.kept {nt bs:Nat} {c:Code} {s s':IS} {e:AE} {k:Kp} (hk:KpOK k bs s) (h:Reach ev P nt bs c (kpT k s) e s'):Reach ev P nt bs c s e s':=by
 refine⟨fun sub hI=>h.inv sub (hk.inv hI),fun X hX σ hR => ?_⟩
 obtain⟨τ,h1,h2⟩:=hk.wk hX hR
 exact AWP.wkX h1 (h.awp X hX τ h2)
theorem zZq {K:List PV→PV} {n:Nat} {ps:List PV} : ∀ {x:V},n ∉ x.names→qPh K n ps x=x:=by
 intro x h
 cases x<;>simp only [qPh]
 grind [V.names]
theorem qNv {K:List PV→PV} {n:Nat} {ps:List PV} : ∀ {cs:List V},n ∉ qQg cs→qMn K n ps cs=cs
 | [],_=>rfl
 | c::cs,h=>by
  simp only [qQg,List.mem_append,not_or] at h
  simp only [qMn]
  rw [zZq h.1,qNv h.2]
theorem qRy {K:List PV→PV} {n:Nat} {ps:List PV} {o:Ob} (h:n ∉ o.names):qB5 K n ps o=o:=by
 cases o with
 | box cs=>simp only [qB5];rw [qNv h]
 | _=>rfl
theorem qRz {bs:Nat} {sub:Tr Ob} {s:IS} (hI:Inv bs sub s) {n:Nat} (hn:¬ n<bs) (K:List PV→PV) (ps:List PV):Inv bs sub (zZf K n ps s):=by
 have hget:∀ m,((s.ob.put n none).map (qB5 K n ps)).get m=if m=n then none else (s.ob.get m).map (qB5 K n ps):=by
  intro m
  rw [Tr.get_map,Tr.get_put]
  split<;>rfl
 refine⟨hI.le,?_,?_,hI.names,hI.dts⟩
 ·intro m hm hd
  show ((s.ob.put n none).map (qB5 K n ps)).get m=_
  rw [hget m,if_neg (by omega),hI.same m hm hd]
  cases q:sub.get m with
  | none=>rfl
  | some o =>
   simp only [Option.map_some]
   rw [qRy]
   intro hk
   exact hn ((hI.names m o q).2 n hk)
 ·intro m hm hs
  have hs:(((s.ob.put n none).map (qB5 K n ps)).get m).isSome=true:=hs
  rw [hget m,if_neg (by omega)] at hs
  exact hI.old m hm (by simp_all)
theorem zZr {s:IS} {σ:St} (hR:Rel s σ) {n:Nat} {qs ps:List PV} {K:List PV→PV} (ho:s.ob.get n=some (.box (pvL qs))) (hc:qD6 K qs ps):∃ σ',Wk σ σ'∧Rel (zZf K n ps s) σ':=by
 have ho':qQc σ.objs n=some (.box (pvL qs)):=(hR.ob n).trans ho
 refine⟨σ.frb K n ps,fun C E a w hG=>hG.frb ho' hc,⟨?_,?_,hR.us⟩⟩
 ·intro t
  simp only [St.frb,zZf,qB6,hR.sl,Tr.get_map]
  cases s.sl.get t<;>rfl
 ·intro m
  simp only [St.frb,zZf,qWc,hR.ob,Tr.get_map,Tr.get_put]
  split<;>rfl
theorem qH1 {b:Bool} : ∀ {qs ps:List PV},qRp b qs=some ps→flgs qs ps
 | [],_,h=>by cases h
 | [c],ps,h=>by
  cases c with
  | bool x=>cases x with
   | false =>
    cases h
    exact⟨fun e=>(by cases e),trivial⟩
   | true=>cases h
  | _=>cases h
 | c::d::r,ps,h=>by
  have key:(∀ x,c ≠ .flg x)→(match qRp b (d::r) with|some l=>some (c::l)|none=>none)=some ps→flgs (c::d::r) ps:=by
   intro hc h
   split at h
   ·rename_i l hl
    cases h
    rw [flgs.eq_3 _ _ _ _ (fun c b _ e=>hc b e)]
    exact⟨⟨rfl,fun b e=>hc b e⟩,qH1 hl⟩
   ·cases h
  cases c with
  | flg x=>cases h
  | _=>exact key (fun x e=>by cases e) h
theorem qR0 (qs:List PV):qD6 PV.ptr qs (wl (PV.w 4) qs):=by
 intro H cur r
 have r:=qNo 4 qs cur r
 refine⟨cur.map sn,Msk.sn cur,fun _ _=>trivial,fun b H' hh e off => ?_⟩
 exact⟨b,off,rfl,by rw [e];exact RepL.drop off (RepL.mono hh (wl (PV.w 4) qs) _ _ List.prefix_rfl r.sn)⟩
theorem qEp {bs n:Nat} {b:Option Bool} {s s':IS} (h:fbI bs n b s=some s'):¬ n<bs ∧ ∃ K qs ps,s.ob.get n=some (.box (pvL qs))∧qD6 K qs ps∧s'=zZf K n ps s:=by
 unfold fbI at h
 cases e:Nat.blt n bs with
 | true=>rw [e] at h;cases h
 | false =>
  rw [e,cond_false] at h
  rw [qVd] at e
  refine⟨of_decide_eq_false e,?_⟩
  split at h
  ·rename_i cs ho
   split at h
   ·rename_i qs hq
    rw [qMt] at hq
    have hcs:=qGe hq
    subst hcs
    split at h
    ·cases h;exact⟨_,qs,_,ho,qR0 qs,rfl⟩
    ·split at h
     ·rename_i ps hp
      cases h
      exact⟨_,qs,ps,ho,qRb (qH1 hp),rfl⟩
     ·cases h
   ·cases h
  ·cases h
theorem zZs {bs n:Nat} {b:Option Bool} {s s':IS} {sub:Tr Ob} (h:fbI bs n b s=some s') (hI:Inv bs sub s):Inv bs sub s':=by
 obtain⟨hn,K,qs,ps,_,_,rfl⟩:=qEp h
 grind [qRz]
theorem zWv {bs n:Nat} {b:Option Bool} {s s':IS} {σ:St} (h:fbI bs n b s=some s') (hR:Rel s σ):∃ σ',Wk σ σ'∧Rel s' σ':=by
 obtain⟨_,K,qs,ps,ho,hc,rfl⟩:=qEp h
 grind [zZr]
theorem qQx {call:qZ2} (hc:qZ3 ev P call) {N nt bs:Nat} : ∀ (c:Code) (s:IS) (tp:Di) (k:KT),qDk ev P call N nt bs c s tp k→∃ e s' tp',Reach ev P nt bs c s e s'∧k e s' tp'
 | .skip,s,tp,k,h=>⟨.normal,s,tp,⟨fun _ h=>h,fun X hX σ hR C E a w hC hG=>wp_skip ⟨E,σ,.normal,hG,rfl,rfl,hR⟩⟩,h⟩
 | .seq a b,s,tp,k,h=>by
  obtain⟨e,s1,tp1,h1,h2⟩:=qQx hc a s tp _ h
  cases e with
  | normal =>
   obtain⟨e,s2,tp2,h3,h4⟩:=qQx hc b s1 tp1 _ h2
   exact⟨e,s2,tp2,h1.seq h3,h4⟩
  | exit i=>exact⟨_,s1,tp1,h1.seq' (by simp),h2⟩
  | ret=>exact⟨_,s1,tp1,h1.seq' (by simp),h2⟩
 | .cond c x y,s,tp,k,h=>by
  unfold qDk at h
  split at h
  ·rename_i b hb
   have hv:∀ X,HX X ev P nt bs→∀ σ,Rel s σ→σ.val X.gl c = .pv (.bool b):=fun X hX σ hR=>by rw [hR.val,hX.gl];exact hb
   split at h
   ·obtain⟨e,s1,tp1,h1,h2⟩:=qQx hc x s tp _ h
    exact⟨e,s1,tp1,⟨h1.inv,fun X hX σ hR=>AWP.condT (hv X hX σ hR) (fun _=>h1.awp X hX σ hR) (nofun)⟩,h2⟩
   ·obtain⟨e,s1,tp1,h1,h2⟩:=qQx hc y s tp _ h
    exact⟨e,s1,tp1,⟨h1.inv,fun X hX σ hR=>AWP.condT (hv X hX σ hR) (nofun) (fun _=>h1.awp X hX σ hR)⟩,h2⟩
  ·exact h.elim
 | .block id b,s,tp,k,h=>by
  obtain⟨e,s1,tp1,h1,h2⟩:=qQx hc b s tp _ h
  have key:∀ e',(∀ ae σ',qRq e s1 ae σ'→qXd id (qRq e' s1) ae σ')→Reach ev P nt bs (.block id b) s e' s1:=fun e' hq=>⟨h1.inv,fun X hX σ hR=>AWP.block (AWP.mono (h1.awp X hX σ hR) hq)⟩
  cases e with
  | normal=>exact⟨.normal,s1,tp1,key _ (by rintro ae σ' ⟨rfl,hR⟩;exact⟨rfl,hR⟩),h2⟩
  | ret=>exact⟨.ret,s1,tp1,key _ (by rintro ae σ' ⟨rfl,hR⟩;exact⟨rfl,hR⟩),h2⟩
  | exit i =>
   simp only [qEn] at h2
   split at h2
   ·rename_i e
    have e:=Nat.eq_of_beq_eq_true e
    refine⟨.normal,s1,tp1,key _ ?_,h2⟩
    rintro ae σ' ⟨rfl,hR⟩
    simp only [AE.x,qXd,if_pos e]
    exact⟨rfl,hR⟩
   ·rename_i e
    refine⟨.exit i,s1,tp1,key _ ?_,h2⟩
    rintro ae σ' ⟨rfl,hR⟩
    have hne:¬ i=id:=fun e'=>by rw [qPi e'] at e;cases e
    simp only [AE.x,qXd,if_neg hne]
    exact⟨rfl,hR⟩
 | .exit id,s,tp,k,h=>⟨.exit id,s,tp,⟨fun _ h=>h,fun X hX σ hR C E a w hC hG=>wp_exit ⟨E,σ,.exit id,hG,rfl,rfl,hR⟩⟩,h⟩
 | .ret,s,tp,k,h=>⟨.ret,s,tp,⟨fun _ h=>h,fun X hX σ hR C E a w hC hG=>wp_ret ⟨E,σ,.ret,hG,rfl,rfl,hR⟩⟩,h⟩
 | .region id ops d,s,tp,k,h=>by
  obtain⟨s1,tp',h1,h2⟩:=zZp (id:=id) hc h
  split at h2
  ·split at h2
   ·rename_i n ps tp2 _ _ ver sz ty es ho
    obtain⟨hn,rfl,h3⟩:=qZs h2
    have hn:Nat.blt n bs=false:=by simp_all
    have hf:qRj bs s1 n=⟨s1.sl.map (qD4 n ver ps),(s1.ob.put n none).map (qKd n ver ps),s1.nx,s1.dt⟩:=by
     unfold qRj
     rw [hn,ho]
     simp [cond_false,qVq]
    refine⟨.normal,_,tp2,?_,h3⟩
    rw [← hf]
    refine⟨fun sub hI=>qCe (h1.inv sub hI) n,fun X hX σ hR=>AWP.postX (h1.awp X hX σ hR) ?_⟩
    rintro ae σ' ⟨rfl,hR'⟩
    obtain⟨τ,hw,hRt⟩:=qGf (bs:=bs) hR' n
    exact⟨⟨τ,fun C E a w _ hG=>hw C E a w hG,rfl,hRt⟩,AE.x_np .normal⟩
   simp_all
  ·split at h2
   ·rename_i s2 hf
    refine⟨.normal,s2,_,⟨fun sub hI=>zZs hf (h1.inv sub hI),fun X hX σ hR=>AWP.postX (h1.awp X hX σ hR) ?_⟩,h2⟩
    rintro ae σ' ⟨rfl,hR'⟩
    obtain⟨τ,hw,hRt⟩:=zWv hf hR'
    exact⟨⟨τ,fun C E a w _ hG=>hw C E a w hG,rfl,hRt⟩,AE.x_np .normal⟩
   simp_all
  ·grind
  grind
 | .loop b,s,tp,k,h=>by
  have hl:∀ m s tp,zZi (qDk ev P call N nt bs b) k m s tp→∃ e s' tp',LoopIs ev P nt bs b s e s'∧k e s' tp':=by
   intro m
   induction m with
   | zero=>intro s tp h;exact h.elim
   | succ m ih =>
    intro s tp h
    obtain⟨e,s1,tp1,h1,h2⟩:=qQx hc b s tp _ h
    cases e with
    | normal =>
     obtain⟨e,s2,tp2,h3,h4⟩:=ih s1 tp1 h2
     exact⟨e,s2,tp2,h3.round h1,h4⟩
    | exit i=>exact⟨_,s1,tp1,.last (by simp) h1,h2⟩
    | ret=>exact⟨_,s1,tp1,.last (by simp) h1,h2⟩
  unfold qDk at h
  split at h
  ·obtain⟨hk,h0⟩:=qZs h
   obtain⟨⟨h1,h2⟩,ha⟩:=qVg h0
   exact⟨_,_,_,h1.reach.kept (qK2 hk ha),h2⟩
  ·obtain⟨e,s',tp',h1,h2⟩:=hl N s tp h
   exact⟨e,s',tp',h1.reach,h2⟩
 | .scope b,s,tp,k,h=>by
  obtain⟨e,s1,tp1,h1,h2⟩:=qQx hc b s tp _ h
  exact⟨e,s1,tp1,⟨h1.inv,fun X hX σ hR=>AWP.scopeT (h1.awp X hX σ hR)⟩,h2⟩
 | .label l,s,tp,k,h=>⟨.normal,s,tp,⟨fun _ h=>h,fun X hX σ hR C E a w hC hG=>wp_label ⟨E,σ,.normal,hG,rfl,rfl,hR⟩⟩,h⟩
 | .rangeFunc _ _ _ _,_,_,_,h=>h.elim
 | .goto _,_,_,_,h=>h.elim
 | .refuse _,_,_,_,h=>h.elim
open Classical in
noncomputable def zYa (nt bs:Nat) (c:Code) (s:IS) (e:AE) (s':IS):Run:=fun nt' bs' c' s1 k=>if nt'=nt∧bs'=bs∧c'=c∧s1=s then k e s' else none
theorem qNw {nt bs:Nat} {c:Code} {s s':IS} {e:AE} (h:Reach ev P nt bs c s e s'):zX8 ev P (zYa nt bs c s e s'):=by
 refine⟨fun nt1 bs1 c1 s1 k r hr sub hI => ?_,fun nt1 bs1 c1 s1 k r hr X hP hXT hgl hnt hgv sub σ hR hI => ?_⟩
 ·unfold zYa at hr
  split at hr
  ·rename_i hh
   obtain⟨rfl,rfl,rfl,rfl⟩:=hh
   exact⟨e,s',h.inv sub hI,hr⟩
  ·cases hr
 ·unfold zYa at hr
  split at hr
  ·rename_i hh
   obtain⟨rfl,rfl,rfl,rfl⟩:=hh
   refine AWP.mono (h.awp X ⟨hP,hXT,hgl,hnt,hgv⟩ σ hR) ?_
   rintro ae σ' ⟨rfl,hR'⟩
   exact⟨e,s',rfl,hR',h.inv sub hI,hr⟩
  ·cases hr
theorem qJs (he:qPk ev P) (N:Nat):∀ (n:Nat),qZ3 ev P (qAp ev P N n)
 | 0=>fun _ _ _ _ _ h=>h.elim
 | n+1=>fun f args s tp k h=>by
  unfold qAp at h
  split at h
  ·rename_i fn hf
   split at h
   ·rename_i c hb
    obtain⟨hl,h⟩:=qZs h
    split at h
    ·rename_i sub ks hrc
     obtain⟨e,s',tp',h1,h2⟩:=qQx (qJs he N n) _ _ _ _ h
     split at h2
     ·rename_i r hr
      refine⟨r,ks,tp',qCm (qNw h1) he hf hb (Nat.le_of_ble_eq_true hl) hrc ?_,h2⟩
      unfold qBc zYa
      simp only [and_self,if_true]
      exact hr
     ·exact h2.elim
    ·exact h.elim
   ·exact h.elim
  ·exact h.elim
theorem LoopIs.of_round (he:qPk ev P) {n N nt bs:Nat} {b:Code} {s s':IS} {tp:Di} {ki ko:Kp} {e:AE} (h:qTt ev P n N nt bs b s tp ki ko e s'):LoopIs ev P nt bs b s e s':=by
 obtain⟨e1,s1,tp1,h1,h2⟩:=qQx (qJs he N n) _ _ _ _ h
 cases e1 with
 | normal =>
  obtain⟨hk,h2⟩:=qZs h2
  obtain⟨h2,ha⟩:=qVg h2
  exact .round (h1.keep (qK2 hk ha)) h2
 | exit i =>
  obtain⟨rfl,h2⟩:=h2
  obtain⟨hk,h2⟩:=qZs h2
  obtain⟨h2,ha⟩:=qVg h2
  exact h2 ▸ .last (by simp) (h1.keep (qK2 hk ha))
 | ret =>
  obtain⟨rfl,h2⟩:=h2
  obtain⟨hk,h2⟩:=qZs h2
  obtain⟨h2,ha⟩:=qVg h2
  exact h2 ▸ .last (by simp) (h1.keep (qK2 hk ha))
theorem AC.wO {f:Nat} {args:List V} {p:PV} {objs objs':List (Nat × Ob)} (n:Nat) (h:AC P ev.gl f args objs (.ret (.pv p)) objs'):AC P ev.gl f args objs (.ret (.pv (p.w n))) objs':=h.leO fun H v=>qHw n p v
theorem qNx (he:qPk ev P) {N n f:Nat} {args:List PV} {tp:Di} {x:PV} (h:zAg ev P N n f args tp x):AC P ev.gl f (args.map .pv) [] (.ret (.pv x)) []:=by
 obtain⟨⟨y,ch,nw,nx⟩,ks,tp',⟨ro,o1,hC⟩,hr⟩:=qJs he N n _ _ _ _ _ h
 unfold zCn at hr
 split at hr
 ·have h1:ro=[]:=by
   cases ro with
   | nil=>rfl
   | cons p r=>have:=hC.subs p (by simp);cases this
  have h2:o1=[]:=by
   cases o1 with
   | nil=>rfl
   | cons p r=>have:=hC.subs p (by simp);cases this
  have:=hC.ac
  grind [AC.wO]
 simp_all
end
theorem getO_iff {l:List (Nat × Ob)} {n:Nat} : n∈qQa l↔(qQc l n).isSome=true:=by
 constructor
 ·intro h
  cases e:qQc l n with
  | some o=>rfl
  | none =>
   induction l with
   | nil=>cases h
   | cons p r ih =>
    obtain⟨k,q⟩:=p
    unfold qQc at e
    by_cases hk:k=n
    ·rw [if_pos hk] at e;cases e
    ·rw [if_neg hk] at e
     rcases List.mem_cons.1 h with h|h
     ·simp_all
     ·exact ih h e
 ·intro h
  obtain⟨o,ho⟩:=Option.isSome_iff_exists.1 h
  exact keysO_mem.2 ⟨o,qWe ho⟩
theorem AC.cong {P:Program} {gl:Nat→Option (List PV)} {f:Nat} {args:List V} {a b a' b':List (Nat × Ob)} {out:Out} (h:AC P gl f args a out a') (h1:∀ n,qQc a n=qQc b n) (h2:∀ n,qQc a' n=qQc b' n) (h3:∀ n,n∈qJl a→n∈qJl b):AC P gl f args b out b':=by
 have k1:∀ n,n∈qQa a↔n∈qQa b:=fun n=>by rw [getO_iff,getO_iff,h1]
 have k2:∀ n,n∈qQa a'↔n∈qQa b':=fun n=>by rw [getO_iff,getO_iff,h2]
 have kk:∀ n,(n∈qQa a∨n∈qQa a'∨n∈qWv args a)→(n∈qQa b∨n∈qQa b'∨n∈qWv args b):=by
  grind [qWv,id]
 refine⟨h.direct,fun n hn=>kk n (h.names n hn),fun m o hm n hn=>kk n (h.namesO m o (by rw [h2];exact hm) n hn),fun E w vs hB hl hR => ?_⟩
 have hB':qMe gl E w a:=⟨hB.heap,hB.glob,fun n o hn=>hB.obs n o (by rw [← h1];exact hn),fun n m o o' hn hm=>hB.apart n m o o' (by rw [← h1];exact hn) (by rw [← h1];exact hm)⟩
 refine (h.calls E w vs hB' hl hR).mono ?_
 rintro e w' ⟨E',hD,ho⟩
 refine⟨E',⟨hD.heap,fun n o hn=>hD.obs n o (by rw [h2];exact hn),fun n m o o' hn hm=>hD.apart n m o o' (by rw [h2];exact hn) (by rw [h2];exact hm),hD.hle,hD.size,hD.rest,fun b hb hne=>hD.same b hb (fun n o hn=>hne n o (by rw [← h1];exact hn)),fun n o b hn hb => ?_,fun n o hn=>hD.ext n o (by rw [h1];exact hn),fun n hn hn'=>hD.other n (by rw [h1];exact hn) (by rw [h2];exact hn')⟩,ho⟩
 rcases hD.own n o b (by rw [h2];exact hn) hb with h|⟨m,o',h,h'⟩
 ·omega
 grind
theorem qCt:∀ (l:List (Nat × Ob)) (t:Tr Ob),(qQa l).Nodup→∀ n,(obL l t).get n=match qQc l n with|some o=>some o|none=>t.get n
 | [],t,_,n=>rfl
 | (k,q)::r,t,hd,n=>by
  obtain⟨h1,h2⟩:=List.nodup_cons.1 hd
  simp only [obL]
  rw [qCt r _ h2,Tr.get_put]
  by_cases e:k=n
  ·subst e
   have:qQc r k=none:=by
    cases e:qQc r k with
    | none=>rfl
    | some o=>exact absurd (getO_iff.2 (by rw [e];rfl)) h1
   rw [this]
   simp [qQc]
  ·rw [if_neg (Ne.symm e)]
   simp only [qQc,if_neg e]
theorem qKj:∀ (ch:List (Nat × Ob)) (n:Nat) (o:Ob),zWq n o ch=match qQc ch n with|some o'=>o'|none=>o
 | [],n,o=>rfl
 | (m,q)::r,n,o=>by
  unfold zWq
  by_cases e:n=m
  ·subst e;simp [qQc]
  ·rw [zQu e,cond_false,qKj r n o]
   simp only [qQc,if_neg (Ne.symm e)]
theorem qCu (ch:List (Nat × Ob)):∀ (l:List (Nat × Ob)) (n:Nat),qQc (qTu ch l) n=(qQc l n).map fun o=>zWq n o ch
 | [],n=>rfl
 | (k,q)::r,n=>by
  simp only [qTu,qQc]
  by_cases e:k=n
  ·simp_all
  ·rw [if_neg e,if_neg e,qCu ch r n]
theorem qKk (a b:List (Nat × Ob)) (n:Nat):qQc (a++b) n=match qQc a n with|some o=>some o|none=>qQc b n:=by
 induction a with
 | nil=>rfl
 | cons p r ih =>
  grind [qQc]
theorem qNy {ev:qZx} {P:Program} (he:qPk ev P) {N n f m:Nat} {args:List V} {objs objs':List (Nat × Ob)} {tp:Di} {x:V} (h:zAh ev P N n f args objs m tp x objs'):AC P ev.gl f args objs (.ret x) objs':=by
 obtain⟨hd,h⟩:=qZs h
 obtain⟨⟨y,ch,nw,nx⟩,ks,tp',⟨ro,o1,hC⟩,hr⟩:=qJs he N n _ _ _ _ _ h
 have hd:=qGj hd
 rw [qJr] at hd
 unfold zCo at hr
 split at hr
 ·rename_i e
  cases e
  obtain⟨hb,hr⟩:=qZs hr
  obtain⟨hk,hn⟩:=qQ2 hb
  have hk:=qCr hk
  rw [qJr] at hk
  cases hr
  have hs0:∀ k,(obL objs .nil).get k=qQc objs k:=fun k=>by
   rw [qCt objs _ hd]
   cases qQc objs k<;>rfl
  have hsub:∀ p∈ro++o1,qQc objs p.1=some p.2:=fun p hp=>by rw [← hs0];exact hC.subs p hp
  have hget:∀ k,qQc (ro++o1) k=qQc objs k:=by
   intro k
   cases e:qQc (ro++o1) k with
   | some o=>exact (hsub (k,o) (qWe e)).symm
   | none =>
    cases e2:qQc objs k with
    | none=>rfl
    | some o =>
     have h1:=hC.all k (hk k (getO_iff.2 (by rw [e2];rfl)))
     rw [getO_iff,e] at h1
     cases h1
  have key:AC P ev.gl f args objs (.ret y) (qTu ch objs):=by
   refine AC.cong hC.ac hget (fun k => ?_) (fun k hk => ?_)
   ·rw [qCu,← hget,List.append_nil,qKk,qKk]
    cases e:qQc ro k with
    | some o =>
     have h1:=(hC.apart k (getO_iff.2 (by rw [e];rfl))).2
     have h2:qQc ch k=none:=by
      cases e2:qQc ch k with
      | none=>rfl
      | some o=>exact absurd (by simpa using getO_iff.2 (by rw [e2];rfl)) h1
     grind [qKj]
    | none =>
     cases e2:qQc o1 k with
     | some o =>
      have h1:=hC.inch k (getO_iff.2 (by rw [e2];rfl))
      obtain⟨o',ho'⟩:=Option.isSome_iff_exists.1 (getO_iff.1 h1)
      grind [qKj]
     | none =>
      cases e3:qQc ch k with
      | none=>rfl
      | some o =>
       have h1:=(hC.chs k (getO_iff.2 (by rw [e3];rfl))).2.2
       rw [getO_iff,e2] at h1
       cases h1
   ·obtain⟨p,hp,hkp⟩:=mem_mentO.1 hk
    exact mem_mentO.2 ⟨p,qWe (hsub p hp),hkp⟩
  cases y with
  | pv p=>exact AC.wO 4 key
  | _=>exact key
 simp_all
section
variable {ev:qZx} {P:Program}
theorem qY6 {X:Env1} {b:Code} {Q Q':AEx→St→Prop} (hq:∀ ae σ',Q ae σ'→(∃ σ'',WkX X σ' σ''∧Q' ae σ'')∧(∀ p,ae ≠ .panic p)∧ae ≠ .normal):∀ (m:Nat) (σ:St),qKe X b Q m σ→qKe X b Q' m σ
 | 0,_,h=>h
 | m+1,σ,h=>by
  intro C E a w hC hG
  refine wp_mono (h C E a w hC hG) ?_
  rintro e a' w' ⟨E',σ',ae,hG',hr,hqq⟩
  have key:ae ≠ .normal→Q ae σ'→qF5 C (qP7 (qKe X b Q' m) Q') e a' w':=by
   intro hn hh
   obtain⟨⟨σ'',hw,hq'⟩,hp,_⟩:=hq ae σ' hh
   obtain⟨E'',hG''⟩:=hw C E' a' w' hC hG'
   refine⟨E'',σ'',ae,hG'',?_,?_⟩
   ·cases ae with
    | panic p=>simp_all
    | _=>exact hr
   ·cases ae with
    | normal=>simp_all
    | _=>exact hq'
  cases ae with
  | normal=>exact⟨E',σ',.normal,hG',hr,qY6 hq m σ' hqq⟩
  | exit i=>exact key (by simp) hqq
  | ret=>exact key (by simp) hqq
  | panic p=>exact key (by simp) hqq
theorem LoopIs.post {nt bs:Nat} {b:Code} {s s' s'':IS} {e:AE} (he:e ≠ .normal) (h:LoopIs ev P nt bs b s e s') (hi:∀ sub,Inv bs sub s'→Inv bs sub s'') (hw:∀ X,HX X ev P nt bs→∀ σ,Rel s' σ→∃ τ,WkX X σ τ∧Rel s'' τ):LoopIs ev P nt bs b s e s'':=by
 obtain⟨h1,m,h2⟩:=h
 refine⟨fun sub hI=>hi sub (h1 sub hI),m,fun X hX σ hR=>qY6 ?_ m σ (h2 X hX σ hR)⟩
 rintro ae σ' ⟨rfl,hR'⟩
 obtain⟨τ,h3,h4⟩:=hw X hX σ' hR'
 exact⟨⟨τ,h3,rfl,h4⟩,AE.x_np e,by cases e<;>simp [AE.x] at he ⊢⟩
def fzS (n ver:Nat) (ps:List (List PV)):List (Nat × V)→List (Nat × V)
 | []=>[]
 | (t,x)::r=>(t,qD4 n ver ps x)::fzS n ver ps r
def fzO (n ver:Nat) (ps:List (List PV)):List (Nat × Ob)→List (Nat × Ob)
 | []=>[]
 | (m,o)::r=>if m=n then fzO n ver ps r else (m,qKd n ver ps o)::fzO n ver ps r
theorem qNz (n ver:Nat) (ps:List (List PV)):∀ (l:List (Nat × V)) (t t':Tr V) (i:Nat),t'.get i=(t.get i).map (qD4 n ver ps)→(slL (fzS n ver ps l) t').get i=((slL l t).get i).map (qD4 n ver ps)
 | [],t,t',i,h=>h
 | (k,x)::r,t,t',i,h=>by
  refine qNz n ver ps r _ _ i ?_
  rw [Tr.get_put,Tr.get_put]
  by_cases e:i=k
  ·rw [if_pos e,if_pos e];rfl
  ·rw [if_neg e,if_neg e];exact h
theorem qGm (n ver:Nat) (ps:List (List PV)):∀ (l:List (Nat × Ob)) (t t':Tr Ob) (i:Nat),(i≠n→t'.get i=(t.get i).map (qKd n ver ps))→(i=n→t'.get i=none)→(obL (fzO n ver ps l) t').get i=if i=n then none else ((obL l t).get i).map (qKd n ver ps)
 | [],t,t',i,h,h'=>by
  split
  ·rename_i e;exact h' e
  ·rename_i e;exact h e
 | (k,x)::r,t,t',i,h,h'=>by
  simp only [fzO,obL]
  split
  ·rename_i e
   refine qGm n ver ps r _ _ i (fun hi => ?_) h'
   rw [Tr.get_put,if_neg (fun h=>hi (h.trans e))]
   exact h hi
  ·rename_i e
   refine qGm n ver ps r _ _ i (fun hi => ?_) (fun hi => ?_)
   ·rw [Tr.get_put,Tr.get_put]
    by_cases e1:i=k
    ·rw [if_pos e1,if_pos e1];rfl
    ·rw [if_neg e1,if_neg e1];exact h hi
   ·rw [Tr.get_put,if_neg (fun h=>e (h.symm.trans hi))]
    exact h' hi
theorem LoopIs.fz {nt bs:Nat} {b:Code} {s:IS} {e:AE} {sl:List (Nat × V)} {ob:List (Nat × Ob)} {nx:Nat} {dt:List Nat} (he:e ≠ .normal) (h:LoopIs ev P nt bs b s e ⟨slL sl .nil,obL ob .nil,nx,dt⟩) (n:Nat) {ver sz ty:Nat} {ps:List (List PV)} (hn:Nat.blt n bs=false)
  (ho:(obL ob .nil).get n=some (.arr ver sz ty (pvE ps))):LoopIs ev P nt bs b s e ⟨slL (fzS n ver ps sl) .nil,obL (fzO n ver ps ob) .nil,nx,dt⟩:=by
 have hf:qRj bs ⟨slL sl .nil,obL ob .nil,nx,dt⟩ n=⟨(slL sl .nil).map (qD4 n ver ps),((obL ob .nil).put n none).map (qKd n ver ps),nx,dt⟩:=by
  unfold qRj
  rw [hn,ho]
  simp [cond_false,qVq]
 have h1:∀ i,(slL (fzS n ver ps sl) .nil).get i=((slL sl .nil).map (qD4 n ver ps)).get i:=fun i=>by rw [Tr.get_map];exact qNz n ver ps sl .nil .nil i rfl
 have h2:∀ i,(obL (fzO n ver ps ob) .nil).get i=(((obL ob .nil).put n none).map (qKd n ver ps)).get i:=fun i=>by
  rw [Tr.get_map,Tr.get_put,qGm n ver ps ob .nil .nil i (fun _=>rfl) (fun _=>rfl)]
  split<;>rfl
 refine h.post he (fun _ hI => ?_) (fun X _ σ hR => ?_)
 ·have:=qCe hI n
  rw [hf] at this
  exact⟨this.le,fun i hi hd=>(h2 i).trans (this.same i hi hd),fun i hi hs=>this.old i hi ((h2 i) ▸ hs),this.names,this.dts⟩
 ·obtain⟨τ,hw,hR'⟩:=qGf (bs:=bs) hR n
  rw [hf] at hR'
  exact⟨τ,fun C E a w _ hG=>hw C E a w hG,⟨fun t=>(hR'.sl t).trans (by rw [h1]),fun m=>(hR'.ob m).trans (h2 m).symm,hR'.us⟩⟩
end
section
variable {ev:qZx} {P:Program}
structure Reach2 (ev:qZx) (P:Program) (nt bs:Nat) (c:Code) (s:IS) (k:KT):Prop where
 syn:∃ e s' tp,(∀ sub,Inv bs sub s→Inv bs sub s')∧k e s' tp
 awp:∀ X,HX X ev P nt bs→∀ σ,Rel s σ→AWP X c σ fun ae σ' => ∃ e s' tp,ae=AE.x e∧Rel s' σ'∧(∀ sub,Inv bs sub s→Inv bs sub s')∧k e s' tp
theorem Reach2.of {nt bs:Nat} {c:Code} {s s':IS} {e:AE} {tp:Di} {k:KT} (h:Reach ev P nt bs c s e s') (hk:k e s' tp):Reach2 ev P nt bs c s k :=
 ⟨⟨e,s',tp,h.inv,hk⟩,fun X hX σ hR=>AWP.mono (h.awp X hX σ hR) (by rintro ae σ' ⟨rfl,hR'⟩;exact⟨e,s',tp,rfl,hR',h.inv,hk⟩)⟩
theorem qJx {call:qZ2} (hc:qZ3 ev P call) {N nt bs:Nat} : ∀ (c:Code) (s:IS) (tp:Di) (k:KT),qLd ev P call N nt bs c s tp k→Reach2 ev P nt bs c s k
 | .seq a b,s,tp,k,h=>by
  have ha:=qJx hc a s tp _ h
  have hb:∀ s1 tp1,qLd ev P call N nt bs b s1 tp1 k→Reach2 ev P nt bs b s1 k:=fun s1 tp1 h1=>qJx hc b s1 tp1 k h1
  refine⟨?_,fun X hX σ hR=>AWP.seq (AWP.mono (ha.awp X hX σ hR) ?_)⟩
  ·obtain⟨e,s1,tp1,hi,h1⟩:=ha.syn
   cases e with
   | normal =>
    obtain⟨e,s2,tp2,hi2,h2⟩:=(hb s1 tp1 h1).syn
    grind
   | exit i=>exact⟨.exit i,s1,tp1,hi,h1⟩
   | ret=>exact⟨.ret,s1,tp1,hi,h1⟩
  ·rintro ae σ' ⟨e,s1,tp1,rfl,hR',hi,h1⟩
   cases e with
   | normal =>
    refine AWP.mono ((hb s1 tp1 h1).awp X hX σ' hR') ?_
    grind
   | exit i=>exact⟨.exit i,s1,tp1,rfl,hR',hi,h1⟩
   | ret=>exact⟨.ret,s1,tp1,rfl,hR',hi,h1⟩
 | .block id b,s,tp,k,h=>by
  have hb:=qJx hc b s tp _ h
  have key:∀ e s1 tp1,qEn id k e s1 tp1→∃ e',k e' s1 tp1 ∧ ∀ (Q:AEx→St→Prop) σ',Q (AE.x e') σ'→qXd id Q (AE.x e) σ':=by
   intro e s1 tp1 h1
   cases e with
   | normal=>exact⟨.normal,h1,fun Q σ' hq=>hq⟩
   | ret=>exact⟨.ret,h1,fun Q σ' hq=>hq⟩
   | exit i =>
    simp only [qEn] at h1
    split at h1
    ·rename_i e
     have e:=Nat.eq_of_beq_eq_true e
     refine⟨.normal,h1,fun Q σ' hq => ?_⟩
     simp only [AE.x,qXd,if_pos e]
     exact hq
    ·rename_i e
     have hne:¬ i=id:=fun e'=>by rw [qPi e'] at e;cases e
     refine⟨.exit i,h1,fun Q σ' hq => ?_⟩
     simp only [AE.x,qXd,if_neg hne]
     exact hq
  refine⟨?_,fun X hX σ hR=>AWP.block (AWP.mono (hb.awp X hX σ hR) ?_)⟩
  ·obtain⟨e,s1,tp1,hi,h1⟩:=hb.syn
   grind
  grind
 | .scope b,s,tp,k,h=>by
  have hb:=qJx hc b s tp _ h
  exact⟨hb.syn,fun X hX σ hR=>AWP.scopeT (hb.awp X hX σ hR)⟩
 | .cond c x y,s,tp,k,h=>by
  unfold qLd at h
  split at h
  ·rename_i b hb
   obtain⟨hx,hy⟩:=h
   have hy:=qJx hc y s tp k hy
   have hx:b=true→Reach2 ev P nt bs x s k:=fun e=>qJx hc x s tp k (hx e)
   refine⟨hy.syn,fun X hX σ hR=>zQo (v:=.pv (.flg b)) (by rw [hR.val,hX.gl];exact hb) ⟨fun e=>(hx e).awp X hX σ hR,hy.awp X hX σ hR⟩⟩
  ·rename_i b hb
   have hv:∀ X,HX X ev P nt bs→∀ σ,Rel s σ→σ.val X.gl c = .pv (.bool b):=fun X hX σ hR=>by rw [hR.val,hX.gl];exact hb
   split at h
   ·have hx:=qJx hc x s tp k h
    exact⟨hx.syn,fun X hX σ hR=>AWP.condT (hv X hX σ hR) (fun _=>hx.awp X hX σ hR) (nofun)⟩
   ·have hy:=qJx hc y s tp k h
    exact⟨hy.syn,fun X hX σ hR=>AWP.condT (hv X hX σ hR) (nofun) (fun _=>hy.awp X hX σ hR)⟩
  ·exact h.elim
 | .skip,s,tp,k,h=>by obtain⟨e,s1,tp1,h1,h2⟩:=qQx hc .skip s tp k h;exact .of h1 h2
 | .exit id,s,tp,k,h=>by obtain⟨e,s1,tp1,h1,h2⟩:=qQx hc (.exit id) s tp k h;exact .of h1 h2
 | .ret,s,tp,k,h=>by obtain⟨e,s1,tp1,h1,h2⟩:=qQx hc .ret s tp k h;exact .of h1 h2
 | .region id ops d,s,tp,k,h=>by obtain⟨e,s1,tp1,h1,h2⟩:=qQx hc (.region id ops d) s tp k h;exact .of h1 h2
 | .loop b,s,tp,k,h=>by obtain⟨e,s1,tp1,h1,h2⟩:=qQx hc (.loop b) s tp k h;exact .of h1 h2
 | .label l,s,tp,k,h=>by obtain⟨e,s1,tp1,h1,h2⟩:=qQx hc (.label l) s tp k h;exact .of h1 h2
 | .rangeFunc a b c d,s,tp,k,h=>by obtain⟨e,s1,tp1,h1,h2⟩:=qQx hc (.rangeFunc a b c d) s tp k h;exact .of h1 h2
 | .goto l,s,tp,k,h=>by obtain⟨e,s1,tp1,h1,h2⟩:=qQx hc (.goto l) s tp k h;exact .of h1 h2
 | .refuse l,s,tp,k,h=>by obtain⟨e,s1,tp1,h1,h2⟩:=qQx hc (.refuse l) s tp k h;exact .of h1 h2
theorem qK3:∀ args:List PV,qQg (args.map V.pv)=[]
 | []=>rfl
 | a::l=>by show []++qQg (l.map V.pv)=[];rw [qK3 l];rfl
open Classical in
noncomputable def qPm (nt bs:Nat) (c:Code) (s:IS) (K:AE→IS→Option Res) (r:Res):Run:=fun nt' bs' c' s1 k=>if nt'=nt∧bs'=bs∧c'=c∧s1=s∧k=K then some r else none
theorem zZt (he:qPk ev P) {N n f:Nat} {args:List PV} {tp:Di} {ko:Kp} {x:PV} (h:zAi ev P N n f args tp ko x):AC P ev.gl f (args.map .pv) [] (.ret (.pv x)) []:=by
 unfold zAi at h
 split at h
 ·rename_i fn hf
  split at h
  ·rename_i c hb
   obtain⟨hl,h⟩:=qZs h
   let s0:IS:=⟨qZh 0 (args.map .pv) .nil,.nil,0,[]⟩
   let K:=zQ8 ev.T 0 .nil fn.results.toList
   let r:Res:=⟨.pv x,[],[],ko.nx⟩
   have hR:=qJx (qJs he N n) (nt:=fn.ntmps) (bs:=0) c s0 tp _ h
   have hend:∀ e s1,gd (qTr ko 0 s1) (qLs s1.ob ko.on (K e (kpT ko s1)=some r))→KpOK ko 0 s1∧K e (kpT ko s1)=some r:=by
    grind [qZs,qVg,qK2]
   have hg:zX8 ev P (qPm fn.ntmps 0 c s0 K r):=by
    refine⟨fun nt1 bs1 c1 s1 k r1 hr sub hI => ?_,fun nt1 bs1 c1 s1 k r1 hr X hP hXT hgl hnt hgv sub σ hRel hI => ?_⟩
    ·unfold qPm at hr
     split at hr
     ·rename_i hh
      obtain⟨rfl,rfl,rfl,rfl,rfl⟩:=hh
      cases hr
      obtain⟨e,s2,tp2,hi,h2⟩:=hR.syn
      obtain⟨h3,h4⟩:=hend e s2 h2
      exact⟨e,_,h3.inv (hi sub hI),h4⟩
     ·cases hr
    ·unfold qPm at hr
     split at hr
     ·rename_i hh
      obtain⟨rfl,rfl,rfl,rfl,rfl⟩:=hh
      cases hr
      have hX:HX X ev P fn.ntmps 0:=⟨hP,hXT,hgl,hnt,hgv⟩
      refine AWP.postX (hR.awp X hX σ hRel) ?_
      rintro ae σ' ⟨e,s2,tp2,rfl,hR2,hi,h2⟩
      obtain⟨h3,h4⟩:=hend e s2 h2
      obtain⟨τ,h5,h6⟩:=h3.wk hX hR2
      exact⟨⟨τ,h5,e,_,rfl,h6,h3.inv (hi sub hI),h4⟩,AE.x_np e⟩
     ·cases hr
   have hrun:qBc ev (qPm fn.ntmps 0 c s0 K r) fn c (args.map .pv) 0 .nil=some r:=by
    unfold qBc qPm
    grind
   have hn:qQg (args.map V.pv)=[]:=by
    simp [qK3]
   have hrc:reach 0 .nil 1000000 (qQg (args.map V.pv)) .nil []=some (.nil,[]):=by rw [hn];rfl
   obtain⟨ro,o1,hC⟩:=qCm (s:=⟨.nil,.nil,0,[]⟩) hg he hf hb (by simp_all) hrc hrun
   have h1:ro=[]:=by
    cases ro with
    | nil=>rfl
    | cons p r=>have:=hC.subs p (by simp);cases this
   have h2:o1=[]:=by
    cases o1 with
    | nil=>rfl
    | cons p r=>have:=hC.subs p (by simp);cases this
   have:=hC.ac
   rw [h1,h2] at this
   exact this
  simp_all
 simp_all
end
def zZu (r:Nat):Code→Bool
 | .region id _ _=>Nat.beq id r
 | .seq a b=>bif zZu r a then true else zZu r b
 | .block _ b=>zZu r b
 | .scope b=>zZu r b
 | .cond _ a b=>bif zZu r a then true else zZu r b
 | _=>false
section
variable {ev:qZx} {P:Program}
theorem qN0 {args:List V} {objs:List (Nat × Ob)} {m:Nat} (hd:(qQa objs).Nodup) (hm:∀ n∈qQa objs,n<m):Rel ⟨qZh 0 args .nil,obL objs .nil,m,[]⟩ ⟨qQ8 0 args,objs,qQa objs⟩:=by
 refine⟨fun t => ?_,fun n => ?_,hm⟩
 ·rw [qJg,qWy]
  simp only [Nat.zero_le,if_true,Nat.sub_zero,true_and,Nat.zero_add,Tr.get_nil]
  grind
 ·rw [qCt objs _ hd]
  cases qQc objs n<;>rfl
end
def zYb (ev:qZx) (P:Program) (call:qZ2) (N nt bs rd:Nat):Code→IS→Di→(Array Oper→Code→IS→Di→Prop)→Prop
 | .seq a b,s,tp,k=>match zZu rd a with
  | true=>match a with
   | .region _ ops false=>k ops b s tp
   | _=>False
  | false=>qDk ev P call N nt bs a s tp fun e s tp=>match e with
   | .normal=>zYb ev P call N nt bs rd b s tp k
   | _=>False
 | _,_,_,_=>False
def zAl (T:Nat→Option TI) (s:IS) (rs:List ResultVar) (x:V):Prop:=match qNa T s rs with
 | some xs=>qIw xs=x
 | none=>False
def zAm (ev:qZx) (P:Program) (N n f rd:Nat) (args:List PV) (o1 o2:Oper) (co:Array Operand) (caps:List V) (tf fc:Nat) (tp:Di) (k:Func→Code→IS→Di→Prop):Prop:=match ev.F f with
 | some fn=>match fn.body with
  | some c=>gd (Nat.ble args.length fn.ntmps) (gd (Nat.blt tf fn.ntmps) (zYb ev P (qAp ev P N n) N fn.ntmps 0 rd c ⟨qZh 0 (args.map .pv) .nil,.nil,0,[]⟩ tp fun ops c1 s tp =>
   ops = #[o1,o2]∧co.toList.map (s.val ev.gl)=caps∧gd (qAo s.nx (qQg caps)) (k fn c1 ⟨qYy s.sl (some tf) (.fn fc caps),s.ob,s.nx,s.dt⟩ tp)))
  | none=>False
 | none=>False
def zCp (ev:qZx) (P:Program) (N n f rd:Nat) (args:List PV) (o1 o2:Oper) (co:Array Operand) (caps:List V) (tf fc:Nat) (tp:Di) (x:PV):Prop :=
 zAm ev P N n f rd args o1 o2 co caps tf fc tp fun fn c s tp=>qDk ev P (qAp ev P N n) N fn.ntmps s.nx c s tp fun e s _=>match e with
  | .exit _=>False
  | _=>zAl ev.T s fn.results.toList (.pv x)
section
variable {ev:qZx} {P:Program}
inductive Pre (ev:qZx) (P:Program) (nt bs:Nat):Code→IS→Code→IS→Prop
 | nil (c:Code) (s:IS):Pre ev P nt bs c s c s
 | cons {a b c:Code} {s s1 s2:IS} (h:Reach ev P nt bs a s .normal s1) (h':Pre ev P nt bs b s1 c s2):Pre ev P nt bs (.seq a b) s c s2
theorem qN1 {call:qZ2} (hc:qZ3 ev P call) {N nt bs rd:Nat} {k:Array Oper→Code→IS→Di→Prop} : ∀ (c:Code) (s:IS) (tp:Di),zYb ev P call N nt bs rd c s tp k→∃ id ops c1 s1 tp1,Pre ev P nt bs c s (.seq (.region id ops false) c1) s1∧k ops c1 s1 tp1
 | .seq a b,s,tp,h=>by
  unfold zYb at h
  split at h
  ·split at h
   ·rename_i id ops _
    exact⟨id,ops,b,s,tp,.nil _ _,h⟩
   ·exact h.elim
  ·obtain⟨e,s1,tp1,h1,h2⟩:=qQx hc a s tp _ h
   cases e with
   | normal =>
    obtain⟨id,ops,c1,s2,tp2,h3,h4⟩:=qN1 hc b s1 tp1 h2
    exact⟨id,ops,c1,s2,tp2,.cons h1 h3,h4⟩
   | _=>exact h2.elim
 | .skip,_,_,h=>h.elim
 | .exit _,_,_,h=>h.elim
 | .ret,_,_,h=>h.elim
 | .loop _,_,_,h=>h.elim
 | .label _,_,_,h=>h.elim
 | .rangeFunc _ _ _ _,_,_,h=>h.elim
 | .goto _,_,_,h=>h.elim
 | .refuse _,_,_,h=>h.elim
 | .region _ _ _,_,_,h=>h.elim
 | .block _ _,_,_,h=>h.elim
 | .scope _,_,_,h=>h.elim
 | .cond _ _ _,_,_,h=>h.elim
theorem Pre.wp {nt bs:Nat} {X:Env1} (hX:HX X ev P nt bs) {c c':Code} {s s':IS} (h:Pre ev P nt bs c s c' s'):∀ {C:Ctx} {E:Env} {σ:St} {a:Act} {w:World} {Q:Exit→Act→World→Prop},COK X C→Rel s σ→Ga C E σ a w →
  (∀ E' σ' a' w',Rel s' σ'→Ga C E' σ' a' w'→c'.wp X.P Q a' w')→c.wp X.P Q a w:=by
 induction h with
 | nil c s=>exact fun _ hR hG hk=>hk _ _ _ _ hR hG
 | cons h1 _ ih =>
  intro C E σ a w Q hC hR hG hk
  refine wp_seq (wp_mono (h1.awp X hX σ hR C E a w hC hG) ?_)
  rintro e a1 w1 ⟨E1,σ1,ae,hG1,hrel,rfl,hR1⟩
  cases hrel
  exact ih hC hR1 hG1 hk
theorem AC.rescue {X : Env1} {f bs : Nat} {fn : Func} {c c1 : Code} {id tf fc : Nat} {o1 o2 : Oper} {co : Array Operand} (hX : HX X ev P X.nt bs) (hf : X.P.funcs[f]? = some fn) (hb : fn.body = some c) (hname : (fn.name == "runtime.NumGoroutine") = false) (hnt : fn.ntmps = X.nt)
  (hdir:qHb X.P fc)
  (ho1:o1.op = .makeFunc (.func fc) #[] co) (hd1:o1.dst=some tf) (hg1:o1.guard=none) (htf:tf<X.nt)
  (ho2:o2.op = .defer { callee:=.value (.tmp tf),args:=#[],argTypes:=#[] }) (hd2:o2.dst=none) (hg2:o2.guard=none)
  {args:List PV} {x:PV} (hgiven:X.given=[]) (hal:args.length≤X.nt)
  {s1:IS} (h0:Pre ev P X.nt bs c ⟨qZh 0 (args.map .pv) .nil,.nil,bs,[]⟩ (.seq (.region id #[o1,o2] false) c1) s1) {caps:List V} (hcaps:co.toList.map (s1.val X.gl)=caps) (hid:zQs X.P fc caps.length)
  (h1:∀ σ1,Rel s1 σ1→AWP (X.more (qQg caps)) c1 ⟨(tf,.fn fc caps)::σ1.slots,σ1.objs,σ1.used⟩ (qMo X fn.results.toList fc caps (.pv x) [])):AC X.P X.gl f (args.map .pv) [] (.ret (.pv x)) []:=by
 refine⟨⟨fn,hf,hname,by rw [hb];rfl⟩,by simp [Out.names,V.names],by simp [qQc],?_⟩
 intro E w vs hB hl hr
 refine calls_of_wp_defers hf hb ?_
 let C:Ctx:=⟨E,w,[],[],X.nt,[]⟩
 have hC:COK X C:=⟨hB.glob,rfl,fun n o hn=>(by cases hn),fun n hn=>(by cases hn),by simp [C,qVl]⟩
 have hB:qMe X.gl E w []:=hB
 have hG:=Ga.entry (X:=X) (fn:=fn) (args:=args.map .pv) (objs:=[]) (ms:=[]) hnt (by simpa using hal) (by simp) (by rw [qK3];simp [qPg,qZg,qQa]) hB hl hr
 refine h0.wp hX hC (qN0 (objs:=[]) (m:=bs) List.nodup_nil (by simp [qQa])) hG ?_
 intro E1 σ' a1 w1 hR1 hG1
 refine wp_seq ?_
 refine wp_region_list ?_
 -- the closure
 obtain⟨v,w2,E2,hres,hG2,_⟩:=qJo (P:=X.P) (T:=X.T) (note:=.none) (gl:=X.gl) (o:=o1) (r:=R.of (.fn fc caps)) X.ok hC.glob hG1 (by intro d hd;rw [hd1] at hd;cases hd;exact htf) (by rw [ho1];simp only [qQb];rw [hR1.val,hcaps];simp) trivial (by intro n y hw;cases hw)
 unfold wpList
 rw [if_pos (by simp [Region.wanted,hg1])]
 left
 refine hres.wp ?_
 have hslots:σ'.app o1.dst (R.of (.fn fc caps))=⟨(tf,.fn fc caps)::σ'.slots,σ'.objs,σ'.used⟩:=by rw [hd1];rfl
 rw [hslots] at hG2
 unfold wpList
 rw [if_pos (by simp [Region.wanted,hg2])]
 left
 have hsl:=hG2.slots tf
 simp only [qZi,if_true,RepV] at hsl
 obtain⟨cv,hcv,hcl,hcr⟩:=hsl
 have hun:∀ n∈qQg caps,n∈σ'.used:=by
  intro n hn
  have:=hG2.usedS tf n
  simp only [qZi,if_true,V.names] at this
  exact this hn
 have hrun2:(execOp (a1.put o1.dst v).eval o2).run X.P w2 = .ok (.defer { target:=.fn (.func fc) cv.toArray,args:=#[] }) w2:=by
  simp [execOp,ho2,resolve,Act.eval,hcv,Deferred.ofValue]
 unfold Oper.wp
 rw [hrun2,Oper.upon_defer]
 simp only [wpList]
 have hG3:=hG2.defer (f:=fc) hcl hcr hun
 have hput:({ a1.put o1.dst v with defers:={ target:=.fn (.func fc) cv.toArray,args:=#[] } :: (a1.put o1.dst v).defers } : Act).put o2.dst undef = { a1.put o1.dst v with defers:={ target:=.fn (.func fc) cv.toArray,args:=#[] } :: (a1.put o1.dst v).defers }:=by rw [hd2];rfl
 rw [hput]
 show Code.wp _ _ _ _ _
 have hC':COK (X.more (qQg caps)) { C with defs:=(fc,caps)::C.defs } :=
  ⟨hC.glob,hC.nt,fun n o hn=>List.mem_append.2 (.inl (hC.given n o hn)),fun n hn=>List.mem_append.2 (.inl (hC.ms n hn)),fun n hn=>by
   refine List.mem_append.2 (.inr ?_)
   simpa [C,qVl] using hn⟩
 refine wp_mono (h1 σ' hR1 _ _ _ _ hC' hG3) ?_
 rintro e a3 w3 ⟨E3,σ3,ae,hG4,hrel,hq⟩
 obtain⟨cv3,rest,hdefs,hcl3,hcr3,hrest⟩:=hG4.defers.1
 cases hrest
 -- the results and the objects at the end
 have fin:∀ (E4:Env) (σ4:St) (a4:Act) (w4:World),a4.tmps=a3.tmps→Ga { C with defs:=(fc,caps)::C.defs } E4 σ4 a4 w4→qMk X σ4 fn.results.toList=some (.pv x)→qWu [] σ4.objs →
   ∃ v,(results fn a3.tmps).run X.P w4 = .ok v w4 ∧ ∃ E',qPf E w [] E' w4 []∧qD0 E' (.ret (.pv x)) (.returned v):=by
  intro E4 σ4 a4 w4 ht hG5 hres hsub
  obtain⟨v,hv,hrv⟩:=qMm X.ok hG5 hres
  obtain⟨E2,hD,hH,hEE⟩:=hG5.done (objs':=[]) (fun m o hm=>by cases hm) hsub
  refine⟨v,by rw [← ht];exact hv,E2,hD,v,rfl,?_⟩
  exact RepV.mono (E:=E4) (E':=E2) (by rw [hH];exact Hle.refl _) (.pv x) v (by simp [V.names]) hrv
 have hinv:∀ w,(invoke (.fn (.func fc) cv3.toArray) #[]).run X.P w = .ok (.enter fc cv3.toArray) w:=by
  intro w
  obtain⟨fnc,hfn,hnm,hbody⟩:=hdir
  have hb:¬ fnc.body=none:=by intro e;rw [e] at hbody;cases hbody
  have hname' : ¬ fnc.name = "runtime.NumGoroutine" := by simpa using hnm
  simp [invoke,callFunc,hfn,hname',hb]
 have hret:qMk X σ3 fn.results.toList=some (.pv x)→qWu [] σ3.objs→Leaves X.P fn a3.tmps (fun e w' => ∃ E',qPf E w [] E' w' []∧qD0 E' (.ret (.pv x)) e) a3.defers .returning w3:=by
  intro h2 h3
  rw [hdefs]
  refine leaves_cons (f:=fc) (args:=cv3.toArray) (by simp) (hinv w3) ?_
  refine (hid w3 cv3 hcl3).mono ?_
  rintro e u' w' ⟨⟨r,rfl⟩,rfl,rfl⟩
  simp only [settle,Leaves]
  exact fin E3 σ3 a3 w' rfl hG4 h2 h3
 cases ae with
 | normal=>cases hrel;exact hret hq.1 hq.2
 | ret=>cases hrel;exact hret hq.1 hq.2
 | exit i=>exact hq.elim
 | panic p =>
  obtain⟨v,rfl,hv⟩:=hrel
  obtain⟨cobj,cobj',hcatch,hsub,hkeys,hnames,hres,hsub'⟩:=hq
  have hs:=qZ0 hsub
  show Leaves _ _ _ _ _ _ _
  rw [hdefs]
  refine leaves_cons (f:=fc) (args:=cv3.toArray) (by simp) (hinv w3) ?_
  have hbase:qMe X.gl E3 w3 cobj:=⟨hG4.heap,hC.glob.mono hG4.hle,fun n o hn=>hG4.objs n o (hs n o hn),fun n m o o' hn hm=>hG4.apart n m o o' (hs n o hn) (hs m o' hm)⟩
  refine (hcatch E3 w3 cv3 v hbase hcl3 hcr3 hv).mono ?_
  rintro e u' w' ⟨⟨r,rfl⟩,rfl,E5,hD⟩
  have hG5:=hG4.called (dst:=none) (x:=.undef) (v:=undef) (ment:=[]) hD hs (by intro n hn;rw [hkeys] at hn;exact .inl hn) (by simp) (by
   intro m o hm n hn
   have:=(qZw hm).2 n hn
   rw [hnames] at this
   exact .inr (.inl this)) (by simp [RepV]) (by simp [V.names]) (by simp)
  exact fin E5 _ _ w' rfl hG5 hres hsub'
theorem Rel.put {s:IS} {σ:St} (h:Rel s σ) (t:Nat) (v:V):Rel ⟨qYy s.sl (some t) v,s.ob,s.nx,s.dt⟩ ⟨(t,v)::σ.slots,σ.objs,σ.used⟩:=by
 refine⟨fun k => ?_,h.ob,h.us⟩
 show qZi ((t,v)::σ.slots) k=_
 simp only [qYy,Tr.get_put,qZi]
 by_cases e:k=t
 ·simp [e]
 ·have e':¬ t=k:=fun h=>e h.symm
  simp [e,e',h.sl k]
theorem qN2 {X:Env1} (hT:X.T=ev.T) {s:IS} {σ:St} (hR:Rel s σ) {rs:List ResultVar} {x:V} (h:zAl ev.T s rs x):qMk X σ rs=some x:=by
 unfold zAl at h
 unfold qMk
 rw [← qCl hT hR]
 split at h
 ·rename_i xs e
  rw [e,← h];rfl
 ·exact h.elim
structure Dfr (ev:qZx) (P:Program) (f:Nat) (o1 o2:Oper) (co:Array Operand) (caps:List V) (tf fc:Nat):Prop where
 dir:qHb P fc
 m1:o1.op = .makeFunc (.func fc) #[] co
 d1:o1.dst=some tf
 g1:o1.guard=none
 m2:o2.op = .defer { callee:=.value (.tmp tf),args:=#[],argTypes:=#[] }
 d2:o2.dst=none
 g2:o2.guard=none
 id:zQs P fc caps.length
theorem zZv (he:qPk ev P) {N n f rd tf fc:Nat} {args:List PV} {o1 o2:Oper} {co:Array Operand} {caps:List V} {tp:Di} {k:Func→Code→IS→Di→Prop} (h:zAm ev P N n f rd args o1 o2 co caps tf fc tp k) (D:Dfr ev P f o1 o2 co caps tf fc) {x:PV}
  (hk:∀ fn c1 s tp1 X,HX X ev P fn.ntmps s.nx→X.nt=fn.ntmps→k fn c1 s tp1→∀ σ,Rel s σ→∀ Y:Env1,Y.P=P→Y.T=ev.T→Y.gl=ev.gl→AWP X c1 σ (qMo Y fn.results.toList fc caps (.pv x) [])):AC P ev.gl f (args.map .pv) [] (.ret (.pv x)) []:=by
 unfold zAm at h
 split at h
 ·rename_i fn hf
  split at h
  ·rename_i c hb
   obtain⟨hl,h⟩:=qZs h
   obtain⟨ht,h⟩:=qZs h
   obtain⟨hPf,hname⟩:=he.F f fn hf
   let X:Env1:=⟨P,ev.T,ev.gl,[],fn.ntmps,[],he.T,he.mix⟩
   have hX:HX X ev P fn.ntmps 0:=⟨rfl,rfl,rfl,rfl,by simp [X]⟩
   obtain⟨id,ops,c1,s1,tp1,h1,rfl,h2,h3⟩:=qN1 (qJs he N n) _ _ _ h
   obtain⟨h4,h5⟩:=qZs h3
   refine AC.rescue (X:=X) hX hPf hb hname rfl D.dir D.m1 D.d1 D.g1 (by rwa [Nat.blt_eq] at ht) D.m2 D.d2 D.g2 rfl (Nat.le_of_ble_eq_true hl) h1 h2 D.id ?_
   intro σ1 hR1
   exact hk fn c1 ⟨qYy s1.sl (some tf) (.fn fc caps),s1.ob,s1.nx,s1.dt⟩ tp1 (X.more (qQg caps)) ⟨rfl,rfl,rfl,rfl,fun n hn=>qKi h4 n (by simpa [X,Env1.more] using hn)⟩ rfl h5 _ (hR1.put tf (.fn fc caps)) X rfl rfl rfl
  ·exact h.elim
 ·exact h.elim
theorem zZw (he:qPk ev P) {N n f rd tf fc:Nat} {args:List PV} {o1 o2:Oper} {co:Array Operand} {caps:List V} {tp:Di} {x:PV} (h:zCp ev P N n f rd args o1 o2 co caps tf fc tp x) (D:Dfr ev P f o1 o2 co caps tf fc):AC P ev.gl f (args.map .pv) [] (.ret (.pv x)) []:=by
 refine zZv he h D ?_
 intro fn c1 s tp1 X hX hnt h σ hR Y hP hT hgl
 obtain⟨e,s',tp',h1,h2⟩:=qQx (qJs he N n) _ _ _ _ h
 refine AWP.mono (h1.awp X hX σ hR) ?_
 rintro ae σ' ⟨rfl,hR'⟩
 cases e with
 | exit i=>exact h2.elim
 | normal=>exact⟨qN2 hT hR' h2,trivial⟩
 | ret=>exact⟨qN2 hT hR' h2,trivial⟩
end
end Go.Lg
