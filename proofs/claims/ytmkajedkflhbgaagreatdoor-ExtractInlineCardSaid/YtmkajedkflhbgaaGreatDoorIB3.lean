/- The engine that computes runs; no conditions. -/
import Derived.Test.YtmkajedkflhbgaaGreatDoorIB2
import Derived.Test.YtmkajedkflhbgaaGreatDoorIA4
import Derived.Scope
set_option linter.all false
namespace Go.Lg
structure Kp where
 sl:List Nat
 on:List Nat
 nx:Nat
 dt:List Nat
inductive De where
 | r (x:PV)
 | d (n:Nat) (o:Ob) (x:V)
 | c (r:aB) (ks:List Nat)
 | o (ro:List Nat) (ch:List (Nat × Ob)) (x:V)
 | i (e:List PV)
 | ok
 | z (n:Nat)
 | y (z:Int)
 | v (p:PV)
 | s
 | fb (n:Nat) (b:Option Bool)
 | b (v:Bool)
 | l (k:Kp) (e:AE) (s:IS)
 | n (tp:List (Nat × De))
 | f (n:Nat) (ps:List (List PV))
 | w (r:RB)
 | g
abbrev De.T:De:=.r (.bool true)
abbrev De.F:De:=.r (.bool false)
abbrev De.G:De:=.b true
abbrev De.H:De:=.b false
abbrev De.U (l:List PV):De:=.r (.tuple l)
abbrev Di:=List (Nat × De)
def cL (n:Nat):Di->Option (De × Di)
 | []=>none
 | p::r=>match p with
  | (m,e)=>bif Nat.beq m n then some (e,r) else (match cL n r with
   | some (x,r')=>some (x,(m,e)::r')
   | none=>none)
def EG:List (Nat × V)->Tr V->Tr V
 | [],t=>t
 | (n,x)::r,t=>EG r (t.put n (some x))
def DB:List (Nat × Ob)->Tr Ob->Tr Ob
 | [],t=>t
 | (n,x)::r,t=>DB r (t.put n (some x))
def gH {α:Type} (s:Tr α):List Nat->Tr α->Tr α
 | [],t=>t
 | n::r,t=>gH s r (t.put n (s.get n))
def HF (k:Kp) (s:IS):IS:=⟨gH s.sl k.sl .nil,gH s.ob k.on .nil,k.nx,k.dt⟩
def GG (m:Nat):List Nat->Bool
 | []=>true
 | n::r=>bif Nat.blt n m then GG m r else false
def oR (m:Nat) (s:Tr V):List Nat->Bool
 | []=>true
 | t::r=>bif (match s.get t with
  | some v=>GG m v.names
  | none=>true) then oR m s r else false
def xR (m:Nat) (s:Tr Ob):List Nat->Bool
 | []=>true
 | n::r=>bif Nat.blt n m then (bif (match s.get n with
  | some (.arr _ _ _ _)=>true
  | some (.smap _ _)=>true
  | some o=>GG m o.names
  | none=>true) then xR m s r else false) else false
def wF (s:Tr Ob):List Nat->Prop->Prop
 | [],R=>R
 | n::r,R=>match s.get n with
  | some (.arr _ _ _ es)=>qB es=[]/\wF s r R
  | some (.smap _ es)=>OB es=[]/\wF s r R
  | _=>wF s r R
def eL (l m:List Nat):Bool:=match l with
 | []=>true
 | n::r=>bif oC m n then eL r m else false
def Kk {α:Type} : Option α->Bool
 | none=>true
 | some _=>false
def AR (on:List Nat) (s:Tr Ob):Nat->Bool
 | 0=>true
 | n+1=>bif (bif oC on n then true else Kk (s.get n)) then AR on s n else false
def rI (k:Kp) (bs:Nat) (s:IS):Bool :=
 bif Nat.ble bs k.nx then (bif oR k.nx s.sl k.sl then (bif xR k.nx s.ob k.on then (bif AR k.on s.ob bs then (bif eL s.dt k.dt then GG bs k.dt else false) else false) else false) else false) else false
def wl (f:PV->PV):List PV->List PV
 | []=>[]
 | c::r=>f c::wl f r
def PV.w:Nat->PV->PV
 | 0,p=>p
 | n+1,p=>match p with
  | .nils => .slice []
  | .agg cs => .agg (wl (PV.w n) cs)
  | .tuple cs => .tuple (wl (PV.w n) cs)
  | p=>p
def wE (n:Nat):List (List PV)->List (List PV)
 | []=>[]
 | e::r=>wl (PV.w n) e::wE n r
def wV:V->V
 | .pv p => .pv (PV.w 4 p)
 | x=>x
def wG:V->V
 | .gsl _ _ es => .pv (.slice es)
 | x=>x
def Lk (dst:Option Nat) (op:Op) (tp:Di):Option Di:=match op with
 | .move _=>match cL (match dst with|some d=>d|none=>99999) tp with
  | some (.g,tp')=>some tp'
  | _=>none
 | _=>none
def wA:List V->List V
 | []=>[]
 | x::r=>wV x::wA r
def jP (op:Op) (r:RB):RB:=match op with
 | .buildSlice _ _ _=>match r with
  | ⟨.pv (.slice es),none,w⟩=>⟨.pv (.slice (wE 3 es)),none,w⟩
  | r=>r
 | _=>r
def gd (c:Bool) (P:Prop):Prop:=match c with
 | true=>P
 | false=>False
def NV (op:BinOp) (x y:V):Option (Bool × RB):=match x with
 | .pv (.int a)=>match y with
  | .pv (.int b)=>match op with
   | .add=>some (rA (a+b),⟨.pv (.int (a+b)),none,false⟩)
   | .sub=>some (rA (a-b),⟨.pv (.int (a-b)),none,false⟩)
   | .mul=>some (rA (a * b),⟨.pv (.int (a * b)),none,false⟩)
   | .rem=>some (!lB b 0,⟨.pv (.int (a.tmod b)),none,false⟩)
   | _=>none
  | _=>none
 | .pv (.num j a)=>match y with
  | .pv (.num j' b)=>match op with
   | .or=>some (bif GF j j' then rA (HA .or j a b) else false,⟨.pv (.num j (HA .or j a b)),none,false⟩)
   | .and=>some (bif GF j j' then rA (HA .and j a b) else false,⟨.pv (.num j (HA .and j a b)),none,false⟩)
   | .sub=>some (bif GF j j' then rA (j.wrap (a-b)) else false,⟨.pv (.num j (j.wrap (a-b))),none,false⟩)
   | _=>none
  | .pv (.int n)=>match op with
   | .shl=>some (bif kA n 0 then false else rA (j.wrap (a * 2 ^ (min n.toNat j.bits))),⟨.pv (.num j (j.wrap (a * 2 ^ (min n.toNat j.bits)))),none,false⟩)
   | .shr=>some (bif kA n 0 then false else rA (a.fdiv (2 ^ (min n.toNat j.bits))),⟨.pv (.num j (a.fdiv (2 ^ (min n.toNat j.bits)))),none,false⟩)
   | _=>none
  | _=>none
 | _=>none
def OV (e:Nat) (te:TI) (ob:Nat->Option Ob) (nx:Nat) (x y:V):Option (Bool × RB):=match x with
 | .arr n ver len=>match ob n with
  | some (.arr ver' sz ty es)=>match cG y with
   | some ys=>some (Nat.beq ver ver' && Nat.ble len es.length && Nat.beq ty e && Nat.beq sz te.size && Nat.blt 0 sz && bC sz ys && SB ys && Nat.ble (len+ys.length) maxLen && Nat.ble ((len+ys.length) * te.bytes) 140737488355328,
    ⟨.arr n (ver+1) (len+ys.length),some (n,.arr (ver+1) sz ty (es.take len++ys)),false⟩)
   | none=>none
  | _=>none
 | .fsl es=>match y with
  | .pv (.slice (y::ys))=>some (LB te.size es && LB te.size (y::ys) && Nat.blt 0 te.size && Nat.ble (es.length+(y::ys).length) maxLen && Nat.ble ((es.length+(y::ys).length) * te.bytes) 140737488355328,
    ⟨.pv (.slice (es++y::ys)),none,false⟩)
  | _=>none
 | .pv .nils=>match cG y with
  | some ys=>some (Nat.blt 0 te.size && bC te.size ys && SB ys && Nat.ble ys.length maxLen && Nat.ble (ys.length * te.bytes) 140737488355328,
    ⟨.arr nx 1 ys.length,some (nx,.arr 1 te.size e ys),true⟩)
  | none=>none
 | _=>none
def QV (te:TI) (ob:Nat->Option Ob) (x:V) (lo hi mx:Option V):Option (Bool × V):=match x,lo,hi,mx with
 | .pv (.slice es),some (.pv (.int l)),none,none=>match OD l with
  | some k=>some (Nat.ble k es.length && LB te.size es,.pv (.slice (es.drop k)))
  | none=>none
 | .pv (.slice es),none,some (.pv (.int h)),none=>match OD h with
  | some k=>some (Nat.ble k es.length,.pv (.slice (es.take k)))
  | none=>none
 | .arr n ver len,none,some (.pv (.int h)),none=>match OD h,ob n with
  | some k,some (.arr ver' _ _ _)=>some (Nat.beq ver ver' && Nat.ble k len,.arr n ver k)
  | _,_=>none
 | .pv (.slice es),none,some (.pv (.int h)),some (.pv (.int m))=>match OD h,OD m with
  | some k,some l=>some (Nat.beq k es.length && Nat.beq l es.length,.fsl es)
  | _,_=>none
 | _,_,_,_=>none
def NM (T:Nat->Option TI) (nx:Nat) (val:Operand->V) (ob:Nat->Option Ob) (op:Op):Option (Bool × RB):=match op with
 | .binOp b t x y _=>match T t with
  | some _=>NV b (val x) (val y)
  | none=>none
 | .slice t x lo hi mx=>match T t with
  | some ⟨.slice e,_,_,_,_⟩=>match T e with
   | some te=>match QV te ob (val x) (lo.map val) (hi.map val) (mx.map val) with
    | some (c,v)=>some (c,⟨v,none,false⟩)
    | none=>none
   | none=>none
  | _=>none
 | .call { callee:=.builtin .append,args,argTypes } => match argTypes.toList,args.toList with
  | [t,t'],[x,y]=>bif Nat.beq t t' then (match T t with
    | some ⟨.slice e,_,_,_,_⟩=>match T e with
     | some te=>OV e te ob nx (val x) (val y)
     | none=>none
    | _=>none) else none
  | _,_=>none
 | .call { callee:=.builtin .max,args,argTypes:=_ } => match args.toList with
  | [x,y]=>match val x with
   | .pv (.int a)=>match val y with
    | .pv (.int b)=>some (true,⟨.pv (.int (bif kA a b then b else a)),none,false⟩)
    | _=>none
   | _=>none
  | _=>none
 | _=>none
def RV (T:Nat->Option TI) (nx:Nat) (val:Operand->V) (op:Op):Option (Bool × RB):=match op with
 | .buildSlice t len parts=>match T t with
  | some ⟨.slice e,_,_,_,_⟩=>match T e with
   | some te=>match KO 0 (parts.toList.map λ p=>(p.1,val p.2)) with
    | some es=>some (Nat.beq es.length len && Nat.ble len 16777216 && Nat.ble (len * te.size) 16777216 && bC te.size es,⟨.arr nx 0 len,some (nx,.arr 0 te.size e es),true⟩)
    | none=>none
   | none=>none
  | _=>none
 | _=>none
def SV (T:Nat->Option TI) (nx:Nat) (val:Operand->V) (op:Op):Option (Bool × RB):=match op with
 | .call { callee:=.builtin .append,args,argTypes } => match argTypes.toList,args.toList with
  | [t,t'],[x,y]=>bif Nat.beq t t' then (match T t with
    | some ⟨.slice e,_,_,_,_⟩=>match T e with
     | some te=>match val x with
      | .pv .nils=>match val y with
       | .pv (.slice (y::ys))=>some (Nat.blt 0 te.size && LB te.size (y::ys) && SB (vA (y::ys)) && Nat.ble (y::ys).length maxLen && Nat.ble ((y::ys).length * te.bytes) 140737488355328,⟨.gsl nx 1 (y::ys),some (nx,.grow 1 te.size e (y::ys)),true⟩)
       | _=>none
      | _=>none
     | none=>none
    | _=>none) else none
  | _,_=>none
 | _=>none
def TV (T:Nat->Option TI) (val:Operand->V) (op:Op):Option (List (List PV) × Nat × Nat):=match op with
 | .indexAddr t x i=>match val i with
  | .pv (.int z)=>match OD z with
   | some k=>match T t with
    | some ⟨.slice e,_,_,_,_⟩=>match T e with
     | some te=>match val x with
      | .pv (.slice es)=>some (es,k,te.size)
      | _=>none
     | none=>none
    | _=>none
   | none=>none
  | _=>none
 | _=>none
def Pa (q:PV) (y:V):Option Bool:=match q with
 | .nptr cs=>match cs with
  | c::_=>match c with
   | .flg p=>match y with
    | .pv z=>match z with
     | .bool b=>some (bif b then p else true)
     | _=>none
    | _=>none
   | _=>none
  | []=>none
 | _=>none
def UV (T:Nat->Option TI) (val:Operand->V) (dst:Option Nat) (op:Op):Option Bool:=match op with
 | .store t x y=>match dst with
  | none=>match T t with
   | some ti=>match val x with
    | .pv q=>bif Nat.beq 1 ti.size then Pa q (val y) else none
    | _=>none
   | none=>none
  | some _=>none
 | _=>none
def BR (b:Bool):List PV->Option (List PV)
 | []=>none
 | c::r=>match r with
  | []=>match c with
   | .bool x=>match x with
    | false=>some [.flg b]
    | true=>none
   | _=>none
  | _::_=>match c with
   | .flg _=>none
   | c=>match BR b r with
    | some l=>some (c::l)
    | none=>none
def iL (K:List PV->PV) (n:Nat) (ps:List PV) (s:IS):IS:=⟨s.sl.map (bH K n ps),(s.ob.put n none).map (dI K n ps),s.nx,s.dt⟩
def vP (bs n:Nat) (b:Option Bool) (s:IS):Option IS:=bif Nat.blt n bs then none else (match s.ob.get n with
 | some (.box cs)=>match CO cs with
  | some qs=>match b with
   | none=>some (iL .ptr n (wl (PV.w 4) qs) s)
   | some b=>match BR b qs with
    | some ps=>some (iL .nptr n ps s)
    | none=>none
  | none=>none
 | _=>none)
def DR (r:RB) (k:RB->Prop):Prop:=match r with
 | ⟨.pv (.bool c),none,w⟩=>match c with
  | true=>k ⟨.pv (.bool true),none,w⟩
  | false=>k ⟨.pv (.bool false),none,w⟩
 | r=>k r
def VV (r:RB) (v:Bool) (k:RB->Prop):Prop:=match r with
 | ⟨.pv (.bool c),none,w⟩=>c=v/\k ⟨.pv (.bool v),none,w⟩
 | _=>False
def WV:Option Nat->Nat
 | some d=>d
 | none=>99999
def XV (ev:jB) (s:IS) (dst:Option Nat) (op:Op) (tp:Di) (k:RB->Di->Prop):Prop:=match cL (WV dst) tp with
 | none=>match KC ev.T s.nx (s.val ev.gl) s.ob.get dst op with
  | some r=>match op with
   | .binOp _ _ _ _ _=>DR r λ r=>k r tp
   | .unOp _ _ _=>DR r λ r=>k r tp
   | _=>k r tp
  | none=>False
 | some (e,tp')=>match e with
  | .ok=>match NM ev.T s.nx (s.val ev.gl) s.ob.get op with
   | some (c,r)=>c=true/\k r tp'
   | none=>match RV ev.T s.nx (s.val ev.gl) op with
    | some (c,r)=>c=true/\k r tp'
    | none=>False
  | .z n=>match NM ev.T s.nx (s.val ev.gl) s.ob.get op with
   | some (c,r)=>match r with
    | ⟨.pv (.int z),none,false⟩=>(c=true/\z = .ofNat n)/\k ⟨.pv (.int (.ofNat n)),none,false⟩ tp'
    | _=>False
   | none=>False
  | .y y=>match NM ev.T s.nx (s.val ev.gl) s.ob.get op with
   | some (c,r)=>match r with
    | ⟨.pv (.int z),none,false⟩=>(c=true/\z=y)/\k ⟨.pv (.int y),none,false⟩ tp'
    | _=>False
   | none=>False
  | .v p=>match NM ev.T s.nx (s.val ev.gl) s.ob.get op with
   | some (c,r)=>match r with
    | ⟨.pv q,none,false⟩=>(c=true/\q=p)/\k ⟨.pv p,none,false⟩ tp'
    | _=>False
   | none=>False
  | .i x=>match TV ev.T (s.val ev.gl) op with
   | some (es,n,z)=>(QB es n=some x/\LB z es=true)/\k ⟨.pv (.ptr x),none,false⟩ tp'
   | none=>False
  | .s=>match UV ev.T (s.val ev.gl) dst op with
   | some c=>c=true/\k ⟨.undef,none,false⟩ tp'
   | none=>False
  | .b v=>match KC ev.T s.nx (s.val ev.gl) s.ob.get dst op with
   | some r=>VV r v λ r=>k r tp'
   | none=>False
  | .w r=>KC ev.T s.nx (s.val ev.gl) s.ob.get dst op=some r/\k r tp'
  | .g=>match SV ev.T s.nx (s.val ev.gl) op with
   | some (c,r)=>c=true/\k r tp'
   | none=>False
  | _=>False
def sC:List (Nat × Ob)->List Nat
 | []=>[]
 | (n,_)::r=>n::sC r
def HG:List Nat->Bool
 | []=>true
 | n::r=>bif oC r n then false else HG r
def OM (m:List Nat):List Nat->Bool
 | []=>true
 | n::r=>bif oC m n then false else OM m r
def PM {α:Type} : List α->List α->List α
 | [],l=>l
 | x::r,l=>x::PM r l
def wP (s:Tr Ob):List Nat->(List (Nat × Ob)->Prop)->Prop
 | [],k=>k []
 | n::r,k=>match s.get n with
  | some o=>wP s r λ l=>k ((n,o)::l)
  | none=>False
abbrev BD:=Nat->List V->IS->Di->(aB->List Nat->Di->Prop)->Prop
def YV (ev:jB) (P:Program) (call:BD) (f:Nat) (args:List V) (s:IS) (dst:Option Nat) (tp:Di) (k:aB->List Nat->Di->Prop):Prop:=match cL (WV dst) tp with
 | none=>call f args s [] λ r ks _=>k r ks tp
 | some (e,tp')=>match e with
  | .r x=>AC P ev.gl f (wA args) [] (.ret (.pv x)) []/\k ⟨.pv x,[],[],s.nx⟩ [] tp'
  | .d n o' x=>gd (Nat.blt n s.nx) (match s.ob.get n with
   | some o=>AC P ev.gl f (wA args) [(n,o)] (.ret x) [(n,o')]/\k ⟨x,[(n,o')],[],s.nx⟩ [n] tp'
   | none=>False)
  | .n tp=>call f args s tp λ r ks _=>k r ks tp'
  | .o ro ch x=>gd (bif HG (sC ch) then (bif OM (sC ch) ro then (bif GG s.nx (sC ch) then true else false) else false) else false) (wP s.ob ro λ l=>wP s.ob (sC ch) λ l1 =>
   AC P ev.gl f (wA args) (PM l l1) (.ret x) (PM l ch)/\k ⟨x,ch,[],s.nx⟩ (PM ro (sC ch)) tp')
  | .c r ks=>(∃ ro o1,Called P ev.gl s f args r ks ro o1)/\k r ks tp'
  | _=>False
def QM (ev:jB) (P:Program) (call:BD) (bs:Nat) (o:Oper) (s:IS) (tp:Di) (k:IS->Tc->Di->Prop):Prop:=match oG (s.val ev.gl) o.op with
 | some (f,args)=>YV ev P call f args s o.dst tp λ r ks tp=>k (pR bs s o.dst r) ⟨r.ch.map (·.1)++r.nw.map (·.1),ks⟩ tp
 | none=>match Lk o.dst o.op tp with
  | some tp=>match KC ev.T s.nx (s.val ev.gl) s.ob.get o.dst o.op with
   | some r=>k (s.app bs o.dst ⟨wG r.x,r.wr,r.new⟩) ⟨match r.wr with|some (n,_)=>[n]|none=>[],rdN (s.val ev.gl) o.op⟩ tp
   | none=>False
  | none=>XV ev s o.dst o.op tp λ r tp=>k (s.app bs o.dst (jP o.op r)) ⟨match r.wr with|some (n,_)=>[n]|none=>[],rdN (s.val ev.gl) o.op⟩ tp
def ZV (ev:jB) (P:Program) (call:BD) (nt bs:Nat) (all:List Oper) (o:Oper) (s:IS) (tp:Di) (k:IS->Tc->Di->Prop):Prop :=
 gd (rV nt o.dst) (match o.guard with
  | none=>QM ev P call bs o s tp k
  | some (j,want)=>match sV all s j with
   | .pv (.bool b)=>match b with
    | true=>match want with
     | true=>QM ev P call bs o s tp k
     | false=>k ⟨PD s.sl o.dst LM,s.ob,s.nx,s.dt⟩ ⟨[],[]⟩ tp
    | false=>match want with
     | false=>QM ev P call bs o s tp k
     | true=>k ⟨PD s.sl o.dst LM,s.ob,s.nx,s.dt⟩ ⟨[],[]⟩ tp
   | .pv (.tuple [])=>k ⟨PD s.sl o.dst LM,s.ob,s.nx,s.dt⟩ ⟨[],[]⟩ tp
   | _=>False)
def qW (ev:jB) (P:Program) (call:BD) (nt bs:Nat) (all:List Oper):List Oper->IS->List Tc->Di->(IS->List Tc->Di->Prop)->Prop
 | [],s,tr,tp,k=>k s tr tp
 | o::rest,s,tr,tp,k=>ZV ev P call nt bs all o s tp λ s1 tc tp=>qW ev P call nt bs all rest s1 (tc::tr) tp k
def zW (ev:jB) (P:Program) (call:BD) (nt bs:Nat) (ops:List Oper) (draw:Bool) (s:IS) (tp:Di) (k:IS->Di->Prop):Prop :=
 qW ev P call nt bs ops ops (XO bs (RO ops) s) [] tp λ s1 tr tp=>match draw with
  | true=>gd (aV ops) (match MM tr with
   | true=>k s1 tp
   | false=>gd (rR ops tr.reverse) (k s1 tp))
  | false=>k s1 tp
abbrev KT:=AE->IS->Di->Prop
def jW (f:IS->Di->Prop) (k:KT):KT
 | .normal,s,tp=>f s tp
 | .exit i,s,tp=>k (.exit i) s tp
 | .ret,s,tp=>k .ret s tp
def kP (id:Nat) (k:KT):KT
 | .normal,s,tp=>k .normal s tp
 | .exit i,s,tp=>match Nat.beq i id with
  | true=>k .normal s tp
  | false=>k (.exit i) s tp
 | .ret,s,tp=>k .ret s tp
def vW (b:IS->Di->KT->Prop) (k:KT):Nat->IS->Di->Prop
 | 0,_,_=>False
 | m+1,s,tp=>b s tp (jW (vW b k m) k)
def LJ:Code->Option Nat
 | .region id _ _=>some id
 | .seq a b=>match LJ a with
  | some n=>some n
  | none=>LJ b
 | .block _ b=>LJ b
 | .scope b=>LJ b
 | .cond _ a b=>match LJ a with
  | some n=>some n
  | none=>LJ b
 | .loop b=>LJ b
 | _=>none
def Mk (c:Code):Nat:=match LJ c with
 | some n=>n+100000
 | none=>99998
def oL (X:NA) (σ σ':St):Prop:=∀ C E a w,sO X C->Ga C E σ a w->∃ E',Ga C E' σ' a w
structure HX (X:NA) (ev:jB) (P:Program) (nt bs:Nat):Prop where
 P:X.P=P
 T:X.T=ev.T
 gl:X.gl=ev.gl
 nt:X.nt=nt
 given:∀ n∈X.given,n<bs
def xL (e:AE) (s':IS):AB->St->Prop:=λ ae σ'=>ae=AE.x e/\Rel s' σ'
structure Reach (ev:jB) (P:Program) (nt bs:Nat) (c:Code) (s:IS) (e:AE) (s':IS):Prop where
 inv:∀ sub,Inv bs sub s->Inv bs sub s'
 awp:∀ X,HX X ev P nt bs->∀ σ,Rel s σ->AWP X c σ (xL e s')
structure LoopIs (ev:jB) (P:Program) (nt bs:Nat) (b:Code) (s:IS) (e:AE) (s':IS):Prop where
 inv:∀ sub,Inv bs sub s->Inv bs sub s'
 awp:∃ m,∀ X,HX X ev P nt bs->∀ σ,Rel s σ->uH X b (xL e s') m σ
def yE (ev:jB) (P:Program) (call:BD) (N nt bs:Nat):Code->IS->Di->KT->Prop
 | .skip,s,tp,k=>k .normal s tp
 | .seq a b,s,tp,k=>yE ev P call N nt bs a s tp (jW (λ s tp=>yE ev P call N nt bs b s tp k) k)
 | .cond c x y,s,tp,k=>match s.val ev.gl c with
  | .pv (.bool b)=>match b with
   | true=>yE ev P call N nt bs x s tp k
   | false=>yE ev P call N nt bs y s tp k
  | _=>False
 | .block id b,s,tp,k=>yE ev P call N nt bs b s tp (kP id k)
 | .exit id,s,tp,k=>k (.exit id) s tp
 | .ret,s,tp,k=>k .ret s tp
 | .region id ops d,s,tp,k=>zW ev P call nt bs ops.toList d s tp λ s tp=>match cL (id+300000) tp with
  | some (.f n ps,tp')=>match s.ob.get n with
   | some (.arr ver _ _ es)=>gd (!Nat.blt n bs) (es=vA ps/\k .normal ⟨s.sl.map (rC n ver ps),(s.ob.put n none).map (JC n ver ps),s.nx,s.dt⟩ tp')
   | _=>False
  | some (.fb n b,tp')=>match vP bs n b s with
   | some s'=>k .normal s' tp'
   | none=>False
  | some (.ok,tp')=>k .normal s tp'
  | _=>k .normal s tp
 | .loop b,s,tp,k=>match cL (Mk b) tp with
  | some (.l kp e s',tp')=>gd (rI kp bs s) (wF s.ob kp.on (LoopIs ev P nt bs b (HF kp s) e s'/\k e s' tp'))
  | _=>vW (yE ev P call N nt bs b) k N s tp
 | .scope b,s,tp,k=>yE ev P call N nt bs b s tp k
 | .label _,s,tp,k=>k .normal s tp
 | _,_,_,_=>False
def IF (ev:jB) (P:Program) (call:BD) (N nt bs:Nat):Code->IS->Di->KT->Prop
 | .seq a b,s,tp,k=>IF ev P call N nt bs a s tp (jW (λ s tp=>IF ev P call N nt bs b s tp k) k)
 | .block id b,s,tp,k=>IF ev P call N nt bs b s tp (kP id k)
 | .scope b,s,tp,k=>IF ev P call N nt bs b s tp k
 | .cond c x y,s,tp,k=>match s.val ev.gl c with
  | .pv (.flg b)=>(b=true->IF ev P call N nt bs x s tp k)/\IF ev P call N nt bs y s tp k
  | .pv (.bool b)=>match b with
   | true=>IF ev P call N nt bs x s tp k
   | false=>IF ev P call N nt bs y s tp k
  | _=>False
 | c,s,tp,k=>yE ev P call N nt bs c s tp k
def Nk (ev:jB) (P:Program) (call:BD) (N:Nat) (fn:Func) (c:Code) (args:List V) (nx:Nat) (sub:Tr Ob) (tp:Di) (k:aB->Di->Prop):Prop :=
 yE ev P call N fn.ntmps nx c ⟨iE 0 args .nil,sub,nx,[]⟩ tp λ e s tp=>match rL ev.T nx sub fn.results.toList e s with
  | some r=>k r tp
  | none=>False
def MJ (ev:jB) (P:Program) (N:Nat):Nat->BD
 | 0=>λ _ _ _ _ _=>False
 | n+1=>λ f args s tp k=>match ev.F f with
  | some fn=>match fn.body with
   | some c=>gd (Nat.ble args.length fn.ntmps) (match reach s.nx s.ob 1000000 (GA args) .nil [] with
    | some (sub,ks)=>Nk ev P (MJ ev P N n) N fn c args s.nx sub tp λ r tp=>k r ks tp
    | none=>False)
   | none=>False
  | none=>False
def Qa (ev:jB) (P:Program) (n N nt bs:Nat) (b:Code) (s:IS) (tp:Di) (ki ko:Kp) (e:AE) (s':IS):Prop :=
 yE ev P (MJ ev P N n) N nt bs b s tp λ e1 s1 _=>match e1 with
  | .normal=>gd (rI ki bs s1) (wF s1.ob ki.on (LoopIs ev P nt bs b (HF ki s1) e s'))
  | e1=>e1=e/\gd (rI ko bs s1) (wF s1.ob ko.on (HF ko s1=s'))
def Ra (r:aB) (x:PV):Prop:=match r with
 | ⟨.pv y,[],[],_⟩=>y.w 4=x
 | _=>False
def wW (ev:jB) (P:Program) (N n f:Nat) (args:List PV) (tp:Di) (x:PV):Prop:=MJ ev P N n f (args.map .pv) ⟨.nil,.nil,0,[]⟩ tp λ r _ _=>Ra r x
def yP (n:Nat) (o:Ob):List (Nat × Ob)->Ob
 | []=>o
 | (m,o')::r=>bif Nat.beq n m then o' else yP n o r
def RM (ch:List (Nat × Ob)):List (Nat × Ob)->List (Nat × Ob)
 | []=>[]
 | (n,o)::r=>(n,yP n o ch)::RM ch r
def Sa (objs:List (Nat × Ob)) (r:aB) (ks:List Nat) (x:V) (objs':List (Nat × Ob)):Prop:=match r with
 | ⟨y,ch,[],_⟩=>gd (bif eL (sC objs) ks then HG (sC ch) else false) ((wV y,RM ch objs)=(x,objs'))
 | _=>False
def Ta (ev:jB) (P:Program) (N n f:Nat) (args:List V) (objs:List (Nat × Ob)) (m:Nat) (tp:Di) (x:V) (objs':List (Nat × Ob)):Prop :=
 gd (HG (sC objs)) (MJ ev P N n f args ⟨.nil,DB objs .nil,m,[]⟩ tp λ r ks _=>Sa objs r ks x objs')
def kW (ev:jB) (P:Program) (N n f:Nat) (args:List PV) (tp:Di) (ko:Kp) (x:PV):Prop:=match ev.F f with
 | some fn=>match fn.body with
  | some c=>gd (Nat.ble args.length fn.ntmps) (IF ev P (MJ ev P N n) N fn.ntmps 0 c ⟨iE 0 (args.map .pv) .nil,.nil,0,[]⟩ tp λ e s _ =>
    gd (rI ko 0 s) (wF s.ob ko.on (rL ev.T 0 .nil fn.results.toList e (HF ko s)=some ⟨.pv x,[],[],ko.nx⟩)))
  | none=>False
 | none=>False
theorem QD {c:Bool} {P:Prop} (h:gd c P):c=true/\P:=by
 unfold gd at h;split at h
 ·exact⟨rfl,h⟩
 ·exact h.elim
theorem Ok {k:TK} {op:BinOp} {x y:V} {yo:Operand} {c:Bool} {r:RB} (h:NV op x y=some (c,r)) (hc:c=true):ro (nL k op x y yo)=some r:=by
 have hn:∀ {d:Bool} {j:IntKind} {z:Int},(bif d then rA z else false)=true->d=true/\xD j z=some (.pv (.num j z)):=by
  intro d j z hd
  cases d with
  | false=>cases hd
  | true=>exact⟨rfl,by unfold xD wR;rw [show rA z=true from hd];rfl⟩
 have hs:∀ {n:Int} {j:IntKind} {z:Int},(bif kA n 0 then false else rA z)=true->kA n 0=false/\xD j z=some (.pv (.num j z)):=by
  intro n j z hd
  cases e:kA n 0 with
  | true=>rw [e] at hd;cases hd
  | false=>rw [e] at hd;exact⟨rfl,by unfold xD wR;rw [show rA z=true from hd];rfl⟩
 unfold NV at h;split at h
 ·rename_i a;split at h
  ·rename_i b;have hi:nL k op (.pv (.int a)) (.pv (.int b)) yo=BJ op a b:=rfl;rw [hi];split at h
   ·cases h;simp only [BJ,FF,hc,cond_true];rfl
   ·cases h;simp only [BJ,FF,hc,cond_true];rfl
   ·cases h;simp only [BJ,FF,hc,cond_true];rfl
   ·cases h;have hb:lB b 0=false:=by simpa using hc
    simp only [BJ,hb,cond_false];rfl
   ·cases h
  ·cases h
 ·rename_i j a;split at h
  ·rename_i j' b;have hi:nL k op (.pv (.num j a)) (.pv (.num j' b)) yo=(bif GF j j' then mL op j a b else none):=rfl;rw [hi];split at h
   ·cases h;obtain⟨h1,h2⟩:=hn (j:=j) hc;rw [h1,cond_true];simp only [mL,h2];rfl
   ·cases h;obtain⟨h1,h2⟩:=hn (j:=j) hc;rw [h1,cond_true];simp only [mL,h2];rfl
   ·cases h;obtain⟨h1,h2⟩:=hn (j:=j) hc;rw [h1,cond_true];simp only [mL,h2];rfl
   ·cases h
  ·rename_i n;have hi:nL k op (.pv (.num j a)) (.pv (.int n)) yo=IM op j a n:=rfl;rw [hi];split at h
   ·cases h;obtain⟨h1,h2⟩:=hs (j:=j) hc;simp only [IM,h1,h2,cond_false];rfl
   ·cases h;obtain⟨h1,h2⟩:=hs (j:=j) hc;simp only [IM,h1,h2,cond_false];rfl
   ·cases h
  ·cases h
 ·cases h
theorem Pk {e:Nat} {te:TI} {ob:Nat->Option Ob} {nx:Nat} {x y:V} {c:Bool} {r:RB} (h:OV e te ob nx x y=some (c,r)) (hc:c=true):gI e te ob nx x y=some r:=by
 unfold OV at h;unfold gI;split at h
 ·split at h
  ·rename_i eo;split at h
   ·rename_i ys ey;cases h;simp only [eo,ey,hc,cond_true]
   ·cases h
  ·cases h
 ·split at h
  ·cases h;simp only [hc,cond_true]
  ·cases h
 ·split at h
  ·rename_i ys ey;cases h;simp only [ey,hc,cond_true]
  ·cases h
 ·cases h
theorem Qk {te:TI} {ob:Nat->Option Ob} {x:V} {lo hi mx:Option V} {c:Bool} {v:V} (h:QV te ob x lo hi mx=some (c,v)) (hc:c=true):HO te ob x lo hi mx=some v:=by
 unfold QV at h;unfold HO;split at h
 ·split at h
  ·rename_i k ek;cases h;simp only [ek,hc,cond_true]
  ·cases h
 ·split at h
  ·rename_i k ek;cases h;simp only [ek,hc,cond_true]
  ·cases h
 ·split at h
  ·rename_i k ver' _ _ _ ek eo;cases h;simp only [ek,eo,hc,cond_true]
  ·cases h
 ·split at h
  ·rename_i k l ek el;cases h;simp only [ek,el,hc,cond_true]
  ·cases h
 ·cases h
theorem ER {T:Nat->Option TI} {nx:Nat} {val:Operand->V} {ob:Nat->Option Ob} {dst:Option Nat} {op:Op} {c:Bool} {r:RB} (h:NM T nx val ob op=some (c,r)) (hc:c=true):KC T nx val ob dst op=some r:=by
 unfold NM at h;split at h
 ·split at h
  ·rename_i ti et;simp only [KC,et];exact Ok h hc
  ·cases h
 ·split at h
  ·rename_i e a b c' d et;split at h
   ·rename_i te ee;split at h
    ·rename_i c1 v hs;cases h;simp only [KC,et,ee,Qk hs hc];rfl
    ·cases h
   ·cases h
  ·cases h
 ·split at h
  ·rename_i t t' x y e1 e2;obtain⟨h1,h⟩:=RA h;split at h
   ·rename_i e a b c' d et;split at h
    ·rename_i te ee;simp only [KC,e1,e2,h1,cond_true,et,ee];exact Pk h hc
    ·cases h
   ·cases h
  ·cases h
 ·split at h
  ·rename_i x y e1;split at h
   ·rename_i a ea;split at h
    ·rename_i b eb;cases h;simp only [KC,e1,ea,eb];rfl
    ·cases h
   ·cases h
  ·cases h
 ·cases h
theorem Rk {T:Nat->Option TI} {nx:Nat} {val:Operand->V} {ob:Nat->Option Ob} {dst:Option Nat} {op:Op} {es:List (List PV)} {n z:Nat} {x:List PV} (h:TV T val op=some (es,n,z)) (h1:QB es n=some x) (h2:LB z es=true):KC T nx val ob dst op=some ⟨.pv (.ptr x),none,false⟩:=by
 unfold TV at h;split at h
 ·rename_i t x' i;split at h
  ·rename_i zi ei;split at h
   ·rename_i k ek;split at h
    ·rename_i e a b c d et;split at h
     ·rename_i te ee;split at h
      ·rename_i es' ex;cases h;simp only [KC,vR,ei,ek,et,ee,ex,h1,h2,cond_true];rfl
      ·cases h
     ·cases h
    ·cases h
   ·cases h
  ·cases h
 ·cases h
theorem Ua {r:RB} {k:RB->Prop} (h:DR r k):k r:=by
 unfold DR at h;split at h
 ·split at h
  ·exact h
  ·exact h
 ·exact h
theorem Sk {r:RB} {v:Bool} {k:RB->Prop} (h:VV r v k):k r:=by
 unfold VV at h;split at h
 ·obtain⟨rfl,h⟩:=h;exact h
 ·exact h.elim
theorem Tk {T:Nat->Option TI} {nx:Nat} {val:Operand->V} {ob:Nat->Option Ob} {dst:Option Nat} {op:Op} {c:Bool} (h:UV T val dst op=some c) (hc:c=true):KC T nx val ob dst op=some ⟨.undef,none,false⟩:=by
 subst hc;unfold UV at h;split at h
 ·rename_i t x y;split at h
  ·split at h
   ·rename_i ti et;split at h
    ·rename_i q eq;obtain⟨h1,h⟩:=RA h;have h1:=Nat.eq_of_beq_eq_true h1;have key:∃ p l b,q = .nptr (.flg p::l)/\val y = .pv (.bool b)/\(bif b then p else true)=true:=by
      unfold Pa at h;split at h
      ·split at h
       ·split at h
        ·split at h
         ·rename_i z hz;split at h
          ·exact⟨_,_,_,rfl,hz,Option.some.inj h⟩
          ·cases h
         ·cases h
        ·cases h
       ·cases h
      ·cases h
     obtain⟨p,l,b,rfl,hy,hb⟩:=key;have h2:YE (.pv (.bool b))=some [.pv (.bool b)]:=rfl;simp only [KC,et,lL,eq,hy,h2,List.length_singleton,<- h1,GO,hb,cond_true];rfl
    ·cases h
   ·cases h
  ·cases h
 ·cases h
def Uk (ev:jB) (s:IS) (dst:Option Nat) (op:Op) (r:RB):Prop:=KC ev.T s.nx (s.val ev.gl) s.ob.get dst op=some r\/r.new=true/\(∃ o,r.wr=some (s.nx,o)) /\ ∃ note,vF (gA ev.T note (s.val ev.gl) s.ob.get dst op) r
theorem Vk {T:Nat->Option TI} {nx:Nat} {val:Operand->V} {ob:Nat->Option Ob} {dst:Option Nat} {op:Op} {c:Bool} {r:RB} (h:RV T nx val op=some (c,r)) (hc:c=true):r.new=true/\(∃ o,r.wr=some (nx,o)) /\ ∃ note,vF (gA T note val ob dst op) r:=by
 unfold RV at h;split at h
 ·split at h
  ·rename_i e _ _ _ _ et;split at h
   ·rename_i te ee;split at h
    ·rename_i es ep;cases h;simp only [Bool.and_eq_true] at hc;obtain⟨⟨⟨a1,a2⟩,a3⟩,a4⟩:=hc;refine⟨rfl,⟨_,rfl⟩,.arr nx te.size e,?_⟩;simp only [gA,et,ee,uV ep];exact⟨_,rfl,⟨⟨Nat.eq_of_beq_eq_true a1,Nat.le_of_ble_eq_true a2,Nat.le_of_ble_eq_true a3,xO a4⟩,rfl,rfl⟩,rfl,rfl,rfl⟩
    ·cases h
   ·cases h
  ·cases h
 ·cases h
theorem Xk {T:Nat->Option TI} {nx:Nat} {val:Operand->V} {ob:Nat->Option Ob} {dst:Option Nat} {op:Op} {c:Bool} {r:RB} (h:SV T nx val op=some (c,r)) (hc:c=true):r.new=true/\(∃ o,r.wr=some (nx,o)) /\ ∃ note,vF (gA T note val ob dst op) r:=by
 unfold SV at h;split at h
 ·split at h
  ·rename_i t t' x y ea eb
   cases e1:Nat.beq t t' with
   | false=>rw [e1] at h;cases h
   | true =>
    rw [e1] at h;have e1:=Nat.eq_of_beq_eq_true e1;subst e1;simp only [cond_true] at h;split at h
    ·rename_i e _ _ _ _ et;split at h
     ·rename_i te ee;split at h
      ·rename_i ex;split at h
       ·rename_i z zs ey;cases h;simp only [Bool.and_eq_true] at hc;obtain⟨⟨⟨⟨a1,a2⟩,a3⟩,a4⟩,a5⟩:=hc;refine⟨rfl,⟨_,rfl⟩,.grow nx te.size e,?_⟩;simp only [gA,ea,eb,et,ee,if_true,eG,ex,ey];exact⟨_,rfl,⟨⟨by first|rfl|trivial,by first|rfl|trivial,ND a1,by simp⟩,gL a2,BO a3,Nat.le_of_ble_eq_true a4,Nat.le_of_ble_eq_true a5⟩,rfl,rfl,rfl⟩
       ·cases h
      ·cases h
     ·cases h
    ·cases h
  ·cases h
 ·cases h
theorem Yk {ev:jB} {s:IS} {dst:Option Nat} {op:Op} {tp:Di} {k:RB->Di->Prop} (h:XV ev s dst op tp k):∃ r tp',Uk ev s dst op r/\k r tp':=by
 unfold XV at h;split at h
 ·split at h
  ·rename_i r hr;split at h
   ·exact⟨r,tp,.inl hr,Ua h⟩
   ·exact⟨r,tp,.inl hr,Ua h⟩
   ·exact⟨r,tp,.inl hr,h⟩
  ·exact h.elim
 ·split at h
  ·split at h
   ·rename_i c r hg;exact⟨r,_,.inl (ER hg h.1),h.2⟩
   ·split at h
    ·rename_i c r hg;exact⟨r,_,.inr (Vk hg h.1),h.2⟩
    ·exact h.elim
  ·split at h
   ·rename_i c r hg;split at h
    ·obtain⟨⟨h1,rfl⟩,h2⟩:=h;exact⟨_,_,.inl (ER hg h1),h2⟩
    ·exact h.elim
   ·exact h.elim
  ·split at h
   ·rename_i c r hg;split at h
    ·obtain⟨⟨h1,rfl⟩,h2⟩:=h;exact⟨_,_,.inl (ER hg h1),h2⟩
    ·exact h.elim
   ·exact h.elim
  ·split at h
   ·rename_i c r hg;split at h
    ·obtain⟨⟨h1,rfl⟩,h2⟩:=h;exact⟨_,_,.inl (ER hg h1),h2⟩
    ·exact h.elim
   ·exact h.elim
  ·split at h
   ·rename_i es n z hg;exact⟨_,_,.inl (Rk hg h.1.1 h.1.2),h.2⟩
   ·exact h.elim
  ·split at h
   ·rename_i c hg;exact⟨_,_,.inl (Tk hg h.1),h.2⟩
   ·exact h.elim
  ·split at h
   ·rename_i r hr;exact⟨r,_,.inl hr,Sk h⟩
   ·exact h.elim
  ·exact⟨_,_,.inl h.1,h.2⟩
  ·split at h
   ·rename_i c r hg;exact⟨r,_,.inr (Xk hg h.1),h.2⟩
   ·exact h.elim
  ·exact h.elim
theorem GR {H:Hp} : ∀ (n:Nat) (p:PV) (v:Value),RepP H p v->RepP H (p.w n) v
 | 0,_,_,h=>h
 | n+1,p,v,h=>by
  have hl:∀ (cs:List PV) (vs:List Value),RepL H cs vs->RepL H (wl (PV.w n) cs) vs:=by
   intro cs
   induction cs with
   | nil=>intro vs _;simp [wl,RepL]
   | cons c r ih =>
    intro vs h
    cases vs with
    | nil=>exact h
    | cons v vs=>exact⟨GR n c v h.1,ih vs h.2⟩
  have hn:∀ (cs:List PV),(wl (PV.w n) cs).length=cs.length:=by
   intro cs
   induction cs with
   | nil=>rfl
   | cons c r ih=>simp [wl,ih]
  unfold PV.w;split
  ·exact Jj h
  ·simp only [RepP] at h ⊢;obtain⟨vs,e1,e2,e3⟩:=h;exact⟨vs,e1,by rw [hn];exact e2,hl _ _ e3⟩
  ·simp only [RepP] at h ⊢;obtain⟨vs,e1,e2,e3⟩:=h;exact⟨vs,e1,by rw [hn];exact e2,hl _ _ e3⟩
  ·exact h
theorem Va (f:PV->PV):∀ (cs:List PV),(wl f cs).length=cs.length
 | []=>rfl
 | c::r=>by simp [wl,Va f r]
theorem yW {H:Hp} (n:Nat):∀ (cs:List PV) (vs:List Value),RepL H cs vs->RepL H (wl (PV.w n) cs) vs
 | [],vs,_=>by simp [wl,RepL]
 | c::r,[],h=>h
 | c::r,v::vs,h=>⟨GR n c v h.1,yW n r vs h.2⟩
theorem HR (n:Nat):∀ (es:List (List PV)),(wE n es).length=es.length
 | []=>rfl
 | c::r=>by simp [wE,HR n r]
theorem Wa {H:Hp} (n:Nat):∀ (es:List (List PV)) (vs:List Value),RepE H es vs->RepE H (wE n es) vs
 | [],vs,_=>by simp [wE,RepE]
 | e::r,vs,h=>⟨yW n e vs h.1,by rw [Va];exact Wa n r _ h.2⟩
theorem Zk (n:Nat) {es:List (List PV)} (h:es=[]):wE n es=[]:=by subst h;rfl
theorem ql (x:V):oM x (wV x):=by
 cases x<;>try exact⟨λ _ _ h=>h,λ _ h=>h⟩
 rename_i p;exact⟨λ E v h=>GR 4 p v h,λ n h=>by simp [wV,V.names] at h⟩
theorem zl (x:V):oM x (wG x):=by
 cases x<;>try exact⟨λ _ _ h=>h,λ _ h=>h⟩
 rename_i n ver es;exact⟨λ E v h=>by simp only [wG,RepV] at h ⊢;exact h.1,λ n h=>by simp [wG,V.names] at h⟩
theorem jl (op:Op) (r:RB):oM r.x (jP op r).x/\(jP op r).wr=r.wr/\(jP op r).new=r.new:=by
 unfold jP;split
 ·split
  ·refine⟨⟨λ E v h => ?_,λ n h=>by simp [V.names] at h⟩,rfl,rfl⟩;rename_i es _;simp only [RepV,RepP] at h ⊢;obtain⟨a,cap,e1,e2,e3,e4⟩:=h;refine⟨a,cap,by rw [HR];exact e1,by rw [HR];exact e2,by rw [HR];exact e3,?_⟩;rcases e4 with e4|⟨b,off,e5,e6⟩
   ·exact .inl (Zk 3 e4)
   ·exact .inr ⟨b,off,e5,Wa 3 _ _ e6⟩
  ·exact⟨⟨λ _ _ h=>h,λ _ h=>h⟩,rfl,rfl⟩
 ·exact⟨⟨λ _ _ h=>h,λ _ h=>h⟩,rfl,rfl⟩
theorem Xa:∀ (l:List V),(wA l).length=l.length
 | []=>rfl
 | x::r=>by simp [wA,Xa r]
theorem yl (x:V):(wV x).names=x.names:=by cases x<;>rfl
theorem Ya:∀ (l:List V),GA (wA l)=GA l
 | []=>rfl
 | x::r=>by simp only [wA,GA,Ya r,yl]
theorem Za {E:Env} : ∀ (l:List V) (vs:List Value),RepVL E l vs->RepVL E (wA l) vs
 | [],_,h=>by simp [wA,RepVL]
 | x::r,[],h=>h
 | x::r,v::vs,h=>⟨(ql x).1 E v h.1,Za r vs h.2⟩
theorem AC.wA {P:Program} {gl:Nat->Option (List PV)} {f:Nat} {args:List V} {objs objs':List (Nat × Ob)} {out:Out} (h:AC P gl f (wA args) objs out objs'):AC P gl f args objs out objs' :=
 h.le (Xa args).symm (by simp only [YD,Ya]) (λ E vs hR=>Za args vs hR)
section
variable {ev:jB} {P:Program}
def NJ (ev:jB) (P:Program) (call:BD):Prop:=∀ (f:Nat) (args:List V) (s:IS) (tp:Di) (k:aB->List Nat->Di->Prop),call f args s tp k->∃ r ks tp',(∃ ro o1,Called P ev.gl s f args r ks ro o1)/\k r ks tp'
theorem kF:∀ l:List (Nat × Ob),sC l=yA l
 | []=>rfl
 | (n,o)::r=>by simp only [sC,kF r];rfl
theorem IR {α:Type} : ∀ a b:List α,PM a b=a++b
 | [],b=>rfl
 | x::r,b=>by simp only [PM,IR r b];rfl
theorem AL:∀ {l:List Nat},HG l=true->l.Nodup
 | [],_=>List.nodup_nil
 | n::r,h=>by
  unfold HG at h
  cases e:oC r n with
  | true=>rw [e] at h;cases h
  | false =>
   rw [e] at h;refine List.nodup_cons.2 ⟨λ hm => ?_,AL h⟩;rw [(EF _ _).2 hm] at e;cases e
theorem zb {m:List Nat} : ∀ {l:List Nat},OM m l=true->∀ n∈l,n ∉ m
 | [],_,n,hn=>by cases hn
 | k::r,h,n,hn=>by
  unfold OM at h
  cases e:oC m k with
  | true=>rw [e] at h;cases h
  | false =>
   rw [e] at h;rcases List.mem_cons.1 hn with rfl|hn
   ·intro hm;rw [(EF _ _).2 hm] at e;cases e
   ·exact zb h n hn
theorem uW {s:Tr Ob} : ∀ {l:List Nat} {k:List (Nat × Ob)->Prop},wP s l k->∃ m,yA m=l/\(∀ p∈m,s.get p.1=some p.2)/\k m
 | [],k,h=>⟨[],rfl,by simp,h⟩
 | n::r,k,h=>by
  unfold wP at h;split at h
  ·rename_i o ho;obtain⟨m,h1,h2,h3⟩:=uW h;refine⟨(n,o)::m,by rw [<- h1];rfl,λ p hp => ?_,h3⟩;rcases List.mem_cons.1 hp with rfl|hp
   ·exact ho
   ·exact h2 p hp
  ·exact h.elim
theorem vb:∀ {l:List (Nat × Ob)} {n:Nat} {o:Ob},(yA l).Nodup->(n,o)∈l->zA l n=some o
 | (k,q)::r,n,o,hd,hm=>by
  have hd:(k::yA r).Nodup:=hd;obtain⟨h1,h2⟩:=List.nodup_cons.1 hd;unfold zA;rcases List.mem_cons.1 hm with e|hm
  ·cases e;simp
  ·have:k≠n:=λ e=>h1 (by rw [e];exact keysO_mem.2 ⟨o,hm⟩)
   rw [if_neg this];exact vb h2 hm
theorem yb {m:Nat} : ∀ {l:List Nat},GG m l=true->∀ n∈l,n<m
 | [],_,n,h=>by cases h
 | k::r,h,n,hn=>by
  unfold GG at h
  cases e:Nat.blt k m with
  | false=>rw [e] at h;cases h
  | true =>
   rw [e] at h;rcases List.mem_cons.1 hn with rfl|hn
   ·exact ND e
   ·exact yb h n hn
theorem ul {call:BD} (hc:NJ ev P call) {f:Nat} {args:List V} {s:IS} {dst:Option Nat} {tp:Di} {k:aB->List Nat->Di->Prop} (h:YV ev P call f args s dst tp k):∃ r ks tp',(∃ ro o1,Called P ev.gl s f args r ks ro o1)/\k r ks tp':=by
 unfold YV at h
 cases ht:cL (WV dst) tp with
 | none =>
  rw [ht] at h;obtain⟨r,ks,_,h1,h2⟩:=hc _ _ _ _ _ h;exact⟨r,ks,tp,h1,h2⟩
 | some p =>
  obtain⟨e,tp'⟩:=p;rw [ht] at h
  cases e with
  | r x=>exact⟨⟨.pv x,[],[],s.nx⟩,[],tp',⟨[],[],⟨h.1.wA,by simp [yA],by simp,by simp [yA],by simp [yA],⟨λ _=>none,by simp⟩,by simp [yA],by simp [yA],Nat.le_refl _,by simp⟩⟩,h.2⟩
  | d n o' x =>
   obtain⟨hn,h⟩:=QD h
   cases ho:s.ob.get n with
   | none=>rw [ho] at h;exact h.elim
   | some o =>
    rw [ho] at h;refine⟨⟨x,[(n,o')],[],s.nx⟩,[n],tp',⟨[],[(n,o)],⟨h.1.wA,by simp [yA],by simp [ho],by simp [yA],by simp [yA],⟨λ _=>some o',by simp⟩,?_,by simp [yA],Nat.le_refl _,by simp [yA]⟩⟩,h.2⟩;intro m hm;have hm:m=n:=by simpa [yA] using hm
    subst hm;exact⟨ND hn,by rw [ho];rfl,by simp [yA]⟩
  | c r ks=>exact⟨r,ks,tp',h.1,h.2⟩
  | o ro ch x =>
   obtain⟨hb,h⟩:=QD h;have hb1:HG (sC ch)=true/\OM (sC ch) ro=true/\GG s.nx (sC ch)=true:=by
    revert hb;cases HG (sC ch)<;>cases OM (sC ch) ro<;>cases GG s.nx (sC ch)<;>simp
   obtain⟨l,h1,h2,h⟩:=uW h;obtain⟨l1,h3,h4,h⟩:=uW h;rw [IR,IR,IR] at h;have hk:yA l1=yA ch:=by rw [h3,kF]
   have hd:=zb hb1.2.1;refine⟨⟨x,ch,[],s.nx⟩,ro++sC ch,tp',⟨l,l1,⟨by simpa using h.1.wA,λ n hn => ?_,λ p hp => ?_,λ n hn => ?_,λ n hn=>by rw [<- hk];exact hn,⟨zA ch,λ n o hn => ?_⟩,λ n hn => ?_,by simp [yA],Nat.le_refl _,λ n hn => ?_⟩⟩,h.2⟩
   ·rw [h1] at hn;have h5:=hd n hn;rw [kF] at h5;exact⟨by rw [hk];exact h5,by simpa using h5⟩
   ·rcases List.mem_append.1 hp with hp|hp
    ·exact h2 p hp
    ·exact h4 p hp
   ·rw [h1,h3] at hn;exact hn
   ·simp only [List.append_nil] at hn;have h5:=AL hb1.1;rw [kF] at h5;exact vb h5 hn
   ·have hn':n∈yA ch:=hn;refine⟨yb hb1.2.2 n (by rw [kF];exact hn'),?_,by rw [hk];exact hn'⟩;rw [<- hk] at hn';obtain⟨o,ho⟩:=keysO_mem.1 hn';rw [h4 _ ho];rfl
   ·rw [kE,List.mem_append,h1,h3];exact List.mem_append.1 hn
  | n OA =>
   obtain⟨r,ks,_,h1,h2⟩:=hc _ _ _ _ _ h;exact⟨r,ks,tp',h1,h2⟩
  | i e=>exact h.elim
  | ok=>exact h.elim
  | z n=>exact h.elim
  | y n=>exact h.elim
  | v p=>exact h.elim
  | s=>exact h.elim
  | fb n b=>exact h.elim
  | b v=>exact h.elim
  | l k e s=>exact h.elim
  | f n ps=>exact h.elim
  | w r=>exact h.elim
  | g=>exact h.elim
open Classical in
noncomputable def JR (f:Nat) (args:List V) (s:IS) (r:aB) (ks:List Nat):Call:=λ f' args' s'=>if f'=f/\args'=args/\s'=s then some (r,ks) else none
theorem bl (f:Nat) (args:List V) (s:IS) (r:aB) (ks:List Nat):JR f args s r ks f args s=some (r,ks):=by simp [JR]
theorem dl {f:Nat} {args:List V} {s:IS} {r:aB} {ks:List Nat} (h:∃ ro o1,Called P ev.gl s f args r ks ro o1):zP ev P (JR f args s r ks):=by
 intro f' args' s' r' ks' e;unfold JR at e;split at e
 ·rename_i hh;obtain⟨rfl,rfl,rfl⟩:=hh;cases e;exact h
 ·cases e
theorem ml:zP ev P (λ _ _ _=>none):=λ _ _ _ _ _ e=>by cases e
structure DoFact (ev:jB) (P:Program) (bs:Nat) (o:Oper) (s s1:IS) (tc:Tc):Prop where
 inv:∀ sub,Inv bs sub s->Inv bs sub s1
 ok:∀ X:NA,X.P=P->X.T=ev.T->X.gl=ev.gl->∀ σ,Rel s σ->∃ e,OpW X o σ e/\Rel s1 (σ.eff o.dst e)/\pI e tc
theorem DoFact.of {call:Call} (hg:zP ev P call) {bs:Nat} {o:Oper} {s s1:IS} {tc:Tc} (h:aL ev call bs o s=some (s1,tc)):DoFact ev P bs o s s1 tc :=
 ⟨λ sub hI=>Fk hg h hI,λ X hP hT hgl σ hR=>Gk hg h hP hT hgl hR⟩
theorem nl {bs:Nat} {s:IS} {d:Option Nat} {r q:RB} (h:q.wr=r.wr) (h':q.new=r.new):s.app bs d q=⟨PD s.sl d q.x,(s.app bs d r).ob,(s.app bs d r).nx,(s.app bs d r).dt⟩:=by
 unfold IS.app;rw [h,h'];split
 ·rfl
 ·cases r.new<;>rfl
theorem bW {bs:Nat} {s:IS} {d:Option Nat} {r:RB} : (s.app bs d r).sl=PD s.sl d r.x:=by
 unfold IS.app;split
 ·rfl
 ·cases r.new<;>rfl
theorem DoFact.weak {bs:Nat} {o:Oper} {s:IS} {r q:RB} {tc:Tc} (h:DoFact ev P bs o s (s.app bs o.dst r) tc) (hx:oM r.x q.x) (hw:q.wr=r.wr) (hn:q.new=r.new):DoFact ev P bs o s (s.app bs o.dst q) tc:=by
 rw [nl hw hn];refine⟨λ sub hI=>(h.inv sub hI).slot _,λ X hP hT hgl σ hR => ?_⟩;obtain⟨⟨x,wr,nw,rd⟩,h1,h2,h3⟩:=h.ok X hP hT hgl σ hR
 cases hd:o.dst with
 | none =>
  refine⟨⟨x,wr,nw,rd⟩,h1,?_,h3⟩;have:=h2;rw [hd] at this;refine⟨λ t => ?_,this.ob,this.us⟩;have:=this.sl t;rw [bW] at this;exact this
 | some d =>
  have hxd:x=r.x\/r.x = .undef\/True:=by simp
  have hsl:=h2.sl d;rw [hd,bW] at hsl;have hxe:x=r.x:=by
   simp only [St.eff,QQ,PD,Tr.get_put,if_true] at hsl;exact hsl
  subst hxe;refine⟨⟨q.x,wr,nw,rd⟩,.weak _ h1 hx,?_,h3⟩;rw [hd] at h2;refine⟨λ t => ?_,h2.ob,h2.us⟩;have:=h2.sl t;rw [bW] at this;simp only [St.eff,QQ,PD,Tr.get_put,Option.some.injEq] at this ⊢;by_cases e:d=t
  ·subst e;simp
  ·rw [if_neg e] at this ⊢;rw [if_neg (λ h=>e h.symm)] at this ⊢;exact this
theorem ub {call:BD} (hc:NJ ev P call) {bs:Nat} {o:Oper} {s:IS} {tp:Di} {k:IS->Tc->Di->Prop} (h:QM ev P call bs o s tp k):∃ s1 tc tp',DoFact ev P bs o s s1 tc/\k s1 tc tp':=by
 unfold QM at h;split at h
 ·rename_i f args hf;obtain⟨r,ks,tp',hC,hk⟩:=ul hc h;refine⟨_,_,tp',DoFact.of (dl (f:=f) (args:=args) (s:=s) (r:=r) (ks:=ks) hC) ?_,hk⟩;unfold aL;rw [hf];simp only [bl,Go.Lg.callR]
 ·rename_i hf;have key:∀ r,KC ev.T s.nx (s.val ev.gl) s.ob.get o.dst o.op=some r->DoFact ev P bs o s (s.app bs o.dst r) ⟨match r.wr with|some (n,_)=>[n]|none=>[],rdN (s.val ev.gl) o.op⟩:=λ r hr=>by
   refine DoFact.of ml (s1:=s.app bs o.dst r) ?_;unfold aL;rw [hf];simp only [hr];rfl
  split at h
  ·split at h
   ·rename_i r hr;exact⟨_,_,_,DoFact.weak (r:=r) (q:=⟨wG r.x,r.wr,r.new⟩) (key r hr) (zl r.x) rfl rfl,h⟩
   ·exact h.elim
  obtain⟨r,tp',hr,hk⟩:=Yk h;obtain⟨h1,h2,h3⟩:=jl o.op r;refine⟨_,_,tp',DoFact.weak (r:=r) ?_ h1 h2 h3,hk⟩;rcases hr with hr|⟨hn,hw,note,hG⟩
  ·exact key r hr
  ·exact⟨λ sub hI=>Ja hI hn hw _,λ X hP hT hgl σ hR=>Ma hG (λ _=>hw) hT hgl hR⟩
structure dW (ev:jB) (P:Program) (nt bs:Nat) (all:List Oper) (o:Oper) (s s1:IS) (tc:Tc):Prop where
 inv:∀ sub,Inv bs sub s->Inv bs sub s1
 ok:∀ X:NA,X.P=P->X.T=ev.T->X.gl=ev.gl->X.nt=nt->∀ σ,Rel s σ->∃ e,SU X all o σ e/\Rel s1 (σ.eff o.dst e)/\pI e tc
theorem LR {nt:Nat} {o:Oper} (h:rV nt o.dst=true) {X:NA} (hnt:X.nt=nt):OU X o.dst:=by
 unfold rV at h;unfold OU;split at h
 ·rename_i d e;rw [e];simp only [hnt];exact ND h
 ·rename_i e;rw [e];trivial
theorem al {call:BD} (hc:NJ ev P call) {nt bs:Nat} {all:List Oper} {o:Oper} {s:IS} {tp:Di} {k:IS->Tc->Di->Prop} (h:ZV ev P call nt bs all o s tp k):∃ s1 tc tp',dW ev P nt bs all o s s1 tc/\k s1 tc tp':=by
 unfold ZV at h;obtain⟨hd,h⟩:=QD h;have hskip:pI DF ⟨[],[]⟩:=⟨by simp [DF,Eff.wn],by simp [DF]⟩;split at h
 ·rename_i hg;obtain⟨s1,tc,tp',h1,h2⟩:=ub hc h;refine⟨s1,tc,tp',⟨h1.inv,λ X hP hT hgl hnt σ hR => ?_⟩,h2⟩;obtain⟨e,h3,h4,h5⟩:=h1.ok X hP hT hgl σ hR;exact⟨e,⟨LR hd hnt,.inl ⟨hg,h3⟩⟩,h4,h5⟩
 ·rename_i j want hg;split at h
  ·rename_i b hb;have key:(b=want->QM ev P call bs o s tp k)->(b≠want->k ⟨PD s.sl o.dst LM,s.ob,s.nx,s.dt⟩ ⟨[],[]⟩ tp)->∃ s1 tc tp',dW ev P nt bs all o s s1 tc/\k s1 tc tp':=by
    intro h1 h2;by_cases e:b=want
    ·obtain⟨s1,tc,tp',h4,h5⟩:=ub hc (h1 e);refine⟨s1,tc,tp',⟨h4.inv,λ X hP hT hgl hnt σ hR => ?_⟩,h5⟩;obtain⟨q,h6,h7,h8⟩:=h4.ok X hP hT hgl σ hR;exact⟨q,⟨LR hd hnt,.inr (.inl ⟨j,want,b,hg,by rw [<- LV hR];exact hb,.inl ⟨e,h6⟩⟩)⟩,h7,h8⟩
    ·exact⟨_,_,tp,⟨λ sub hI=>hI.slot _,λ X hP hT hgl hnt σ hR=>⟨DF,⟨LR hd hnt,.inr (.inl ⟨j,want,b,hg,by rw [<- LV hR];exact hb,.inr ⟨e,rfl⟩⟩)⟩,Na hR _,hskip⟩⟩,h2 e⟩
   split at h
   ·split at h
    ·exact key (λ _=>h) (λ e=>absurd rfl e)
    ·exact key (nofun) (λ _=>h)
   ·split at h
    ·exact key (λ _=>h) (λ e=>absurd rfl e)
    ·exact key (nofun) (λ _=>h)
  ·rename_i hb;exact⟨_,_,tp,⟨λ sub hI=>hI.slot _,λ X hP hT hgl hnt σ hR=>⟨DF,⟨LR hd hnt,.inr (.inr ⟨j,want,hg,by rw [<- LV hR];exact hb,rfl⟩)⟩,Na hR _,hskip⟩⟩,h⟩
  ·exact h.elim
inductive OpsR (ev:jB) (P:Program) (nt bs:Nat) (all:List Oper):List Oper->IS->List Tc->IS->List Tc->Prop
 | nil (s:IS) (tr:List Tc):OpsR ev P nt bs all [] s tr s tr
 | cons {o:Oper} {l:List Oper} {s s1 s2:IS} {tc:Tc} {tr tr2:List Tc} (h:dW ev P nt bs all o s s1 tc) (h':OpsR ev P nt bs all l s1 (tc::tr) s2 tr2):OpsR ev P nt bs all (o::l) s tr s2 tr2
theorem nb {call:BD} (hc:NJ ev P call) {nt bs:Nat} {all:List Oper} : ∀ (l:List Oper) {s:IS} {tr:List Tc} {tp:Di} {k:IS->List Tc->Di->Prop},qW ev P call nt bs all l s tr tp k->∃ s1 tr1 tp',OpsR ev P nt bs all l s tr s1 tr1/\k s1 tr1 tp'
 | [],s,tr,tp,k,h=>⟨s,tr,tp,.nil s tr,h⟩
 | o::l,s,tr,tp,k,h=>by
  obtain⟨s1,tc,tp',h1,h3⟩:=al hc h;obtain⟨s2,tr2,ED,h4,h5⟩:=nb hc l h3;exact⟨s2,tr2,ED,.cons h1 h4,h5⟩
theorem OpsR.inv {nt bs:Nat} {all l:List Oper} {s s1:IS} {tr tr1:List Tc} (h:OpsR ev P nt bs all l s tr s1 tr1) {sub:Tr Ob} (hI:Inv bs sub s):Inv bs sub s1:=by
 induction h with
 | nil=>exact hI
 | cons h _ ih=>exact ih (h.inv sub hI)
theorem OpsR.ok {nt bs:Nat} {all:List Oper} {X:NA} (hP:X.P=P) (hXT:X.T=ev.T) (hgl:X.gl=ev.gl) (hnt:X.nt=nt) {l:List Oper} {s s1:IS} {tr tr1:List Tc} (h:OpsR ev P nt bs all l s tr s1 tr1):∀ {σ:St},Rel s σ ->
  ∃ es tcs,es.length=l.length/\jF X all l es σ/\Rel s1 (UA (λ _=>true) 0 (JB l es) σ)/\tr1=tcs.reverse++tr/\TcsOK es tcs:=by
 induction h with
 | nil s tr=>intro σ hR;exact⟨[],[],rfl,trivial,hR,rfl,rfl,by simp⟩
 | cons h1 _ ih =>
  intro σ hR;obtain⟨e,h2,h3,h4⟩:=h1.ok X hP hXT hgl hnt σ hR;obtain⟨es,tcs,h5,h6,h7,h8,h9⟩:=ih h3;refine⟨e::es,_::tcs,by simp [h5],⟨h2,h6⟩,?_,by simp [h8],h9.cons h4⟩;simp only [JB,List.map_cons,List.zip_cons_cons,UA,if_true];rw [cR];exact h7
theorem AWP.postX {X:NA} {c:Code} {σ:St} {Q Q':AB->St->Prop} (h:AWP X c σ Q) (hq:∀ ae σ',Q ae σ'->(∃ σ'',oL X σ' σ''/\Q' ae σ'') /\ ∀ p,ae ≠ .panic p):AWP X c σ Q':=by
 intro C E a w hC hG;refine wp_mono (h C E a w hC hG) ?_
 rintro e a' w' ⟨E',σ',ae,hG',hr,hqq⟩
 obtain⟨⟨σ'',hw,hq'⟩,hp⟩:=hq ae σ' hqq;obtain⟨E'',hG''⟩:=hw C E' a' w' hC hG';refine⟨E'',σ'',ae,hG'',?_,hq'⟩
 cases ae with
 | panic p=>exact absurd rfl (hp p)
 | _=>exact hr
theorem AWP.wkX {X:NA} {c:Code} {σ σ':St} {Q:AB->St->Prop} (hw:oL X σ σ') (h:AWP X c σ' Q):AWP X c σ Q:=by
 intro C E a w hC hG;obtain⟨E',h'⟩:=hw C E a w hC hG;exact h C E' a w hC h'
theorem ol {call:BD} (hc:NJ ev P call) {nt bs id:Nat} {ops:Array Oper} {d:Bool} {s:IS} {tp:Di} {k:IS->Di->Prop} (h:zW ev P call nt bs ops.toList d s tp k):∃ s1 tp',Reach ev P nt bs (.region id ops d) s .normal s1/\k s1 tp':=by
 unfold zW at h;obtain⟨s1,tr,tp',h1,h2⟩:=nb hc _ h;have hinv:∀ sub,Inv bs sub s->Inv bs sub s1:=λ sub hI=>h1.inv (Jk (RO ops.toList) hI)
 cases d with
 | false =>
  refine⟨s1,tp',⟨hinv,λ X hX σ hR => ?_⟩,h2⟩;obtain⟨σ0,hw,hR0⟩:=Oa (bs:=bs) (RO ops.toList) hR;obtain⟨es,tcs,h3,h4,h5,h6,h7⟩:=h1.ok hX.P hX.T hX.gl hX.nt hR0;exact AWP.wk hw (AWP.seqR h4 ⟨rfl,h5⟩)
 | true =>
  obtain⟨hs,h2⟩:=QD h2;have hq:(MM tr=true\/rR ops.toList tr.reverse=true)/\k s1 tp':=by
   split at h2
   ·rename_i e;exact⟨.inl e,h2⟩
   ·obtain⟨h3,h4⟩:=QD h2;exact⟨.inr h3,h4⟩
  refine⟨s1,tp',⟨hinv,λ X hX σ hR => ?_⟩,hq.2⟩;obtain⟨σ0,hw,hR0⟩:=Oa (bs:=bs) (RO ops.toList) hR;obtain⟨es,tcs,h3,h4,h5,h6,h7⟩:=h1.ok hX.P hX.T hX.gl hX.nt hR0;have htr:tr=tcs.reverse:=by simpa using h6
  refine AWP.wk hw (AWP.anyR h3 h4 (Ik hs ?_ h3 h7) ⟨rfl,h5⟩);rcases hq.1 with e|e
  ·exact .inl (by rw [<- htr];exact e)
  ·exact .inr (by rw [htr,List.reverse_reverse] at e;exact e)
end
theorem AWP.condT {X:NA} {c:Operand} {x y:Code} {σ:St} {Q:AB->St->Prop} {b:Bool} (hv:σ.val X.gl c = .pv (.bool b)) (hx:b=true->AWP X x σ Q) (hy:b=false->AWP X y σ Q):AWP X (.cond c x y) σ Q:=by
 intro C E a w hC hG;have h:=QA hG hC.glob c;rw [hv] at h;exact wp_cond_split (BF h) (λ hb=>hx hb C E a w hC hG) (λ hb=>hy hb C E a w hC hG)
theorem AWP.scopeT {X:NA} {c:Code} {σ:St} {Q:AB->St->Prop} (h:AWP X c σ Q):AWP X (.scope c) σ Q:=by
 intro C E a w hC hG;refine wp_scope_straight (wp_mono (h C E a w hC hG) ?_)
 rintro e a' w' ⟨E',σ',ae,hG',hr,hq⟩
 have hp:BM C Q e a' w':=⟨E',σ',ae,hG',hr,hq⟩
 cases ae with
 | normal=>cases hr;exact hp
 | exit i=>cases hr;exact hp
 | ret=>cases hr;exact hp
 | panic p=>obtain⟨v,rfl,hv⟩:=hr;exact hp
theorem JF {c d:Bool} (h:(bif c then d else false)=true):c=true/\d=true:=by
 cases c with
 | true=>exact⟨rfl,h⟩
 | false=>cases h
theorem MR {m:Nat} : ∀ {l:List Nat},GG m l=true->∀ n∈l,n<m
 | [],_,_,h=>by cases h
 | k::r,h,n,hn=>by
  unfold GG at h;obtain⟨h1,h2⟩:=JF h;rcases List.mem_cons.1 hn with rfl|hn
  ·exact ND h1
  ·exact MR h2 n hn
theorem uP:∀ {l m:List Nat},eL l m=true->∀ n∈l,n∈m
 | [],_,_,_,h=>by cases h
 | k::r,m,h,n,hn=>by
  unfold eL at h;obtain⟨h1,h2⟩:=JF h;rcases List.mem_cons.1 hn with rfl|hn
  ·exact (EF _ _).1 h1
  ·exact uP h2 n hn
theorem pb {m:Nat} {s:Tr V} : ∀ {l:List Nat},oR m s l=true->∀ t∈l,∀ v,s.get t=some v->∀ n∈v.names,n<m
 | [],_,_,h=>by cases h
 | k::r,h,t,ht=>by
  unfold oR at h;obtain⟨h1,h2⟩:=JF h;rcases List.mem_cons.1 ht with rfl|ht
  ·intro v hv;rw [hv] at h1;exact MR h1
  ·exact pb h2 t ht
theorem fW {m:Nat} {s:Tr Ob} : ∀ {l:List Nat},xR m s l=true->∀ t∈l,t<m /\ ∀ o,s.get t=some o->(∃ a b c es,o = .arr a b c es)\/(∃ c es,o = .smap c es) \/ ∀ n∈o.names,n<m
 | [],_,_,h=>by cases h
 | k::r,h,t,ht=>by
  unfold xR at h;obtain⟨h1,h2⟩:=JF h;obtain⟨h3,h4⟩:=JF h2;rcases List.mem_cons.1 ht with rfl|ht
  ·refine⟨ND h1,?_⟩;intro v hv;rw [hv] at h3;cases v<;>first|exact .inl ⟨_,_,_,_,rfl⟩|exact .inr (.inl ⟨_,_,rfl⟩)|exact .inr (.inr (MR h3))
  ·exact fW h4 t ht
structure KN (s:Tr Ob) (l:List Nat):Prop where
 a:∀ t∈l,∀ a b c es,s.get t=some (.arr a b c es)->qB es=[]
 m:∀ t∈l,∀ c es,s.get t=some (.smap c es)->OB es=[]
theorem lH {s:Tr Ob} {R:Prop} : ∀ {l:List Nat},wF s l R->R/\KN s l
 | [],h=>⟨h,⟨(λ t ht=>by cases ht),(λ t ht=>by cases ht)⟩⟩
 | k::r,h=>by
  unfold wF at h;split at h
  ·rename_i es ho;obtain⟨h1,h2⟩:=lH h.2;refine⟨h1,⟨λ t ht a b c es' he => ?_,λ t ht c es' he => ?_⟩⟩
   ·rcases List.mem_cons.1 ht with rfl|ht
    ·rw [ho] at he;cases he;exact h.1
    ·exact h2.a t ht a b c es' he
   ·rcases List.mem_cons.1 ht with rfl|ht
    ·rw [ho] at he;cases he
    ·exact h2.m t ht c es' he
  ·rename_i es ho;obtain⟨h1,h2⟩:=lH h.2;refine⟨h1,⟨λ t ht a b c es' he => ?_,λ t ht c es' he => ?_⟩⟩
   ·rcases List.mem_cons.1 ht with rfl|ht
    ·rw [ho] at he;cases he
    ·exact h2.a t ht a b c es' he
   ·rcases List.mem_cons.1 ht with rfl|ht
    ·rw [ho] at he;cases he;exact h.1
    ·exact h2.m t ht c es' he
  ·rename_i hno hnm;obtain⟨h1,h2⟩:=lH h;refine⟨h1,⟨λ t ht a b c es' he => ?_,λ t ht c es' he => ?_⟩⟩
   ·rcases List.mem_cons.1 ht with rfl|ht
    ·exact absurd he (hno _ _ _ _)
    ·exact h2.a t ht a b c es' he
   ·rcases List.mem_cons.1 ht with rfl|ht
    ·exact absurd he (hnm _ _)
    ·exact h2.m t ht c es' he
theorem sb {on:List Nat} {s:Tr Ob} : ∀ {k:Nat},AR on s k=true->∀ n,n<k->n∈on\/s.get n=none
 | 0,_,_,h=>absurd h (Nat.not_lt_zero _)
 | k+1,h,n,hn=>by
  unfold AR at h;obtain⟨h1,h2⟩:=JF h;by_cases e:n=k
  ·subst e
   cases e1:oC on n with
   | true=>exact .inl ((EF _ _).1 e1)
   | false =>
    rw [e1] at h1;refine .inr ?_
    cases e2:s.get n with
    | none=>rfl
    | some o=>rw [e2] at h1;cases h1
  ·exact sb h2 n (by omega)
theorem bP {α:Type} (s:Tr α):∀ (l:List Nat) (t:Tr α) (n:Nat),(gH s l t).get n=if n∈l then s.get n else t.get n
 | [],t,n=>by simp [gH]
 | k::r,t,n=>by
  simp only [gH,bP s r,Tr.get_put];by_cases h:n∈r
  ·simp [h]
  ·by_cases e:n=k
   ·subst e;simp [h]
   ·simp [h,e]
def lW:Option V->V
 | some v=>v
 | none => .undef
def sI (s:Tr V):List Nat->List (Nat × V)
 | []=>[]
 | t::r=>(t,lW (s.get t))::sI s r
def IG (s:Tr Ob):List Nat->List (Nat × Ob)
 | []=>[]
 | n::r=>match s.get n with
  | some o=>(n,o)::IG s r
  | none=>IG s r
theorem ab (s:Tr V):∀ (l:List Nat) (t:Nat),JA (sI s l) t=if t∈l then lW (s.get t) else .undef
 | [],t=>by simp [sI,JA]
 | k::r,t=>by
  simp only [sI,JA,ab s r];by_cases e:k=t
  ·subst e;simp
  ·have e':¬ t=k:=λ h=>e h.symm
   simp [e,e']
theorem mW (s:Tr Ob):∀ (l:List Nat) (t:Nat),zA (IG s l) t=if t∈l then s.get t else none
 | [],t=>by simp [IG,zA]
 | k::r,t=>by
  simp only [IG]
  cases h:s.get k with
  | none =>
   simp only [mW s r];by_cases e:t=k
   ·subst e;simp [h]
   ·simp [e]
  | some o =>
   simp only [zA,mW s r];by_cases e:k=t
   ·subst e;simp [h]
   ·have e':¬ t=k:=λ h=>e h.symm
    simp [e,e']
theorem xb {s:Tr V} : ∀ {l:List Nat} {n:Nat},n∈yH (sI s l)->∃ t∈l,∃ v,s.get t=some v/\n∈v.names
 | [],n,h=>by cases h
 | k::r,n,h=>by
  simp only [sI,yH,List.mem_append] at h;rcases h with h|h
  ·cases e:s.get k with
   | none=>rw [e] at h;simp [lW,V.names] at h
   | some v=>rw [e] at h;exact⟨k,by simp,v,e,h⟩
  ·obtain⟨t,h1,h2⟩:=xb h;exact⟨t,by simp [h1],h2⟩
theorem nW {s:Tr Ob} : ∀ {l:List Nat} {n:Nat},n∈zE (IG s l)->∃ t∈l,∃ o,s.get t=some o/\(n=t\/n∈o.names)
 | [],n,h=>by cases h
 | k::r,n,h=>by
  simp only [IG] at h;split at h
  ·rename_i o e;simp only [zE,List.mem_cons,List.mem_append] at h;rcases h with h|h
   ·exact⟨k,by simp,o,e,h⟩
   ·obtain⟨t,h1,h2⟩:=nW h;exact⟨t,by simp [h1],h2⟩
  ·obtain⟨t,h1,h2⟩:=nW h;exact⟨t,by simp [h1],h2⟩
structure KpOK (k:Kp) (bs:Nat) (s:IS):Prop where
 le:bs<=k.nx
 sl:∀ t∈k.sl,∀ v,s.sl.get t=some v->∀ n∈v.names,n<k.nx
 on:∀ t∈k.on,t<k.nx /\ ∀ o,s.ob.get t=some o->∀ n∈o.names,n<k.nx
 old:∀ n,n<bs->n∈k.on\/s.ob.get n=none
 dt:∀ n∈s.dt,n∈k.dt
 db:∀ n∈k.dt,n<bs
theorem BL {k:Kp} {bs:Nat} {s:IS} (h:rI k bs s=true) (ha:KN s.ob k.on):KpOK k bs s:=by
 unfold rI at h;obtain⟨h1,h⟩:=JF h;obtain⟨h2,h⟩:=JF h;obtain⟨h3,h⟩:=JF h;obtain⟨h4,h⟩:=JF h;obtain⟨h5,h⟩:=JF h;refine⟨Nat.le_of_ble_eq_true h1,pb h2,λ t ht=>⟨(fW h3 t ht).1,λ o ho n hn => ?_⟩,sb h4,uP h5,MR h⟩;rcases (fW h3 t ht).2 o ho with ⟨a,b,c,es,rfl⟩|⟨c,es,rfl⟩|h6
 ·have:n∈qB es:=hn;rw [ha.a t ht a b c es ho] at this;cases this
 ·have:n∈OB es:=hn;rw [ha.m t ht c es ho] at this;cases this
 ·exact h6 n hn
theorem KpOK.inv {k:Kp} {bs:Nat} {s:IS} (h:KpOK k bs s) {sub:Tr Ob} (hI:Inv bs sub s):Inv bs sub (HF k s):=by
 refine⟨h.le,λ n hn hd => ?_,λ n hn hs => ?_,hI.names,h.db⟩
 ·have:=hI.same n hn (λ hd'=>hd (h.dt n hd'));show (gH s.ob k.on .nil).get n=_;rw [bP];rcases h.old n hn with h1|h1
  ·rw [if_pos h1];exact this
  ·by_cases h2:n∈k.on
   ·rw [if_pos h2];exact this
   ·rw [if_neg h2,<- this,h1];rfl
 ·have hs:((gH s.ob k.on .nil).get n).isSome=true:=hs;rw [bP] at hs;split at hs
  ·exact hI.old n hn hs
  ·cases hs
theorem KpOK.wk {k:Kp} {bs:Nat} {s:IS} (h:KpOK k bs s) {ev:jB} {P:Program} {nt:Nat} {X:NA} (hX:HX X ev P nt bs) {σ:St} (hR:Rel s σ):∃ τ,oL X σ τ/\Rel (HF k s) τ:=by
 refine⟨⟨sI s.sl k.sl,IG s.ob k.on,List.range k.nx⟩,λ C E a w hC hG=>⟨E,Weak.ga (X:=X) (σ:=σ) ⟨?_,?_,?_⟩ hC hG⟩,⟨λ t => ?_,λ n => ?_,λ n hn => ?_⟩⟩
 ·have:∀ (l:List Nat),aO (sI s.sl l) σ.slots:=by
   intro l
   induction l with
   | nil=>trivial
   | cons t r ih=>exact⟨by rw [hR.sl];cases s.sl.get t<;>rfl,ih⟩
  exact this k.sl
 ·refine aR λ p hp => ?_
  have:∀ (l:List Nat),p∈IG s.ob l->s.ob.get p.1=some p.2:=by
   intro l
   induction l with
   | nil=>intro h;cases h
   | cons t r ih =>
    intro h;simp only [IG] at h;split at h
    ·rename_i o e;rcases List.mem_cons.1 h with rfl|h
     ·exact e
     ·exact ih h
    ·exact ih h
  rw [hR.ob];exact this _ hp
 ·refine ZO λ n hn => ?_
  rw [List.mem_append,List.mem_append] at hn;refine List.mem_range.2 ?_;rcases hn with (hn|hn)|hn
  ·obtain⟨t,h1,v,h2,h3⟩:=xb hn;exact h.sl t h1 v h2 n h3
  ·obtain⟨t,h1,o,h2,h3⟩:=nW hn;rcases h3 with rfl|h3
   ·exact (h.on n h1).1
   ·exact (h.on t h1).2 o h2 n h3
  ·have:=hX.given n hn;have:=h.le;omega
 ·show JA (sI s.sl k.sl) t=(match (gH s.sl k.sl .nil).get t with|some v=>v|none => .undef);rw [ab,bP];by_cases h1:t∈k.sl
  ·rw [if_pos h1,if_pos h1];cases s.sl.get t<;>rfl
  ·rw [if_neg h1,if_neg h1];rfl
 ·show zA (IG s.ob k.on) n=(gH s.ob k.on .nil).get n;rw [mW,bP];rfl
 ·exact List.mem_range.1 hn
section
variable {ev:jB} {P:Program}
theorem AE.x_np (e:AE):∀ p,AE.x e ≠ .panic p:=by cases e<;>simp [AE.x]
theorem Reach.seq {nt bs:Nat} {a b:Code} {s s1 s2:IS} {e:AE} (h:Reach ev P nt bs a s .normal s1) (h':Reach ev P nt bs b s1 e s2):Reach ev P nt bs (.seq a b) s e s2:=by
 refine⟨λ sub hI=>h'.inv sub (h.inv sub hI),λ X hX σ hR=>AWP.seq (AWP.mono (h.awp X hX σ hR) ?_)⟩
 rintro ae σ' ⟨rfl,hR'⟩
 exact h'.awp X hX σ' hR'
theorem Reach.seq' {nt bs:Nat} {a b:Code} {s s1:IS} {e:AE} (he:e ≠ .normal) (h:Reach ev P nt bs a s e s1):Reach ev P nt bs (.seq a b) s e s1:=by
 refine⟨h.inv,λ X hX σ hR=>AWP.seq (AWP.mono (h.awp X hX σ hR) ?_)⟩
 rintro ae σ' ⟨rfl,hR'⟩
 cases e with
 | normal=>exact absurd rfl he
 | exit i=>exact⟨rfl,hR'⟩
 | ret=>exact⟨rfl,hR'⟩
theorem LoopIs.reach {nt bs:Nat} {b:Code} {s s':IS} {e:AE} (h:LoopIs ev P nt bs b s e s'):Reach ev P nt bs (.loop b) s e s':=by
 obtain⟨hi,m,h⟩:=h;exact⟨hi,λ X hX σ hR=>Dj m (h X hX σ hR)⟩
theorem LoopIs.round {nt bs:Nat} {b:Code} {s s1 s':IS} {e:AE} (h:Reach ev P nt bs b s .normal s1) (h':LoopIs ev P nt bs b s1 e s'):LoopIs ev P nt bs b s e s':=by
 obtain⟨hi,m,h'⟩:=h';refine⟨λ sub hI=>hi sub (h.inv sub hI),m+1,λ X hX σ hR=>iO (AWP.mono (h.awp X hX σ hR) ?_)⟩
 rintro ae σ' ⟨rfl,hR'⟩
 exact h' X hX σ' hR'
theorem LoopIs.last {nt bs:Nat} {b:Code} {s s':IS} {e:AE} (he:e ≠ .normal) (h:Reach ev P nt bs b s e s'):LoopIs ev P nt bs b s e s':=by
 refine⟨h.inv,1,λ X hX σ hR=>iO (AWP.mono (h.awp X hX σ hR) ?_)⟩
 rintro ae σ' ⟨rfl,hR'⟩
 cases e with
 | normal=>exact absurd rfl he
 | exit i=>exact⟨rfl,hR'⟩
 | ret=>exact⟨rfl,hR'⟩
theorem Reach.keep {nt bs:Nat} {c:Code} {s s':IS} {e:AE} {k:Kp} (hk:KpOK k bs s') (h:Reach ev P nt bs c s e s'):Reach ev P nt bs c s e (HF k s'):=by
 refine⟨λ sub hI=>hk.inv (h.inv sub hI),λ X hX σ hR=>AWP.postX (h.awp X hX σ hR) ?_⟩
 rintro ae σ' ⟨rfl,hR'⟩
 obtain⟨τ,h1,h2⟩:=hk.wk hX hR';exact⟨⟨τ,h1,rfl,h2⟩,AE.x_np e⟩
theorem Reach.kept {nt bs:Nat} {c:Code} {s s':IS} {e:AE} {k:Kp} (hk:KpOK k bs s) (h:Reach ev P nt bs c (HF k s) e s'):Reach ev P nt bs c s e s':=by
 refine⟨λ sub hI=>h.inv sub (hk.inv hI),λ X hX σ hR => ?_⟩;obtain⟨τ,h1,h2⟩:=hk.wk hX hR;exact AWP.wkX h1 (h.awp X hX τ h2)
theorem xl {K:List PV->PV} {n:Nat} {ps:List PV} : ∀ {x:V},n ∉ x.names->bH K n ps x=x:=by
 intro x h;cases x<;>simp only [bH];rename_i m off;rw [if_neg]
 rintro rfl
 exact h (by simp [V.names])
theorem Ab {K:List PV->PV} {n:Nat} {ps:List PV} : ∀ {cs:List V},n ∉ GA cs->AG K n ps cs=cs
 | [],_=>rfl
 | c::cs,h=>by
  simp only [GA,List.mem_append,not_or] at h;simp only [AG];rw [xl h.1,Ab h.2]
theorem Al {K:List PV->PV} {n:Nat} {ps:List PV} {o:Ob} (h:n ∉ o.names):dI K n ps o=o:=by
 cases o with
 | box cs=>simp only [dI];rw [Ab h]
 | _=>rfl
theorem Bl {bs:Nat} {sub:Tr Ob} {s:IS} (hI:Inv bs sub s) {n:Nat} (hn:¬ n<bs) (K:List PV->PV) (ps:List PV):Inv bs sub (iL K n ps s):=by
 have hget:∀ m,((s.ob.put n none).map (dI K n ps)).get m=if m=n then none else (s.ob.get m).map (dI K n ps):=by
  intro m;rw [Tr.get_map,Tr.get_put];split<;>rfl
 refine⟨hI.le,?_,?_,hI.names,hI.dts⟩
 ·intro m hm hd;show ((s.ob.put n none).map (dI K n ps)).get m=_;rw [hget m,if_neg (by omega),hI.same m hm hd]
  cases q:sub.get m with
  | none=>rfl
  | some o =>
   simp only [Option.map_some];rw [Al];intro hk;exact hn ((hI.names m o q).2 n hk)
 ·intro m hm hs;have hs:(((s.ob.put n none).map (dI K n ps)).get m).isSome=true:=hs;rw [hget m,if_neg (by omega)] at hs;exact hI.old m hm (by simpa using hs)
theorem Cl {s:IS} {σ:St} (hR:Rel s σ) {n:Nat} {qs ps:List PV} {K:List PV->PV} (ho:s.ob.get n=some (.box (oA qs))) (hc:oO K qs ps):∃ σ',Wk σ σ'/\Rel (iL K n ps s) σ':=by
 have ho':zA σ.objs n=some (.box (oA qs)):=(hR.ob n).trans ho;refine⟨σ.frb K n ps,λ C E a w hG=>hG.frb ho' hc,⟨?_,?_,hR.us⟩⟩
 ·intro t;simp only [St.frb,iL,WU,hR.sl,Tr.get_map];cases s.sl.get t<;>rfl
 ·intro m;simp only [St.frb,iL,GM,hR.ob,Tr.get_map,Tr.get_put];split<;>rfl
theorem Bb {b:Bool} : ∀ {qs ps:List PV},BR b qs=some ps->flgs qs ps
 | [],_,h=>by cases h
 | [c],ps,h=>by
  cases c with
  | bool x=>cases x with
   | false =>
    have h:some [PV.flg b]=some ps:=h;cases h;exact⟨λ e=>(by cases e),trivial⟩
   | true=>cases h
  | _=>cases h
 | c::d::r,ps,h=>by
  have key:(∀ x,c ≠ .flg x)->(match BR b (d::r) with|some l=>some (c::l)|none=>none)=some ps->flgs (c::d::r) ps:=by
   intro hc h;split at h
   ·rename_i l hl;cases h;rw [flgs.eq_3 _ _ _ _ (λ c b _ e=>hc b e)];exact⟨⟨rfl,λ b e=>hc b e⟩,Bb hl⟩
   ·cases h
  cases c with
  | flg x=>cases h
  | _=>exact key (λ x e=>by cases e) h
theorem Dl (qs:List PV):oO PV.ptr qs (wl (PV.w 4) qs):=by
 intro H cur r;have r:=yW 4 qs cur r;refine⟨cur.map sn,Msk.sn cur,λ _ _=>trivial,λ b H' hh e off => ?_⟩;simp only [RepP];exact⟨b,off,rfl,by rw [e];exact RepL.drop off (RepL.mono hh (wl (PV.w 4) qs) _ _ List.prefix_rfl r.sn)⟩
theorem Cb {bs n:Nat} {b:Option Bool} {s s':IS} (h:vP bs n b s=some s'):¬ n<bs /\ ∃ K qs ps,s.ob.get n=some (.box (oA qs))/\oO K qs ps/\s'=iL K n ps s:=by
 unfold vP at h
 cases e:Nat.blt n bs with
 | true=>rw [e] at h;cases h
 | false =>
  rw [e,cond_false] at h;rw [CG] at e;refine⟨of_decide_eq_false e,?_⟩;split at h
  ·rename_i cs ho;split at h
   ·rename_i qs hq;rw [qV] at hq;have hcs:=cV hq;subst hcs;split at h
    ·cases h;exact⟨_,qs,_,ho,Dl qs,rfl⟩
    ·split at h
     ·rename_i ps hp;cases h;exact⟨_,qs,ps,ho,Hj (Bb hp),rfl⟩
     ·cases h
   ·cases h
  ·cases h
theorem El {bs n:Nat} {b:Option Bool} {s s':IS} {sub:Tr Ob} (h:vP bs n b s=some s') (hI:Inv bs sub s):Inv bs sub s':=by
 obtain⟨hn,K,qs,ps,_,_,rfl⟩:=Cb h;exact Bl hI hn K ps
theorem Fl {bs n:Nat} {b:Option Bool} {s s':IS} {σ:St} (h:vP bs n b s=some s') (hR:Rel s σ):∃ σ',Wk σ σ'/\Rel s' σ':=by
 obtain⟨_,K,qs,ps,ho,hc,rfl⟩:=Cb h;exact Cl hR ho hc
theorem vD {call:BD} (hc:NJ ev P call) {N nt bs:Nat} : ∀ (c:Code) (s:IS) (tp:Di) (k:KT),yE ev P call N nt bs c s tp k->∃ e s' tp',Reach ev P nt bs c s e s'/\k e s' tp'
 | .skip,s,tp,k,h=>⟨.normal,s,tp,⟨λ _ h=>h,λ X hX σ hR C E a w hC hG=>wp_skip ⟨E,σ,.normal,hG,rfl,rfl,hR⟩⟩,h⟩
 | .seq a b,s,tp,k,h=>by
  obtain⟨e,s1,OA,h1,h2⟩:=vD hc a s tp _ h
  cases e with
  | normal =>
   obtain⟨e,s2,ED,h3,h4⟩:=vD hc b s1 OA _ h2;exact⟨e,s2,ED,h1.seq h3,h4⟩
  | exit i=>exact⟨_,s1,OA,h1.seq' (by simp),h2⟩
  | ret=>exact⟨_,s1,OA,h1.seq' (by simp),h2⟩
 | .cond c x y,s,tp,k,h=>by
  unfold yE at h;split at h
  ·rename_i b hb;have hv:∀ X,HX X ev P nt bs->∀ σ,Rel s σ->σ.val X.gl c = .pv (.bool b):=λ X hX σ hR=>by rw [hR.val,hX.gl];exact hb
   split at h
   ·obtain⟨e,s1,OA,h1,h2⟩:=vD hc x s tp _ h;exact⟨e,s1,OA,⟨h1.inv,λ X hX σ hR=>AWP.condT (hv X hX σ hR) (λ _=>h1.awp X hX σ hR) (nofun)⟩,h2⟩
   ·obtain⟨e,s1,OA,h1,h2⟩:=vD hc y s tp _ h;exact⟨e,s1,OA,⟨h1.inv,λ X hX σ hR=>AWP.condT (hv X hX σ hR) (nofun) (λ _=>h1.awp X hX σ hR)⟩,h2⟩
  ·exact h.elim
 | .block id b,s,tp,k,h=>by
  obtain⟨e,s1,OA,h1,h2⟩:=vD hc b s tp _ h;have key:∀ e',(∀ ae σ',xL e s1 ae σ'->cJ id (xL e' s1) ae σ')->Reach ev P nt bs (.block id b) s e' s1:=λ e' hq=>⟨h1.inv,λ X hX σ hR=>AWP.block (AWP.mono (h1.awp X hX σ hR) hq)⟩
  cases e with
  | normal=>exact⟨.normal,s1,OA,key _ (by rintro ae σ' ⟨rfl,hR⟩;exact⟨rfl,hR⟩),h2⟩
  | ret=>exact⟨.ret,s1,OA,key _ (by rintro ae σ' ⟨rfl,hR⟩;exact⟨rfl,hR⟩),h2⟩
  | exit i =>
   simp only [kP] at h2;split at h2
   ·rename_i e;have e:=Nat.eq_of_beq_eq_true e;refine⟨.normal,s1,OA,key _ ?_,h2⟩
    rintro ae σ' ⟨rfl,hR⟩
    simp only [AE.x,cJ,if_pos e];exact⟨rfl,hR⟩
   ·rename_i e;refine⟨.exit i,s1,OA,key _ ?_,h2⟩
    rintro ae σ' ⟨rfl,hR⟩
    have hne:¬ i=id:=λ e'=>by rw [vE e'] at e;cases e
    simp only [AE.x,cJ,if_neg hne];exact⟨rfl,hR⟩
 | .exit id,s,tp,k,h=>⟨.exit id,s,tp,⟨λ _ h=>h,λ X hX σ hR C E a w hC hG=>wp_exit ⟨E,σ,.exit id,hG,rfl,rfl,hR⟩⟩,h⟩
 | .ret,s,tp,k,h=>⟨.ret,s,tp,⟨λ _ h=>h,λ X hX σ hR C E a w hC hG=>wp_ret ⟨E,σ,.ret,hG,rfl,rfl,hR⟩⟩,h⟩
 | .region id ops d,s,tp,k,h=>by
  obtain⟨s1,tp',h1,h2⟩:=ol (id:=id) hc h;split at h2
  ·split at h2
   ·rename_i n ps ED _ _ ver sz ty es ho;obtain⟨hn,rfl,h3⟩:=QD h2;have hn:Nat.blt n bs=false:=by simpa using hn
    have hf:mI bs s1 n=⟨s1.sl.map (rC n ver ps),(s1.ob.put n none).map (JC n ver ps),s1.nx,s1.dt⟩:=by
     unfold mI;rw [hn,ho];simp only [cond_false,gJ]
    refine⟨.normal,_,ED,?_,h3⟩;rw [<- hf];refine⟨λ sub hI=>eV (h1.inv sub hI) n,λ X hX σ hR=>AWP.postX (h1.awp X hX σ hR) ?_⟩
    rintro ae σ' ⟨rfl,hR'⟩
    obtain⟨τ,hw,hRt⟩:=xV (bs:=bs) hR' n;exact⟨⟨τ,λ C E a w _ hG=>hw C E a w hG,rfl,hRt⟩,AE.x_np .normal⟩
   ·exact h2.elim
  ·split at h2
   ·rename_i s2 hf;refine⟨.normal,s2,_,⟨λ sub hI=>El hf (h1.inv sub hI),λ X hX σ hR=>AWP.postX (h1.awp X hX σ hR) ?_⟩,h2⟩
    rintro ae σ' ⟨rfl,hR'⟩
    obtain⟨τ,hw,hRt⟩:=Fl hf hR';exact⟨⟨τ,λ C E a w _ hG=>hw C E a w hG,rfl,hRt⟩,AE.x_np .normal⟩
   ·exact h2.elim
  ·exact⟨.normal,s1,_,h1,h2⟩
  ·exact⟨.normal,s1,tp',h1,h2⟩
 | .loop b,s,tp,k,h=>by
  have hl:∀ m s tp,vW (yE ev P call N nt bs b) k m s tp->∃ e s' tp',LoopIs ev P nt bs b s e s'/\k e s' tp':=by
   intro m
   induction m with
   | zero=>intro s tp h;exact h.elim
   | succ m ih =>
    intro s tp h;obtain⟨e,s1,OA,h1,h2⟩:=vD hc b s tp _ h
    cases e with
    | normal =>
     obtain⟨e,s2,ED,h3,h4⟩:=ih s1 OA h2;exact⟨e,s2,ED,h3.round h1,h4⟩
    | exit i=>exact⟨_,s1,OA,.last (by simp) h1,h2⟩
    | ret=>exact⟨_,s1,OA,.last (by simp) h1,h2⟩
  unfold yE at h;split at h
  ·obtain⟨hk,h0⟩:=QD h;obtain⟨⟨h1,h2⟩,ha⟩:=lH h0;exact⟨_,_,_,h1.reach.kept (BL hk ha),h2⟩
  ·obtain⟨e,s',tp',h1,h2⟩:=hl N s tp h;exact⟨e,s',tp',h1.reach,h2⟩
 | .scope b,s,tp,k,h=>by
  obtain⟨e,s1,OA,h1,h2⟩:=vD hc b s tp _ h;exact⟨e,s1,OA,⟨h1.inv,λ X hX σ hR=>AWP.scopeT (h1.awp X hX σ hR)⟩,h2⟩
 | .label l,s,tp,k,h=>⟨.normal,s,tp,⟨λ _ h=>h,λ X hX σ hR C E a w hC hG=>wp_label ⟨E,σ,.normal,hG,rfl,rfl,hR⟩⟩,h⟩
 | .rangeFunc _ _ _ _,_,_,_,h=>h.elim
 | .goto _,_,_,_,h=>h.elim
 | .refuse _,_,_,_,h=>h.elim
open Classical in
noncomputable def CL (nt bs:Nat) (c:Code) (s:IS) (e:AE) (s':IS):VO:=λ nt' bs' c' s1 k=>if nt'=nt/\bs'=bs/\c'=c/\s1=s then k e s' else none
theorem OR {nt bs:Nat} {c:Code} {s s':IS} {e:AE} (h:Reach ev P nt bs c s e s'):Good ev P (CL nt bs c s e s'):=by
 refine⟨λ nt1 bs1 c1 s1 k r hr sub hI => ?_,λ nt1 bs1 c1 s1 k r hr X hP hXT hgl hnt hgv sub σ hR hI => ?_⟩
 ·unfold CL at hr;split at hr
  ·rename_i hh;obtain⟨rfl,rfl,rfl,rfl⟩:=hh;exact⟨e,s',h.inv sub hI,hr⟩
  ·cases hr
 ·unfold CL at hr;split at hr
  ·rename_i hh;obtain⟨rfl,rfl,rfl,rfl⟩:=hh;refine AWP.mono (h.awp X ⟨hP,hXT,hgl,hnt,hgv⟩ σ hR) ?_
   rintro ae σ' ⟨rfl,hR'⟩
   exact⟨e,s',rfl,hR',h.inv sub hI,hr⟩
  ·cases hr
theorem SM (he:KJ ev P) (N:Nat):∀ (n:Nat),NJ ev P (MJ ev P N n)
 | 0=>λ _ _ _ _ _ h=>h.elim
 | n+1=>λ f args s tp k h=>by
  unfold MJ at h;split at h
  ·rename_i fn hf;split at h
   ·rename_i c hb;obtain⟨hl,h⟩:=QD h;split at h
    ·rename_i sub ks hrc;obtain⟨e,s',tp',h1,h2⟩:=vD (SM he N n) _ _ _ _ h;split at h2
     ·rename_i r hr;refine⟨r,ks,tp',qP (OR h1) he hf hb (Nat.le_of_ble_eq_true hl) hrc ?_,h2⟩;unfold tL CL;simp only [and_self,if_true];exact hr
     ·exact h2.elim
    ·exact h.elim
   ·exact h.elim
  ·exact h.elim
theorem LoopIs.of_round (he:KJ ev P) {n N nt bs:Nat} {b:Code} {s s':IS} {tp:Di} {ki ko:Kp} {e:AE} (h:Qa ev P n N nt bs b s tp ki ko e s'):LoopIs ev P nt bs b s e s':=by
 obtain⟨e1,s1,OA,h1,h2⟩:=vD (SM he N n) _ _ _ _ h
 cases e1 with
 | normal =>
  obtain⟨hk,h2⟩:=QD h2;obtain⟨h2,ha⟩:=lH h2;exact .round (h1.keep (BL hk ha)) h2
 | exit i =>
  obtain⟨rfl,h2⟩:=h2;obtain⟨hk,h2⟩:=QD h2;obtain⟨h2,ha⟩:=lH h2;exact h2 ▸ .last (by simp) (h1.keep (BL hk ha))
 | ret =>
  obtain⟨rfl,h2⟩:=h2;obtain⟨hk,h2⟩:=QD h2;obtain⟨h2,ha⟩:=lH h2;exact h2 ▸ .last (by simp) (h1.keep (BL hk ha))
theorem AC.wO {f:Nat} {args:List V} {p:PV} {objs objs':List (Nat × Ob)} (n:Nat) (h:AC P ev.gl f args objs (.ret (.pv p)) objs'):AC P ev.gl f args objs (.ret (.pv (p.w n))) objs':=h.leO λ H v=>GR n p v
theorem Db (he:KJ ev P) {N n f:Nat} {args:List PV} {tp:Di} {x:PV} (h:wW ev P N n f args tp x):AC P ev.gl f (args.map .pv) [] (.ret (.pv x)) []:=by
 obtain⟨⟨y,ch,nw,nx⟩,ks,tp',⟨ro,o1,hC⟩,hr⟩:=SM he N n _ _ _ _ _ h;unfold Ra at hr;split at hr
 ·rename_i e;cases e;subst hr;have h1:ro=[]:=by
   cases ro with
   | nil=>rfl
   | cons p r=>have:=hC.subs p (by simp);cases this
  have h2:o1=[]:=by
   cases o1 with
   | nil=>rfl
   | cons p r=>have:=hC.subs p (by simp);cases this
  have:=hC.ac;rw [h1,h2] at this;exact AC.wO 4 this
 ·exact hr.elim
end
theorem getO_iff {l:List (Nat × Ob)} {n:Nat} : n∈yA l↔(zA l n).isSome=true:=by
 constructor
 ·intro h
  cases e:zA l n with
  | some o=>rfl
  | none =>
   exfalso
   induction l with
   | nil=>cases h
   | cons p r ih =>
    obtain⟨k,q⟩:=p;unfold zA at e;by_cases hk:k=n
    ·rw [if_pos hk] at e;cases e
    ·rw [if_neg hk] at e;rcases List.mem_cons.1 h with h|h
     ·exact hk h.symm
     ·exact ih h e
 ·intro h;obtain⟨o,ho⟩:=Option.isSome_iff_exists.1 h;exact keysO_mem.2 ⟨o,IJ ho⟩
theorem AC.cong {P:Program} {gl:Nat->Option (List PV)} {f:Nat} {args:List V} {a b a' b':List (Nat × Ob)} {out:Out} (h:AC P gl f args a out a') (h1:∀ n,zA a n=zA b n) (h2:∀ n,zA a' n=zA b' n) (h3:∀ n,n∈pC a->n∈pC b):AC P gl f args b out b':=by
 have k1:∀ n,n∈yA a↔n∈yA b:=λ n=>by rw [getO_iff,getO_iff,h1]
 have k2:∀ n,n∈yA a'↔n∈yA b':=λ n=>by rw [getO_iff,getO_iff,h2]
 have kk:∀ n,(n∈yA a\/n∈yA a'\/n∈YD args a)->(n∈yA b\/n∈yA b'\/n∈YD args b):=by
  rintro n (h|h|h)
  ·exact .inl ((k1 n).1 h)
  ·exact .inr (.inl ((k2 n).1 h))
  ·refine .inr (.inr ?_);rw [YD,List.mem_append] at h ⊢;exact h.imp id (h3 n)
 refine⟨h.direct,λ n hn=>kk n (h.names n hn),λ m o hm n hn=>kk n (h.namesO m o (by rw [h2];exact hm) n hn),λ E w vs hB hl hR => ?_⟩;have hB':pO gl E w a:=⟨hB.heap,hB.glob,λ n o hn=>hB.obs n o (by rw [<- h1];exact hn),λ n m o o' hn hm=>hB.apart n m o o' (by rw [<- h1];exact hn) (by rw [<- h1];exact hm)⟩;refine (h.calls E w vs hB' hl hR).mono ?_
 rintro e w' ⟨E',hD,ho⟩
 refine⟨E',⟨hD.heap,λ n o hn=>hD.obs n o (by rw [h2];exact hn),λ n m o o' hn hm=>hD.apart n m o o' (by rw [h2];exact hn) (by rw [h2];exact hm),hD.hle,hD.size,hD.rest,λ b hb hne=>hD.same b hb (λ n o hn=>hne n o (by rw [<- h1];exact hn)),λ n o b hn hb => ?_,λ n o hn=>hD.ext n o (by rw [h1];exact hn),λ n hn hn'=>hD.other n (by rw [h1];exact hn) (by rw [h2];exact hn')⟩,ho⟩;rcases hD.own n o b (by rw [h2];exact hn) hb with h|⟨m,o',h,h'⟩
 ·exact .inl h
 ·exact .inr ⟨m,o',by rw [<- h1];exact h,h'⟩
theorem QR:∀ (l:List (Nat × Ob)) (t:Tr Ob),(yA l).Nodup->∀ n,(DB l t).get n=match zA l n with|some o=>some o|none=>t.get n
 | [],t,_,n=>rfl
 | (k,q)::r,t,hd,n=>by
  have hd:(k::yA r).Nodup:=hd;obtain⟨h1,h2⟩:=List.nodup_cons.1 hd;simp only [DB];rw [QR r _ h2,Tr.get_put];by_cases e:k=n
  ·subst e;have:zA r k=none:=by
    cases e:zA r k with
    | none=>rfl
    | some o=>exact absurd (getO_iff.2 (by rw [e];rfl)) h1
   rw [this];simp [zA]
  ·rw [if_neg (Ne.symm e)];simp only [zA,if_neg e]
theorem dP:∀ (ch:List (Nat × Ob)) (n:Nat) (o:Ob),yP n o ch=match zA ch n with|some o'=>o'|none=>o
 | [],n,o=>rfl
 | (m,q)::r,n,o=>by
  unfold yP;by_cases e:n=m
  ·subst e;rw [vE rfl];simp [zA]
  ·rw [fL e,cond_false,dP r n o];simp only [zA,if_neg (Ne.symm e)]
theorem pW (ch:List (Nat × Ob)):∀ (l:List (Nat × Ob)) (n:Nat),zA (RM ch l) n=(zA l n).map λ o=>yP n o ch
 | [],n=>rfl
 | (k,q)::r,n=>by
  simp only [RM,zA];by_cases e:k=n
  ·subst e;simp
  ·rw [if_neg e,if_neg e,pW ch r n]
theorem UR (a b:List (Nat × Ob)) (n:Nat):zA (a++b) n=match zA a n with|some o=>some o|none=>zA b n:=by
 induction a with
 | nil=>rfl
 | cons p r ih =>
  obtain⟨k,q⟩:=p;simp only [List.cons_append,zA];by_cases e:k=n
  ·simp [e]
  ·simp only [if_neg e,ih]
theorem Gl {ev:jB} {P:Program} (he:KJ ev P) {N n f m:Nat} {args:List V} {objs objs':List (Nat × Ob)} {tp:Di} {x:V} (h:Ta ev P N n f args objs m tp x objs'):AC P ev.gl f args objs (.ret x) objs':=by
 obtain⟨hd,h⟩:=QD h;obtain⟨⟨y,ch,nw,nx⟩,ks,tp',⟨ro,o1,hC⟩,hr⟩:=SM he N n _ _ _ _ _ h;have hd:=AL hd;rw [kF] at hd;unfold Sa at hr;split at hr
 ·rename_i e;cases e;obtain⟨hb,hr⟩:=QD hr;obtain⟨hk,hn⟩:=JF hb;have hk:=uP hk;rw [kF] at hk;have hn:=AL hn;rw [kF] at hn;cases hr;have hs0:∀ k,(DB objs .nil).get k=zA objs k:=λ k=>by
   rw [QR objs _ hd];cases zA objs k<;>rfl
  have hsub:∀ p∈ro++o1,zA objs p.1=some p.2:=λ p hp=>by rw [<- hs0];exact hC.subs p hp
  have hget:∀ k,zA (ro++o1) k=zA objs k:=by
   intro k
   cases e:zA (ro++o1) k with
   | some o=>exact (hsub (k,o) (IJ e)).symm
   | none =>
    cases e2:zA objs k with
    | none=>rfl
    | some o =>
     have h1:=hC.all k (hk k (getO_iff.2 (by rw [e2];rfl)));rw [getO_iff,e] at h1;cases h1
  have key:AC P ev.gl f args objs (.ret y) (RM ch objs):=by
   refine AC.cong hC.ac hget (λ k => ?_) (λ k hk => ?_)
   ·rw [pW,<- hget,List.append_nil,UR,UR]
    cases e:zA ro k with
    | some o =>
     have h1:=(hC.apart k (getO_iff.2 (by rw [e];rfl))).2;have h2:zA ch k=none:=by
      cases e2:zA ch k with
      | none=>rfl
      | some o=>exact absurd (by simpa using getO_iff.2 (by rw [e2];rfl)) h1
     simp only [Option.map_some,dP,h2]
    | none =>
     simp only
     cases e2:zA o1 k with
     | some o =>
      have h1:=hC.inch k (getO_iff.2 (by rw [e2];rfl));obtain⟨o',ho'⟩:=Option.isSome_iff_exists.1 (getO_iff.1 h1);have ho':zA ch k=some o':=ho';simp only [Option.map_some,dP,ho']
     | none =>
      cases e3:zA ch k with
      | none=>rfl
      | some o =>
       have h1:=(hC.chs k (getO_iff.2 (by rw [e3];rfl))).2.2;rw [getO_iff,e2] at h1;cases h1
   ·obtain⟨p,hp,hkp⟩:=mem_mentO.1 hk;exact mem_mentO.2 ⟨p,IJ (hsub p hp),hkp⟩
  cases y with
  | pv p=>exact AC.wO 4 key
  | _=>exact key
 ·exact hr.elim
section
variable {ev:jB} {P:Program}
theorem Eb {X:NA} {b:Code} {Q Q':AB->St->Prop} (hq:∀ ae σ',Q ae σ'->(∃ σ'',oL X σ' σ''/\Q' ae σ'')/\(∀ p,ae ≠ .panic p)/\ae ≠ .normal):∀ (m:Nat) (σ:St),uH X b Q m σ->uH X b Q' m σ
 | 0,_,h=>h
 | m+1,σ,h=>by
  refine iO ?_;intro C E a w hC hG;refine wp_mono (h C E a w hC hG) ?_
  rintro e a' w' ⟨E',σ',ae,hG',hr,hqq⟩
  have key:ae ≠ .normal->Q ae σ'->BM C (TQ (uH X b Q' m) Q') e a' w':=by
   intro hn hh;obtain⟨⟨σ'',hw,hq'⟩,hp,_⟩:=hq ae σ' hh;obtain⟨E'',hG''⟩:=hw C E' a' w' hC hG';refine⟨E'',σ'',ae,hG'',?_,?_⟩
   ·cases ae with
    | panic p=>exact absurd rfl (hp p)
    | _=>exact hr
   ·cases ae with
    | normal=>exact absurd rfl hn
    | _=>exact hq'
  cases ae with
  | normal=>exact⟨E',σ',.normal,hG',hr,Eb hq m σ' hqq⟩
  | exit i=>exact key (by simp) hqq
  | ret=>exact key (by simp) hqq
  | panic p=>exact key (by simp) hqq
theorem LoopIs.post {nt bs:Nat} {b:Code} {s s' s'':IS} {e:AE} (he:e ≠ .normal) (h:LoopIs ev P nt bs b s e s') (hi:∀ sub,Inv bs sub s'->Inv bs sub s'') (hw:∀ X,HX X ev P nt bs->∀ σ,Rel s' σ->∃ τ,oL X σ τ/\Rel s'' τ):LoopIs ev P nt bs b s e s'':=by
 obtain⟨h1,m,h2⟩:=h;refine⟨λ sub hI=>hi sub (h1 sub hI),m,λ X hX σ hR=>Eb ?_ m σ (h2 X hX σ hR)⟩
 rintro ae σ' ⟨rfl,hR'⟩
 obtain⟨τ,h3,h4⟩:=hw X hX σ' hR';exact⟨⟨τ,h3,rfl,h4⟩,AE.x_np e,by cases e<;>simp [AE.x] at he ⊢⟩
def uE (n ver:Nat) (ps:List (List PV)):List (Nat × V)->List (Nat × V)
 | []=>[]
 | (t,x)::r=>(t,rC n ver ps x)::uE n ver ps r
def CD (n ver:Nat) (ps:List (List PV)):List (Nat × Ob)->List (Nat × Ob)
 | []=>[]
 | (m,o)::r=>if m=n then CD n ver ps r else (m,JC n ver ps o)::CD n ver ps r
theorem Fb (n ver:Nat) (ps:List (List PV)):∀ (l:List (Nat × V)) (t t':Tr V) (i:Nat),t'.get i=(t.get i).map (rC n ver ps)->(EG (uE n ver ps l) t').get i=((EG l t).get i).map (rC n ver ps)
 | [],t,t',i,h=>h
 | (k,x)::r,t,t',i,h=>by
  simp only [EG,uE];refine Fb n ver ps r _ _ i ?_;rw [Tr.get_put,Tr.get_put];by_cases e:i=k
  ·rw [if_pos e,if_pos e];rfl
  ·rw [if_neg e,if_neg e];exact h
theorem rW (n ver:Nat) (ps:List (List PV)):∀ (l:List (Nat × Ob)) (t t':Tr Ob) (i:Nat),(i≠n->t'.get i=(t.get i).map (JC n ver ps))->(i=n->t'.get i=none)->(DB (CD n ver ps l) t').get i=if i=n then none else ((DB l t).get i).map (JC n ver ps)
 | [],t,t',i,h,h'=>by
  simp only [CD,DB];split
  ·rename_i e;exact h' e
  ·rename_i e;exact h e
 | (k,x)::r,t,t',i,h,h'=>by
  simp only [CD,DB];split
  ·rename_i e;refine rW n ver ps r _ _ i (λ hi => ?_) h';rw [Tr.get_put,if_neg (λ h=>hi (h.trans e))];exact h hi
  ·rename_i e;refine rW n ver ps r _ _ i (λ hi => ?_) (λ hi => ?_)
   ·rw [Tr.get_put,Tr.get_put];by_cases e1:i=k
    ·rw [if_pos e1,if_pos e1];rfl
    ·rw [if_neg e1,if_neg e1];exact h hi
   ·rw [Tr.get_put,if_neg (λ h=>e (h.symm.trans hi))];exact h' hi
theorem LoopIs.fz {nt bs:Nat} {b:Code} {s:IS} {e:AE} {sl:List (Nat × V)} {ob:List (Nat × Ob)} {nx:Nat} {dt:List Nat} (he:e ≠ .normal) (h:LoopIs ev P nt bs b s e ⟨EG sl .nil,DB ob .nil,nx,dt⟩) (n:Nat) {ver sz ty:Nat} {ps:List (List PV)} (hn:Nat.blt n bs=false)
  (ho:(DB ob .nil).get n=some (.arr ver sz ty (vA ps))):LoopIs ev P nt bs b s e ⟨EG (uE n ver ps sl) .nil,DB (CD n ver ps ob) .nil,nx,dt⟩:=by
 have hf:mI bs ⟨EG sl .nil,DB ob .nil,nx,dt⟩ n=⟨(EG sl .nil).map (rC n ver ps),((DB ob .nil).put n none).map (JC n ver ps),nx,dt⟩:=by
  unfold mI;rw [hn,ho];simp only [cond_false,gJ]
 have h1:∀ i,(EG (uE n ver ps sl) .nil).get i=((EG sl .nil).map (rC n ver ps)).get i:=λ i=>by rw [Tr.get_map];exact Fb n ver ps sl .nil .nil i rfl
 have h2:∀ i,(DB (CD n ver ps ob) .nil).get i=(((DB ob .nil).put n none).map (JC n ver ps)).get i:=λ i=>by
  rw [Tr.get_map,Tr.get_put,rW n ver ps ob .nil .nil i (λ _=>rfl) (λ _=>rfl)];split<;>rfl
 refine h.post he (λ _ hI => ?_) (λ X _ σ hR => ?_)
 ·have:=eV hI n;rw [hf] at this;exact⟨this.le,λ i hi hd=>(h2 i).trans (this.same i hi hd),λ i hi hs=>this.old i hi ((h2 i) ▸ hs),this.names,this.dts⟩
 ·obtain⟨τ,hw,hR'⟩:=xV (bs:=bs) hR n;rw [hf] at hR';exact⟨τ,λ C E a w _ hG=>hw C E a w hG,⟨λ t=>(hR'.sl t).trans (by rw [h1]),λ m=>(hR'.ob m).trans (h2 m).symm,hR'.us⟩⟩
end
section
variable {ev:jB} {P:Program}
structure Reach2 (ev:jB) (P:Program) (nt bs:Nat) (c:Code) (s:IS) (k:KT):Prop where
 syn:∃ e s' tp,(∀ sub,Inv bs sub s->Inv bs sub s')/\k e s' tp
 awp:∀ X,HX X ev P nt bs->∀ σ,Rel s σ->AWP X c σ λ ae σ' => ∃ e s' tp,ae=AE.x e/\Rel s' σ'/\(∀ sub,Inv bs sub s->Inv bs sub s')/\k e s' tp
theorem Reach2.of {nt bs:Nat} {c:Code} {s s':IS} {e:AE} {tp:Di} {k:KT} (h:Reach ev P nt bs c s e s') (hk:k e s' tp):Reach2 ev P nt bs c s k :=
 ⟨⟨e,s',tp,h.inv,hk⟩,λ X hX σ hR=>AWP.mono (h.awp X hX σ hR) (by rintro ae σ' ⟨rfl,hR'⟩;exact⟨e,s',tp,rfl,hR',h.inv,hk⟩)⟩
theorem tI {call:BD} (hc:NJ ev P call) {N nt bs:Nat} : ∀ (c:Code) (s:IS) (tp:Di) (k:KT),IF ev P call N nt bs c s tp k->Reach2 ev P nt bs c s k
 | .seq a b,s,tp,k,h=>by
  have ha:=tI hc a s tp _ h;have hb:∀ s1 OA,IF ev P call N nt bs b s1 OA k->Reach2 ev P nt bs b s1 k:=λ s1 OA h1=>tI hc b s1 OA k h1
  refine⟨?_,λ X hX σ hR=>AWP.seq (AWP.mono (ha.awp X hX σ hR) ?_)⟩
  ·obtain⟨e,s1,OA,hi,h1⟩:=ha.syn
   cases e with
   | normal =>
    obtain⟨e,s2,ED,hi2,h2⟩:=(hb s1 OA h1).syn;exact⟨e,s2,ED,λ sub hI=>hi2 sub (hi sub hI),h2⟩
   | exit i=>exact⟨.exit i,s1,OA,hi,h1⟩
   | ret=>exact⟨.ret,s1,OA,hi,h1⟩
  ·rintro ae σ' ⟨e,s1,OA,rfl,hR',hi,h1⟩
   cases e with
   | normal =>
    refine AWP.mono ((hb s1 OA h1).awp X hX σ' hR') ?_
    rintro ae σ'' ⟨e,s2,ED,rfl,hR2,hi2,h2⟩
    exact⟨e,s2,ED,rfl,hR2,λ sub hI=>hi2 sub (hi sub hI),h2⟩
   | exit i=>exact⟨.exit i,s1,OA,rfl,hR',hi,h1⟩
   | ret=>exact⟨.ret,s1,OA,rfl,hR',hi,h1⟩
 | .block id b,s,tp,k,h=>by
  have hb:=tI hc b s tp _ h;have key:∀ e s1 OA,kP id k e s1 OA->∃ e',k e' s1 OA /\ ∀ (Q:AB->St->Prop) σ',Q (AE.x e') σ'->cJ id Q (AE.x e) σ':=by
   intro e s1 OA h1
   cases e with
   | normal=>exact⟨.normal,h1,λ Q σ' hq=>hq⟩
   | ret=>exact⟨.ret,h1,λ Q σ' hq=>hq⟩
   | exit i =>
    simp only [kP] at h1;split at h1
    ·rename_i e;have e:=Nat.eq_of_beq_eq_true e;refine⟨.normal,h1,λ Q σ' hq => ?_⟩;simp only [AE.x,cJ,if_pos e];exact hq
    ·rename_i e;have hne:¬ i=id:=λ e'=>by rw [vE e'] at e;cases e
     refine⟨.exit i,h1,λ Q σ' hq => ?_⟩;simp only [AE.x,cJ,if_neg hne];exact hq
  refine⟨?_,λ X hX σ hR=>AWP.block (AWP.mono (hb.awp X hX σ hR) ?_)⟩
  ·obtain⟨e,s1,OA,hi,h1⟩:=hb.syn;obtain⟨e',h2,_⟩:=key e s1 OA h1;exact⟨e',s1,OA,hi,h2⟩
  ·rintro ae σ' ⟨e,s1,OA,rfl,hR',hi,h1⟩
   obtain⟨e',h2,h3⟩:=key e s1 OA h1;exact h3 _ σ' ⟨e',s1,OA,rfl,hR',hi,h2⟩
 | .scope b,s,tp,k,h=>by
  have hb:=tI hc b s tp _ h;exact⟨hb.syn,λ X hX σ hR=>AWP.scopeT (hb.awp X hX σ hR)⟩
 | .cond c x y,s,tp,k,h=>by
  unfold IF at h;split at h
  ·rename_i b hb;obtain⟨hx,hy⟩:=h;have hy:=tI hc y s tp k hy;have hx:b=true->Reach2 ev P nt bs x s k:=λ e=>tI hc x s tp k (hx e)
   refine⟨hy.syn,λ X hX σ hR=>Bj (v:=.pv (.flg b)) (by rw [hR.val,hX.gl];exact hb) ⟨λ e=>(hx e).awp X hX σ hR,hy.awp X hX σ hR⟩⟩
  ·rename_i b hb;have hv:∀ X,HX X ev P nt bs->∀ σ,Rel s σ->σ.val X.gl c = .pv (.bool b):=λ X hX σ hR=>by rw [hR.val,hX.gl];exact hb
   split at h
   ·have hx:=tI hc x s tp k h;exact⟨hx.syn,λ X hX σ hR=>AWP.condT (hv X hX σ hR) (λ _=>hx.awp X hX σ hR) (nofun)⟩
   ·have hy:=tI hc y s tp k h;exact⟨hy.syn,λ X hX σ hR=>AWP.condT (hv X hX σ hR) (nofun) (λ _=>hy.awp X hX σ hR)⟩
  ·exact h.elim
 | .skip,s,tp,k,h=>by obtain⟨e,s1,OA,h1,h2⟩:=vD hc .skip s tp k h;exact .of h1 h2
 | .exit id,s,tp,k,h=>by obtain⟨e,s1,OA,h1,h2⟩:=vD hc (.exit id) s tp k h;exact .of h1 h2
 | .ret,s,tp,k,h=>by obtain⟨e,s1,OA,h1,h2⟩:=vD hc .ret s tp k h;exact .of h1 h2
 | .region id ops d,s,tp,k,h=>by obtain⟨e,s1,OA,h1,h2⟩:=vD hc (.region id ops d) s tp k h;exact .of h1 h2
 | .loop b,s,tp,k,h=>by obtain⟨e,s1,OA,h1,h2⟩:=vD hc (.loop b) s tp k h;exact .of h1 h2
 | .label l,s,tp,k,h=>by obtain⟨e,s1,OA,h1,h2⟩:=vD hc (.label l) s tp k h;exact .of h1 h2
 | .rangeFunc a b c d,s,tp,k,h=>by obtain⟨e,s1,OA,h1,h2⟩:=vD hc (.rangeFunc a b c d) s tp k h;exact .of h1 h2
 | .goto l,s,tp,k,h=>by obtain⟨e,s1,OA,h1,h2⟩:=vD hc (.goto l) s tp k h;exact .of h1 h2
 | .refuse l,s,tp,k,h=>by obtain⟨e,s1,OA,h1,h2⟩:=vD hc (.refuse l) s tp k h;exact .of h1 h2
theorem Gb:∀ args:List PV,GA (args.map V.pv)=[]
 | []=>rfl
 | a::l=>by show []++GA (l.map V.pv)=[];rw [Gb l];rfl
open Classical in
noncomputable def fP (nt bs:Nat) (c:Code) (s:IS) (K:AE->IS->Option aB) (r:aB):VO:=λ nt' bs' c' s1 k=>if nt'=nt/\bs'=bs/\c'=c/\s1=s/\k=K then some r else none
theorem Hl (he:KJ ev P) {N n f:Nat} {args:List PV} {tp:Di} {ko:Kp} {x:PV} (h:kW ev P N n f args tp ko x):AC P ev.gl f (args.map .pv) [] (.ret (.pv x)) []:=by
 unfold kW at h;split at h
 ·rename_i fn hf;split at h
  ·rename_i c hb;obtain⟨hl,h⟩:=QD h;have hl:args.length<=fn.ntmps:=Nat.le_of_ble_eq_true hl;let s0:IS:=⟨iE 0 (args.map .pv) .nil,.nil,0,[]⟩;let K:=rL ev.T 0 .nil fn.results.toList;let r:aB:=⟨.pv x,[],[],ko.nx⟩;have hR:=tI (SM he N n) (nt:=fn.ntmps) (bs:=0) c s0 tp _ h;have hend:∀ e s1,gd (rI ko 0 s1) (wF s1.ob ko.on (K e (HF ko s1)=some r))->KpOK ko 0 s1/\K e (HF ko s1)=some r:=by
    intro e s1 h1;obtain⟨hk,h1⟩:=QD h1;obtain⟨h1,ha⟩:=lH h1;exact⟨BL hk ha,h1⟩
   have hg:Good ev P (fP fn.ntmps 0 c s0 K r):=by
    refine⟨λ nt1 bs1 c1 s1 k r1 hr sub hI => ?_,λ nt1 bs1 c1 s1 k r1 hr X hP hXT hgl hnt hgv sub σ hRel hI => ?_⟩
    ·unfold fP at hr;split at hr
     ·rename_i hh;obtain⟨rfl,rfl,rfl,rfl,rfl⟩:=hh;cases hr;obtain⟨e,s2,ED,hi,h2⟩:=hR.syn;obtain⟨h3,h4⟩:=hend e s2 h2;exact⟨e,_,h3.inv (hi sub hI),h4⟩
     ·cases hr
    ·unfold fP at hr;split at hr
     ·rename_i hh;obtain⟨rfl,rfl,rfl,rfl,rfl⟩:=hh;cases hr;have hX:HX X ev P fn.ntmps 0:=⟨hP,hXT,hgl,hnt,hgv⟩;refine AWP.postX (hR.awp X hX σ hRel) ?_
      rintro ae σ' ⟨e,s2,ED,rfl,hR2,hi,h2⟩
      obtain⟨h3,h4⟩:=hend e s2 h2;obtain⟨τ,h5,h6⟩:=h3.wk hX hR2;exact⟨⟨τ,h5,e,_,rfl,h6,h3.inv (hi sub hI),h4⟩,AE.x_np e⟩
     ·cases hr
   have hrun:tL ev (fP fn.ntmps 0 c s0 K r) fn c (args.map .pv) 0 .nil=some r:=by
    unfold tL fP;simp only [s0,K,and_self,if_true]
   have hn:GA (args.map V.pv)=[]:=by
    exact Gb args
   have hrc:reach 0 .nil 1000000 (GA (args.map V.pv)) .nil []=some (.nil,[]):=by rw [hn];rfl
   obtain⟨ro,o1,hC⟩:=qP (s:=⟨.nil,.nil,0,[]⟩) hg he hf hb (by simpa using hl) hrc hrun;have h1:ro=[]:=by
    cases ro with
    | nil=>rfl
    | cons p r=>have:=hC.subs p (by simp);cases this
   have h2:o1=[]:=by
    cases o1 with
    | nil=>rfl
    | cons p r=>have:=hC.subs p (by simp);cases this
   have:=hC.ac;rw [h1,h2] at this;exact this
  ·exact h.elim
 ·exact h.elim
end
end Go.Lg
