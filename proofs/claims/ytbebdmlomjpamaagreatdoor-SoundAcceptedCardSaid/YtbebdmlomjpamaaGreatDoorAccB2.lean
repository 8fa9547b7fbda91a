/- The engine that computes runs; no conditions. -/
import Derived.Test.YtbebdmlomjpamaaGreatDoorAccB1
import Derived.Test.YtbebdmlomjpamaaGreatDoorAccA4
import Derived.Scope
set_option linter.all false
namespace Go.Lg
structure Kp where
 sl:List Nat
 on:List Nat
 nx:Nat
 dt:List Nat
inductive De where|r (x:PV)|d (n:Nat) (o:Ob) (x:V)|c (r:OB) (ks:List Nat)|o (ro:List Nat) (ch:List (Nat×Ob)) (x:V)|i (e:List PV)|ok|z (n:Nat)|y (z:Int)|v (p:PV)|s|fb (n:Nat) (b:Option Bool)|b (v:Bool)|l (k:Kp) (e:AE) (s:IS)|n (tp:List (Nat×De))|f (n:Nat) (ps:List (List PV))|w (r:RB)|g
abbrev De.T:De:=.r (.bool true)
abbrev De.F:De:=.r (.bool false)
abbrev De.G:De:=.b true
abbrev De.H:De:=.b false
abbrev De.U(l:List PV):De:=.r (.tuple l)
abbrev Di:=List (Nat×De)
def BL(n:Nat):Di->Option (De×Di)
 |[]=>none|p::r=>match p with
  |(m,e)=>bif Nat.beq m n then some (e,r)else(match BL n r with
   |some (x,a)=>some (x,(m,e)::a)|none=>none)
def qJ:List (Nat×V)->Tr V->Tr V|[],t=>t|(n,x)::r,t=>qJ r (t.put n (some x))
def QB:List (Nat×Ob)->Tr Ob->Tr Ob|[],t=>t|(n,x)::r,t=>QB r (t.put n (some x))
def vK{α:Type}(s:Tr α):List Nat->Tr α->Tr α|[],t=>t|n::r,t=>vK s r (t.put n (s.get n))
def AH(k:Kp)(s:IS):IS:=⟨vK s.sl k.sl .nil,vK s.ob k.on .nil,k.nx,k.dt⟩
def BH(m:Nat):List Nat->Bool|[]=>true|n::r=>bif Nat.blt n m then BH m r else false
def da(m:Nat)(s:Tr V):List Nat->Bool
 |[]=>true|t::r=>bif (match s.get t with
  |some v=>BH m v.names|none=>true)then da m s r else false
def la(m:Nat)(s:Tr Ob):List Nat->Bool
 |[]=>true|n::r=>bif Nat.blt n m then(bif (match s.get n with
  |some (.arr _ _ _ _)=>true|some (.smap _ _)=>true|some o=>BH m o.names|none=>true)then la m s r else false)else false
def JG(s:Tr Ob):List Nat->Prop->Prop
 |[],R=>R|n::r,R=>match s.get n with|some (.arr _ _ _ a)=>fB a=[]/\JG s r R|some (.smap _ a)=>kD a=[]/\JG s r R|_=>JG s r R
def CL(l m:List Nat):Bool:=match l with|[]=>true|n::r=>bif JD m n then CL r m else false
def Nu{α:Type}:Option α->Bool|none=>true|some _=>false
def ma(a:List Nat)(s:Tr Ob):Nat->Bool|0=>true|n+1=>bif (bif JD a n then true else Nu (s.get n))then ma a s n else false
def DL(k:Kp)(a:Nat)(s:IS):Bool:=
 bif Nat.ble a k.nx then(bif da k.nx s.sl k.sl then(bif la k.nx s.ob k.on then(bif ma k.on s.ob a then(bif CL s.dt k.dt then BH a k.dt else false)else false)else false)else false)else false
def wl(f:PV->PV):List PV->List PV|[]=>[]|c::r=>f c::wl f r
def PV.w:Nat->PV->PV
 |0,p=>p|n+1,p=>match p with|.nils=>.slice []|.agg a=>.agg (wl (PV.w n) a)|.tuple a=>.tuple (wl (PV.w n) a)|p=>p
def wE(n:Nat):List (List PV)->List (List PV)|[]=>[]|e::r=>wl (PV.w n) e::wE n r
def wV:V->V|.pv p=>.pv (PV.w 4 p)|x=>x
def wG:V->V|.gsl _ _ a=>.pv (.slice a)|x=>x
def Ou(a:Option Nat)(op:Op)(b:Di):Option Di:=match op with
 |.move _=>match BL (match a with|some d=>d|none=>99999) b with
  |some (.g,a)=>some a|_=>none
 |_=>none
def wA:List V->List V|[]=>[]|x::r=>wV x::wA r
def vS(op:Op)(r:RB):RB:=match op with
 |.buildSlice _ _ _=>match r with|⟨.pv (.slice a),none,w⟩=>⟨.pv (.slice (wE 3 a)),none,w⟩|r=>r
 |_=>r
def gd(c:Bool)(P:Prop):Prop:=match c with|true=>P|false=>False
def na(op:BinOp)(x y:V):Option (Bool×RB):=match x with
 |.pv (.int a)=>match y with
  |.pv (.int b)=>match op with|.add=>some (xA (a+b),⟨.pv (.int (a+b)),none,false⟩)|.sub=>some (xA (a-b),⟨.pv (.int (a-b)),none,false⟩)|.mul=>some (xA (a*b),⟨.pv (.int (a*b)),none,false⟩)|.rem=>some (!sB b 0,⟨.pv (.int (a.tmod b)),none,false⟩)|_=>none
  |_=>none
 |.pv (.num j a)=>match y with
  |.pv (.num c b)=>match op with|.or=>some (bif xH j c then xA (RA .or j a b)else false,⟨.pv (.num j (RA .or j a b)),none,false⟩)|.and=>some (bif xH j c then xA (RA .and j a b)else false,⟨.pv (.num j (RA .and j a b)),none,false⟩)|.sub=>some (bif xH j c then xA (j.wrap (a-b))else false,⟨.pv (.num j (j.wrap (a-b))),none,false⟩)|_=>none
  |.pv (.int n)=>match op with|.shl=>some (bif dA n 0 then false else xA (j.wrap (a*2^(min n.toNat j.bits))),⟨.pv (.num j (j.wrap (a*2^(min n.toNat j.bits)))),none,false⟩)|.shr=>some (bif dA n 0 then false else xA (a.fdiv (2^(min n.toNat j.bits))),⟨.pv (.num j (a.fdiv (2^(min n.toNat j.bits)))),none,false⟩)|_=>none
  |_=>none
 |_=>none
def pa(e:Nat)(b:TI)(a:Nat->Option Ob)(h:Nat)(x y:V):Option (Bool×RB):=match x with
 |.arr n c len=>match a n with
  |some (.arr f g i d)=>match uI y with
   |some a=>some (Nat.beq c f&&Nat.ble len d.length&&Nat.beq i e&&Nat.beq g b.size&&Nat.blt 0 g&&VC g a&&CC a&&Nat.ble (len+a.length) maxLen&&Nat.ble ((len+a.length)*b.bytes) 140737488355328,
    ⟨.arr n (c+1) (len+a.length),some (n,.arr (c+1) g i (d.take len++a)),false⟩)
   |none=>none
  |_=>none
 |.fsl d=>match y with
  |.pv (.slice (y::a))=>some (tB b.size d&&tB b.size (y::a)&&Nat.blt 0 b.size&&Nat.ble (d.length+(y::a).length) maxLen&&Nat.ble ((d.length+(y::a).length)*b.bytes) 140737488355328,
    ⟨.pv (.slice (d++y::a)),none,false⟩)
  |_=>none
 |.pv .nils=>match uI y with
  |some a=>some (Nat.blt 0 b.size&&VC b.size a&&CC a&&Nat.ble a.length maxLen&&Nat.ble (a.length*b.bytes) 140737488355328,
    ⟨.arr h 1 a.length,some (h,.arr 1 b.size e a),true⟩)
  |none=>none
 |_=>none
def sa(b:TI)(c:Nat->Option Ob)(x:V)(a d e:Option V):Option (Bool×V):=match x,a,d,e with
 |.pv (.slice a),some (.pv (.int l)),none,none=>match uF l with|some k=>some (Nat.ble k a.length&&tB b.size a,.pv (.slice (a.drop k)))|none=>none
 |.pv (.slice a),none,some (.pv (.int h)),none=>match uF h with|some k=>some (Nat.ble k a.length,.pv (.slice (a.take k)))|none=>none
 |.arr n b len,none,some (.pv (.int h)),none=>match uF h,c n with|some k,some (.arr c _ _ _)=>some (Nat.beq b c&&Nat.ble k len,.arr n b k)|_,_=>none
 |.pv (.slice a),none,some (.pv (.int h)),some (.pv (.int m))=>match uF h,uF m with|some k,some l=>some (Nat.beq k a.length&&Nat.beq l a.length,.fsl a)|_,_=>none
 |_,_,_,_=>none
def oP(T:Nat->Option TI)(g:Nat)(val:Operand->V)(f:Nat->Option Ob)(op:Op):Option (Bool×RB):=match op with
 |.binOp b t x y _=>match T t with|some _=>na b (val x) (val y)|none=>none
 |.slice t x h i j=>match T t with
  |some ⟨.slice e,_,_,_,_⟩=>match T e with
   |some d=>match sa d f (val x) (h.map val) (i.map val) (j.map val)with|some (c,v)=>some (c,⟨v,none,false⟩)|none=>none
   |none=>none
  |_=>none
 |.call {callee:=.builtin .append,args,argTypes}=>match argTypes.toList,args.toList with
  |[t,h],[x,y]=>bif Nat.beq t h then(match T t with
    |some ⟨.slice e,_,_,_,_⟩=>match T e with|some d=>pa e d f g (val x) (val y)|none=>none
    |_=>none)else none
  |_,_=>none
 |.call {callee:=.builtin .max,args,argTypes:=_}=>match args.toList with
  |[x,y]=>match val x with
   |.pv (.int a)=>match val y with|.pv (.int b)=>some (true,⟨.pv (.int (bif dA a b then b else a)),none,false⟩)|_=>none
   |_=>none
  |_=>none
 |_=>none
def ta(T:Nat->Option TI)(c:Nat)(val:Operand->V)(op:Op):Option (Bool×RB):=match op with
 |.buildSlice t len parts=>match T t with
  |some ⟨.slice e,_,_,_,_⟩=>match T e with
   |some a=>match QU 0 (parts.toList.map λp=>(p.1,val p.2))with|some b=>some (Nat.beq b.length len&&Nat.ble len 16777216&&Nat.ble (len*a.size) 16777216&&VC a.size b,⟨.arr c 0 len,some (c,.arr 0 a.size e b),true⟩)|none=>none
   |none=>none
  |_=>none
 |_=>none
def aa(T:Nat->Option TI)(c:Nat)(val:Operand->V)(op:Op):Option (Bool×RB):=match op with
 |.call {callee:=.builtin .append,args,argTypes}=>match argTypes.toList,args.toList with
  |[t,a],[x,y]=>bif Nat.beq t a then(match T t with
    |some ⟨.slice e,_,_,_,_⟩=>match T e with
     |some b=>match val x with
      |.pv .nils=>match val y with|.pv (.slice (y::a))=>some (Nat.blt 0 b.size&&tB b.size (y::a)&&CC (vA (y::a))&&Nat.ble (y::a).length maxLen&&Nat.ble ((y::a).length*b.bytes) 140737488355328,⟨.gsl c 1 (y::a),some (c,.grow 1 b.size e (y::a)),true⟩)|_=>none
      |_=>none
     |none=>none
    |_=>none)else none
  |_,_=>none
 |_=>none
def xa(T:Nat->Option TI)(val:Operand->V)(op:Op):Option (List (List PV)×Nat×Nat):=match op with
 |.indexAddr t x i=>match val i with
  |.pv (.int z)=>match uF z with
   |some k=>match T t with
    |some ⟨.slice e,_,_,_,_⟩=>match T e with
     |some a=>match val x with|.pv (.slice b)=>some (b,k,a.size)|_=>none
     |none=>none
    |_=>none
   |none=>none
  |_=>none
 |_=>none
def Qh(q:PV)(y:V):Option Bool:=match q with
 |.nptr a=>match a with
  |c::_=>match c with
   |.flg p=>match y with
    |.pv z=>match z with|.bool b=>some (bif b then p else true)|_=>none
    |_=>none
   |_=>none
  |[]=>none
 |_=>none
def Aa(T:Nat->Option TI)(val:Operand->V)(a:Option Nat)(op:Op):Option Bool:=match op with
 |.store t x y=>match a with
  |none=>match T t with
   |some a=>match val x with|.pv q=>bif Nat.beq 1 a.size then Qh q (val y)else none|_=>none
   |none=>none
  |some _=>none
 |_=>none
def dV(b:Bool):List PV->Option (List PV)
 |[]=>none|c::r=>match r with
  |[]=>match c with
   |.bool x=>match x with|false=>some [.flg b]|true=>none
   |_=>none
  |_::_=>match c with
   |.flg _=>none|c=>match dV b r with|some l=>some (c::l)|none=>none
def QN(K:List PV->PV)(n:Nat)(a:List PV)(s:IS):IS:=⟨s.sl.map (VI K n a),(s.ob.put n none).map (XJ K n a),s.nx,s.dt⟩
def wS(a n:Nat)(b:Option Bool)(s:IS):Option IS:=bif Nat.blt n a then none else(match s.ob.get n with
 |some (.box a)=>match MR a with
  |some a=>match b with
   |none=>some (QN .ptr n (wl (PV.w 4) a) s)|some b=>match dV b a with|some a=>some (QN .nptr n a s)|none=>none
  |none=>none
 |_=>none)
def fV(r:RB)(k:RB->Prop):Prop:=match r with
 |⟨.pv (.bool c),none,w⟩=>match c with|true=>k ⟨.pv (.bool true),none,w⟩|false=>k ⟨.pv (.bool false),none,w⟩
 |r=>k r
def Ba(r:RB)(v:Bool)(k:RB->Prop):Prop:=match r with|⟨.pv (.bool c),none,w⟩=>c=v/\k ⟨.pv (.bool v),none,w⟩|_=>False
def gV:Option Nat->Nat|some d=>d|none=>99999
def Ca(a:SA)(s:IS)(d:Option Nat)(op:Op)(b:Di)(k:RB->Di->Prop):Prop:=match BL (gV d) b with
 |none=>match KD a.T s.nx (s.val a.gl) s.ob.get d op with
  |some r=>match op with|.binOp _ _ _ _ _=>fV r λr=>k r b|.unOp _ _ _=>fV r λr=>k r b|_=>k r b
  |none=>False
 |some (e,b)=>match e with
  |.ok=>match oP a.T s.nx (s.val a.gl) s.ob.get op with
   |some (c,r)=>c=true/\k r b|none=>match ta a.T s.nx (s.val a.gl) op with|some (c,r)=>c=true/\k r b|none=>False
  |.z n=>match oP a.T s.nx (s.val a.gl) s.ob.get op with
   |some (c,r)=>match r with|⟨.pv (.int z),none,false⟩=>(c=true/\z=.ofNat n)/\k ⟨.pv (.int (.ofNat n)),none,false⟩ b|_=>False
   |none=>False
  |.y y=>match oP a.T s.nx (s.val a.gl) s.ob.get op with
   |some (c,r)=>match r with|⟨.pv (.int z),none,false⟩=>(c=true/\z=y)/\k ⟨.pv (.int y),none,false⟩ b|_=>False
   |none=>False
  |.v p=>match oP a.T s.nx (s.val a.gl) s.ob.get op with
   |some (c,r)=>match r with|⟨.pv q,none,false⟩=>(c=true/\q=p)/\k ⟨.pv p,none,false⟩ b|_=>False
   |none=>False
  |.i x=>match xa a.T (s.val a.gl) op with|some (f,n,z)=>(nB f n=some x/\tB z f=true)/\k ⟨.pv (.ptr x),none,false⟩ b|none=>False
  |.s=>match Aa a.T (s.val a.gl) d op with|some c=>c=true/\k ⟨.undef,none,false⟩ b|none=>False
  |.b v=>match KD a.T s.nx (s.val a.gl) s.ob.get d op with|some r=>Ba r v λr=>k r b|none=>False
  |.w r=>KD a.T s.nx (s.val a.gl) s.ob.get d op=some r/\k r b|.g=>match aa a.T s.nx (s.val a.gl) op with|some (c,r)=>c=true/\k r b|none=>False
  |_=>False
def tC:List (Nat×Ob)->List Nat|[]=>[]|(n,_)::r=>n::tC r
def KG:List Nat->Bool|[]=>true|n::r=>bif JD r n then false else KG r
def xP(m:List Nat):List Nat->Bool|[]=>true|n::r=>bif JD m n then false else xP m r
def AP{α:Type}:List α->List α->List α|[],l=>l|x::r,l=>x::AP r l
def BP(s:Tr Ob):List Nat->(List (Nat×Ob)->Prop)->Prop
 |[],k=>k []|n::r,k=>match s.get n with|some o=>BP s r λl=>k ((n,o)::l)|none=>False
abbrev wC:=Nat->List V->IS->Di->(OB->List Nat->Di->Prop)->Prop
def Da(d:SA)(P:Program)(call:wC)(f:Nat)(args:List V)(s:IS)(a:Option Nat)(b:Di)(k:OB->List Nat->Di->Prop):Prop:=match BL (gV a) b with
 |none=>call f args s [] λr c _=>k r c b|some (e,a)=>match e with
  |.r x=>AC P d.gl f (wA args) [] (.ret (.pv x)) []/\k ⟨.pv x,[],[],s.nx⟩ [] a|.d n g x=>gd (Nat.blt n s.nx) (match s.ob.get n with
   |some o=>AC P d.gl f (wA args) [(n,o)] (.ret x) [(n,g)]/\k ⟨x,[(n,g)],[],s.nx⟩ [n] a|none=>False)
  |.n b=>call f args s b λr c _=>k r c a|.o ro b x=>gd (bif KG (tC b)then(bif xP (tC b) ro then(bif BH s.nx (tC b)then true else false)else false)else false) (BP s.ob ro λl=>BP s.ob (tC b) λg=>
   AC P d.gl f (wA args) (AP l g) (.ret x) (AP l b)/\k ⟨x,b,[],s.nx⟩ (AP ro (tC b)) a)
  |.c r c=>(∃ro b,Called P d.gl s f args r c ro b)/\k r c a|_=>False
def CP(b:SA)(P:Program)(call:wC)(c:Nat)(o:Oper)(s:IS)(a:Di)(k:IS->Tc->Di->Prop):Prop:=match fD (s.val b.gl) o.op with
 |some (f,args)=>Da b P call f args s o.dst a λr d a=>k (vV c s o.dst r) ⟨r.ch.map (·.1)++r.nw.map (·.1),d⟩ a|none=>match Ou o.dst o.op a with
  |some a=>match KD b.T s.nx (s.val b.gl) s.ob.get o.dst o.op with|some r=>k (s.app c o.dst ⟨wG r.x,r.wr,r.new⟩) ⟨match r.wr with|some (n,_)=>[n]|none=>[],wF (s.val b.gl) o.op⟩ a|none=>False
  |none=>Ca b s o.dst o.op a λr a=>k (s.app c o.dst (vS o.op r)) ⟨match r.wr with|some (n,_)=>[n]|none=>[],wF (s.val b.gl) o.op⟩ a
def lV(d:SA)(P:Program)(call:wC)(a e:Nat)(all:List Oper)(o:Oper)(s:IS)(c:Di)(k:IS->Tc->Di->Prop):Prop:=
 gd (qS a o.dst) (match o.guard with
  |none=>CP d P call e o s c k|some (j,a)=>match IZ all s j with
   |.pv (.bool b)=>match b with
    |true=>match a with|true=>CP d P call e o s c k|false=>k ⟨RD s.sl o.dst eP,s.ob,s.nx,s.dt⟩ ⟨[],[]⟩ c
    |false=>match a with|false=>CP d P call e o s c k|true=>k ⟨RD s.sl o.dst eP,s.ob,s.nx,s.dt⟩ ⟨[],[]⟩ c
   |.pv (.tuple [])=>k ⟨RD s.sl o.dst eP,s.ob,s.nx,s.dt⟩ ⟨[],[]⟩ c|_=>False)
def Ea(d:SA)(P:Program)(call:wC)(e f:Nat)(all:List Oper):List Oper->IS->List Tc->Di->(IS->List Tc->Di->Prop)->Prop|[],s,c,a,k=>k s c a|o::b,s,c,a,k=>lV d P call e f all o s a λg h a=>Ea d P call e f all b g (h::c) a k
def Rh(e:SA)(P:Program)(call:wC)(f d:Nat)(a:List Oper)(b:Bool)(s:IS)(c:Di)(k:IS->Di->Prop):Prop:=
 Ea e P call f d a a (AL d (YI a) s) [] c λd e c=>match b with
  |true=>gd (kV a) (match xL e with
   |true=>k d c|false=>gd (iP a e.reverse) (k d c))
  |false=>k d c
abbrev KT:=AE->IS->Di->Prop
def Fa(f:IS->Di->Prop)(k:KT):KT|.normal,s,a=>f s a|.exit i,s,a=>k (.exit i) s a|.ret,s,a=>k .ret s a
def kS(id:Nat)(k:KT):KT
 |.normal,s,a=>k .normal s a|.exit i,s,a=>match Nat.beq i id with|true=>k .normal s a|false=>k (.exit i) s a
 |.ret,s,a=>k .ret s a
def Ia(b:IS->Di->KT->Prop)(k:KT):Nat->IS->Di->Prop|0,_,_=>False|m+1,s,a=>b s a (Fa (Ia b k m) k)
def EL:Code->Option Nat
 |.region id _ _=>some id|.seq a b=>match EL a with|some n=>some n|none=>EL b
 |.block _ b=>EL b|.scope b=>EL b|.cond _ a b=>match EL a with|some n=>some n|none=>EL b
 |.loop b=>EL b|_=>none
def Pu(c:Code):Nat:=match EL c with|some n=>n+100000|none=>99998
def RN(X:Env1)(σ σ':St):Prop:=∀C E a w,SI X C->Ga C E σ a w->∃b,Ga C b σ' a w
structure HX(X:Env1)(ev:SA)(P:Program)(nt bs:Nat):Prop where
 P:X.P=P
 T:X.T=ev.T
 gl:X.gl=ev.gl
 nt:X.nt=nt
 given:∀n∈X.given,n<bs
def SN(e:AE)(a:IS):NB->St->Prop:=λb σ'=>b=AE.x e/\Rel a σ'
structure Reach(ev:SA)(P:Program)(nt bs:Nat)(c:Code)(s:IS)(e:AE)(s':IS):Prop where
 inv:∀sub,Inv bs sub s->Inv bs sub s'
 awp:∀X,HX X ev P nt bs->∀σ,Rel s σ->AWP X c σ (SN e s')
structure LoopIs(ev:SA)(P:Program)(nt bs:Nat)(b:Code)(s:IS)(e:AE)(s':IS):Prop where
 inv:∀sub,Inv bs sub s->Inv bs sub s'
 awp:∃m,∀X,HX X ev P nt bs->∀σ,Rel s σ->UI X b (SN e s') m σ
def SD(i:SA)(P:Program)(call:wC)(N j h:Nat):Code->IS->Di->KT->Prop
 |.skip,s,f,k=>k .normal s f|.seq a b,s,f,k=>SD i P call N j h a s f (Fa (λs f=>SD i P call N j h b s f k) k)|.cond c x y,s,f,k=>match s.val i.gl c with
  |.pv (.bool b)=>match b with|true=>SD i P call N j h x s f k|false=>SD i P call N j h y s f k
  |_=>False
 |.block id b,s,f,k=>SD i P call N j h b s f (kS id k)|.exit id,s,f,k=>k (.exit id) s f|.ret,s,f,k=>k .ret s f|.region id g d,s,f,k=>Rh i P call j h g.toList d s f λs f=>match BL (id+300000) f with
  |some (.f n m,g)=>match s.ob.get n with|some (.arr l _ _ o)=>gd (!Nat.blt n h) (o=vA m/\k .normal ⟨s.sl.map (VB n l m),(s.ob.put n none).map (sC n l m),s.nx,s.dt⟩ g)|_=>False
  |some (.fb n b,g)=>match wS h n b s with|some l=>k .normal l g|none=>False
  |some (.ok,g)=>k .normal s g|_=>k .normal s f
 |.loop b,s,f,k=>match BL (Pu b) f with|some (.l m e l,g)=>gd (DL m h s) (JG s.ob m.on (LoopIs i P j h b (AH m s) e l/\k e l g))|_=>Ia (SD i P call N j h b) k N s f
 |.scope b,s,f,k=>SD i P call N j h b s f k|.label _,s,f,k=>k .normal s f|_,_,_,_=>False
def CH(e:SA)(P:Program)(call:wC)(N f g:Nat):Code->IS->Di->KT->Prop
 |.seq a b,s,d,k=>CH e P call N f g a s d (Fa (λs d=>CH e P call N f g b s d k) k)|.block id b,s,d,k=>CH e P call N f g b s d (kS id k)|.scope b,s,d,k=>CH e P call N f g b s d k|.cond c x y,s,d,k=>match s.val e.gl c with
  |.pv (.flg b)=>(b=true->CH e P call N f g x s d k)/\CH e P call N f g y s d k|.pv (.bool b)=>match b with|true=>CH e P call N f g x s d k|false=>CH e P call N f g y s d k
  |_=>False
 |c,s,d,k=>SD e P call N f g c s d k
def Qu(d:SA)(P:Program)(call:wC)(N:Nat)(fn:Func)(c:Code)(args:List V)(a:Nat)(sub:Tr Ob)(b:Di)(k:OB->Di->Prop):Prop:=
 SD d P call N fn.ntmps a c ⟨CE 0 args .nil,sub,a,[]⟩ b λe s b=>match aP d.T a sub fn.results.toList e s with|some r=>k r b|none=>False
def LG(a:SA)(P:Program)(N:Nat):Nat->wC
 |0=>λ_ _ _ _ _=>False|n+1=>λf args s b k=>match a.F f with
  |some fn=>match fn.body with
   |some c=>gd (Nat.ble args.length fn.ntmps) (match reach s.nx s.ob 1000000 (GA args) .nil []with
    |some (sub,d)=>Qu a P (LG a P N n) N fn c args s.nx sub b λr b=>k r d b|none=>False)
   |none=>False
  |none=>False
def Sh(d:SA)(P:Program)(n N i c:Nat)(b:Code)(s:IS)(a:Di)(f g:Kp)(e:AE)(j:IS):Prop:=
 SD d P (LG d P N n) N i c b s a λh a _=>match h with|.normal=>gd (DL f c a) (JG a.ob f.on (LoopIs d P i c b (AH f a) e j))|h=>h=e/\gd (DL g c a) (JG a.ob g.on (AH g a=j))
def Th(r:OB)(x:PV):Prop:=match r with|⟨.pv y,[],[],_⟩=>y.w 4=x|_=>False
def Ja(a:SA)(P:Program)(N n f:Nat)(args:List PV)(b:Di)(x:PV):Prop:=LG a P N n f (args.map .pv) ⟨.nil,.nil,0,[]⟩ b λr _ _=>Th r x
def yS(n:Nat)(o:Ob):List (Nat×Ob)->Ob|[]=>o|(m,a)::r=>bif Nat.beq n m then a else yS n o r
def DP(a:List (Nat×Ob)):List (Nat×Ob)->List (Nat×Ob)|[]=>[]|(n,o)::r=>(n,yS n o a)::DP a r
def Uh(a:List (Nat×Ob))(r:OB)(d:List Nat)(x:V)(b:List (Nat×Ob)):Prop:=match r with|⟨y,c,[],_⟩=>gd (bif CL (tC a) d then KG (tC c)else false) ((wV y,DP c a)=(x,b))|_=>False
def Vh(c:SA)(P:Program)(N n f:Nat)(args:List V)(a:List (Nat×Ob))(m:Nat)(d:Di)(x:V)(b:List (Nat×Ob)):Prop:=
 gd (KG (tC a)) (LG c P N n f args ⟨.nil,QB a .nil,m,[]⟩ d λr c _=>Uh a r c x b)
def Ka(a:SA)(P:Program)(N n f:Nat)(args:List PV)(d:Di)(b:Kp)(x:PV):Prop:=match a.F f with
 |some fn=>match fn.body with
  |some c=>gd (Nat.ble args.length fn.ntmps) (CH a P (LG a P N n) N fn.ntmps 0 c ⟨CE 0 (args.map .pv) .nil,.nil,0,[]⟩ d λe s _=>
    gd (DL b 0 s) (JG s.ob b.on (aP a.T 0 .nil fn.results.toList e (AH b s)=some ⟨.pv x,[],[],b.nx⟩)))
  |none=>False
 |none=>False
theorem LB{c:Bool}{P:Prop}(h:gd c P):c=true/\P:=by
 unfold gd at h
 grind
theorem Ru{k:TK}{op:BinOp}{x y:V}{l:Operand}{c:Bool}{r:RB}(h:na op x y=some (c,r))(g:c=true):ro (IN k op x y l)=some r:=by
 have m:∀{d:Bool}{j:IntKind}{z:Int},(bif d then xA z else false)=true->d=true/\bF j z=some (.pv (.num j z)):=by
  intro d j z o
  cases d with
  |false=>cases o
  |true=>exact⟨rfl,by unfold bF xZ;rw[show xA z=true from o];rfl⟩
 have p:∀{n:Int}{j:IntKind}{z:Int},(bif dA n 0 then false else xA z)=true->dA n 0=false/\bF j z=some (.pv (.num j z)):=by
  simp_all
 unfold na at h;split at h
 ·rename_i a;split at h
  ·rename_i b;have i:IN k op (.pv (.int a)) (.pv (.int b)) l=sL op a b:=rfl;rw[i];split at h
   ·cases h;simp only[sL,oH,g,gb];rfl
   ·cases h;simp only[sL,oH,g,gb];rfl
   ·cases h;simp only[sL,oH,g,gb];rfl
   ·cases h;have t:sB b 0=false:=bS
    simp only[sL,t,gp];rfl
   cases h
  cases h
 ·rename_i j a;split at h
  ·rename_i s b;have i:IN k op (.pv (.num j a)) (.pv (.num s b)) l=(bif xH j s then HN op j a b else none):=rfl;rw[i];split at h
   ·cases h;have⟨e,f⟩:=m (j:=j) g;rw[e,gb];simp only[HN,f];rfl
   ·cases h;have⟨e,f⟩:=m (j:=j) g;rw[e,gb];simp only[HN,f];rfl
   ·cases h;have⟨e,f⟩:=m (j:=j) g;rw[e,gb];simp only[HN,f];rfl
   cases h
  ·rename_i n;have i:IN k op (.pv (.num j a)) (.pv (.int n)) l=pP op j a n:=rfl;rw[i];split at h
   ·cases h;have⟨e,f⟩:=p (j:=j) g;simp only[pP,e,f,gp];rfl
   ·cases h;have⟨e,f⟩:=p (j:=j) g;simp only[pP,e,f,gp];rfl
   cases h
  cases h
 cases h
def Su{e:Nat}{a:TI}{b:Nat->Option Ob}{d:Nat}{x y:V}{c:Bool}{r:RB}(h:pa e a b d x y=some (c,r))(f:c=true):GN e a b d x y=some r:=by
 unfold pa at h
 grind[GN]
def Tu{a:TI}{b:Nat->Option Ob}{x:V}{d e f:Option V}{c:Bool}{v:V}(h:sa a b x d e f=some (c,v))(g:c=true):VR a b x d e f=some v:=by
 unfold sa at h
 grind[VR]
def mV{T:Nat->Option TI}{k:Nat}{val:Operand->V}{l:Nat->Option Ob}{f:Option Nat}{op:Op}{c:Bool}{r:RB}(h:oP T k val l op=some (c,r))(m:c=true):KD T k val l f op=some r:=by
 unfold oP at h;split at h
 ·grind[KD,Ru]
 ·split at h
  ·rename_i e a b n d g;split at h
   ·rename_i o i;split at h
    ·rename_i A v p;cases h;simp only[KD,g,i,Tu p m];rfl
    cases h
   cases h
  cases h
 ·split at h
  ·rename_i t B x y j s;have⟨u,h⟩:=bB h;split at h
   ·rename_i e a b n d g;split at h
    ·rename_i o i;simp only[KD,j,s,u,gb,g,i];exact Su h m
    cases h
   cases h
  cases h
 ·split at h
  ·rename_i x y j;split at h
   ·rename_i a w;split at h
    ·rename_i b z;cases h;simp only[KD,j,w,z];rfl
    cases h
   cases h
  cases h
 cases h
def Uu{T:Nat->Option TI}{i:Nat}{val:Operand->V}{j:Nat->Option Ob}{f:Option Nat}{op:Op}{g:List (List PV)}{n z:Nat}{x:List PV}(h:xa T val op=some (g,n,z))(l:nB g n=some x)(m:tB z g=true):KD T i val j f op=some ⟨.pv (.ptr x),none,false⟩:=by
 unfold xa at h;split at h
 ·split at h
  ·rename_i v o;split at h
   ·rename_i k p;split at h
    ·rename_i e a b c d r;split at h
     ·rename_i w s;split at h
      ·rename_i t u;cases h;simp only[KD,PU,o,p,r,s,u,l,m,gb];rfl
      cases h
     cases h
    cases h
   cases h
  cases h
 cases h
def Wh{r:RB}{k:RB->Prop}(h:fV r k):k r:=by
 unfold fV at h
 grind
def Vu{r:RB}{v:Bool}{k:RB->Prop}(h:Ba r v k):k r:=by
 unfold Ba at h
 grind
def aar:=@List.length_singleton
def Wu{T:Nat->Option TI}{e:Nat}{val:Operand->V}{f:Nat->Option Ob}{a:Option Nat}{op:Op}{c:Bool}(h:Aa T val a op=some c)(m:c=true):KD T e val f a op=some ⟨.undef,none,false⟩:=by
 unfold Aa at h;split at h
 ·rename_i t x y;split at h
  ·split at h
   ·rename_i n g;split at h
    ·rename_i q eq;have⟨d,h⟩:=bB h;have d:=gq d;have key:∃p l b,q=.nptr (.flg p::l)/\val y=.pv (.bool b)/\(bif b then p else true)=true:=by
      unfold Qh at h;split at h
      ·grind
      cases h
     obtain⟨p,l,b,rfl,i,j⟩:=key;have k:AG (.pv (.bool b))=some [.pv (.bool b)]:=rfl;simp only[KD,g,FN,eq,i,k,aar,<-d,UR,j,gb];rfl
    cases h
   cases h
  cases h
 cases h
def Xu(b:SA)(s:IS)(a:Option Nat)(op:Op)(r:RB):Prop:=KD b.T s.nx (s.val b.gl) s.ob.get a op=some r\/r.new=true/\(∃o,r.wr=some (s.nx,o))/\∃note,EG (gA b.T note (s.val b.gl) s.ob.get a op) r
def Yu{T:Nat->Option TI}{a:Nat}{val:Operand->V}{f:Nat->Option Ob}{b:Option Nat}{op:Op}{c:Bool}{r:RB}(h:ta T a val op=some (c,r))(d:c=true):r.new=true/\(∃o,r.wr=some (a,o))/\∃note,EG (gA T note val f b op) r:=by
 unfold ta at h;split at h
 ·split at h
  ·rename_i e _ _ _ _ g;split at h
   ·rename_i i j;split at h
    ·rename_i s k;cases h;simp only[hP]at d;have⟨⟨⟨l,m⟩,n⟩,p⟩:=d;refine⟨rfl,⟨_,rfl⟩,.arr a i.size e,?_⟩;simp only[gA,g,j,cZ k];exact⟨_,rfl,⟨⟨gq l,gi m,gi n,IR p⟩,rfl,rfl⟩,rfl,rfl,rfl⟩
    cases h
   cases h
  cases h
 cases h
def Zu{T:Nat->Option TI}{b:Nat}{val:Operand->V}{g:Nat->Option Ob}{d:Option Nat}{op:Op}{c:Bool}{r:RB}(h:aa T b val op=some (c,r))(f:c=true):r.new=true/\(∃o,r.wr=some (b,o))/\∃note,EG (gA T note val g d op) r:=by
 unfold aa at h;split at h
 ·split at h
  ·rename_i t i x y j k
   cases a:Nat.beq t i with
   |false=>rw[a]at h;cases h
   |true=>
    rw[a]at h;have a:=gq a;subst a;split at h
    ·rename_i e _ _ _ _ l;split at h
     ·rename_i m n;split at h
      ·rename_i p;split at h
       ·rename_i z C s;cases h;simp only[hP]at f;obtain⟨⟨⟨⟨u,v⟩,w⟩,A⟩,B⟩:=f;refine⟨rfl,⟨_,rfl⟩,.grow b m.size e,?_⟩;simp only[gA,j,k,l,n,if_true,OI,p,s];exact⟨_,rfl,⟨⟨a8,a8,GG u,a8⟩,DN v,LR w,gi A,gi B⟩,rfl,rfl,rfl⟩
       cases h
      cases h
     cases h
    cases h
  cases h
 cases h
def qv{j:SA}{s:IS}{b:Option Nat}{op:Op}{g:Di}{k:RB->Di->Prop}(h:Ca j s b op g k):∃r i,Xu j s b op r/\k r i:=by
 unfold Ca at h;split at h
 ·split at h
  ·rename_i r d;split at h
   ·exact⟨r,g,.inl d,Wh h⟩
   ·exact⟨r,g,.inl d,Wh h⟩
   exact⟨r,g,.inl d,h⟩
  simp_all
 split at h
 ·split at h
  ·rename_i c r a;exact⟨r,_,.inl (mV a h.1),h.2⟩
  split at h
  ·rename_i c r a;exact⟨r,_,.inr (Yu a h.1),h.2⟩
  simp_all
 ·split at h
  ·rename_i c r a;split at h
   ·obtain⟨⟨e,rfl⟩,f⟩:=h;exact⟨_,_,.inl (mV a e),f⟩
   simp_all
  simp_all
 ·split at h
  ·rename_i c r a;split at h
   ·obtain⟨⟨e,rfl⟩,f⟩:=h;exact⟨_,_,.inl (mV a e),f⟩
   simp_all
  simp_all
 ·split at h
  ·rename_i c r a;split at h
   ·obtain⟨⟨e,rfl⟩,f⟩:=h;exact⟨_,_,.inl (mV a e),f⟩
   simp_all
  simp_all
 ·split at h
  ·rename_i l n z a;exact⟨_,_,.inl (Uu a h.1.1 h.1.2),h.2⟩
  simp_all
 ·split at h
  ·rename_i c a;exact⟨_,_,.inl (Wu a h.1),h.2⟩
  simp_all
 ·split at h
  ·rename_i r d;exact⟨r,_,.inl d,Vu h⟩
  simp_all
 ·exact⟨_,_,.inl h.1,h.2⟩
 ·split at h
  ·rename_i c r a;exact⟨r,_,.inr (Zu a h.1),h.2⟩
  simp_all
 simp_all
def nV{H:Hp}:∀(n:Nat)(p:PV)(v:Value),RepP H p v->RepP H (p.w n) v
 |0,_,_,h=>h|n+1,p,v,h=>by
  have:∀(a:List PV)(b:List Value),RepL H a b->RepL H (wl (PV.w n) a) b:=by
   intro a
   induction a with
   |nil=>simp[wl,RepL]|cons c r d=>
    intro b h
    cases b with|nil=>exact h|cons v b=>exact⟨nV n c v h.1,d b h.2⟩
  have:∀(a:List PV),(wl (PV.w n) a).length=a.length:=by
   intro a
   induction a with|nil=>rfl|cons c r d=>simp[wl,d]
  unfold PV.w
  grind[Ut,RepP]
def Xh(f:PV->PV):∀(a:List PV),(wl f a).length=a.length|[]=>rfl|c::r=>by simp[wl,Xh]
def La{H:Hp}(n:Nat):∀(b:List PV)(a:List Value),RepL H b a->RepL H (wl (PV.w n) b) a|[],a,_=>by simp[wl,RepL]|c::r,[],h=>h|c::r,v::a,h=>⟨nV n c v h.1,La n r a h.2⟩
theorem Yh(n:Nat):∀(a:List (List PV)),(wE n a).length=a.length|[]=>rfl|c::r=>by simp[wE,Yh]
theorem jv{H:Hp}(n:Nat):∀(a:List (List PV))(b:List Value),RepE H a b->RepE H (wE n a) b
 :=by intro x;induction x<;>simp_all[wE,RepE,La,Xh,Hp]
theorem wv(n:Nat){a:List (List PV)}(h:a=[]):wE n a=[]:=by subst h;rfl
def kv(x:V):bP x (wV x):=by
 cases x<;>try exact⟨λ_ _ h=>h,λ_ h=>h⟩
 rename_i p;exact⟨λE v h=>nV 4 p v h,λn h=>by grind[wV,V.names]⟩
def uv(x:V):bP x (wG x):=by
 cases x<;>try exact⟨λ_ _ h=>h,λ_ h=>h⟩
 exact⟨λE v h=>by grind[wG,RepV],λn h=>by grind[wG,V.names]⟩
def dv(op:Op)(r:RB):bP r.x (vS op r).x/\(vS op r).wr=r.wr/\(vS op r).new=r.new:=by
 unfold vS;split
 ·split
  ·refine⟨⟨λE v h=>?_,λn h=>by grind[V.names]⟩,rfl,rfl⟩
   grind[RepV,RepP,Yh,wv,jv]
  exact⟨⟨λ_ _ h=>h,λ_ h=>h⟩,rfl,rfl⟩
 exact⟨⟨λ_ _ h=>h,λ_ h=>h⟩,rfl,rfl⟩
def Zh:∀(l:List V),(wA l).length=l.length|[]=>rfl|x::r=>by simp[wA,Zh r]
def fv(x:V):(wV x).names=x.names:=by cases x<;>rfl
def qi:∀(l:List V),GA (wA l)=GA l|[]=>rfl|x::r=>by simp[wA,GA,qi,fv]
def ji{E:Env}:∀(l:List V)(a:List Value),RepVL E l a->RepVL E (wA l) a|[],_,h=>by simp[wA,RepVL]|x::r,[],h=>h|x::r,v::a,h=>⟨(kv x).1 E v h.1,ji r a h.2⟩
def AC.wA{P:Program}{c:Nat->Option (List PV)}{f:Nat}{args:List V}{b a:List (Nat×Ob)}{out:Out}(h:AC P c f (wA args) b out a):AC P c f args b out a:=
 h.le (Zh args).symm (by simp[aF,qi]) (λE a b=>ji args a b)
section
variable{ev:SA}{P:Program}
def ZF(ev:SA)(P:Program)(call:wC):Prop:=∀(f:Nat)(args:List V)(s:IS)(a:Di)(k:OB->List Nat->Di->Prop),call f args s a k->∃r b a,(∃ro c,Called P ev.gl s f args r b ro c)/\k r b a
theorem MG:∀l:List (Nat×Ob),tC l=kA l|[]=>rfl|(n,o)::r=>by simp only[tC,MG r];rfl
def pV{α:Type}:∀a b:List α,AP a b=a++b|[],b=>rfl|x::r,b=>by simp only[AP,pV r b];rfl
theorem EP:∀{l:List Nat},KG l=true->l.Nodup
 :=by intro x;induction x<;>grind[List.nodup_nil,KG,JD,nI]
def Ma{m:List Nat}:∀{l:List Nat},xP m l=true->∀n∈l,n∉m
 |[],_,n,a=>by cases a
 |k::r,h,n,a=>by
  unfold xP at h
  cases e:JD m k with
  |true=>rw[e]at h;cases h
  |false=>
   rw[e]at h;rcases e8.1 a with rfl|a
   ·grind[nI]
   exact Ma h n a
def rV{s:Tr Ob}:∀{l:List Nat}{k:List (Nat×Ob)->Prop},BP s l k->∃m,kA m=l/\(∀p∈m,s.get p.1=some p.2)/\k m
 |[],k,h=>⟨[],rfl,a8,h⟩|n::r,k,h=>by
  unfold BP at h;split at h
  ·rename_i o c;have⟨m,a,d,b⟩:=rV h;refine⟨(n,o)::m,by rw[<-a];rfl,λp e=>?_,b⟩
   grind
  simp_all
theorem vi:∀{l:List (Nat×Ob)}{n:Nat}{o:Ob},(kA l).Nodup->(n,o)∈l->jA l n=some o
 :=by intro x;induction x<;>simp_all[kA,jA,e9]<;>grind
def wi{m:Nat}:∀{l:List Nat},BH m l=true->∀n∈l,n<m
 |[],_,n,h=>by cases h
 |k::r,h,n,a=>by
  unfold BH at h
  cases e:Nat.blt k m with
  |false=>rw[e]at h;cases h
  |true=>
   rw[e]at h;rcases e8.1 a with rfl|a
   ·simp_all
   exact wi h n a
def rv{call:wC}(G:ZF ev P call){f:Nat}{args:List V}{s:IS}{B:Option Nat}{H:Di}{k:OB->List Nat->Di->Prop}(h:Da ev P call f args s B H k):∃r C a,(∃ro O,Called P ev.gl s f args r C ro O)/\k r C a:=by
 unfold Da at h
 cases I:BL (gV B) H with
 |none=>
  rw[I]at h;have⟨r,C,_,E,J⟩:=G _ _ _ _ _ h
  grind
 |some p=>
  have⟨e,a⟩:=p;rw[I]at h
  cases e with
  |r x=>exact⟨⟨.pv x,[],[],s.nx⟩,[],a,⟨[],[],⟨h.1.wA,by simp[kA],a8,by simp[kA],a8,⟨λ_=>none,a8⟩,by simp[kA],by simp[kA],e6 _,a8⟩⟩,h.2⟩|d n K x=>
   have⟨j,h⟩:=LB h
   cases A:s.ob.get n with
   |none=>rw[A]at h;simp_all|some o=>
    rw[A]at h;refine⟨⟨x,[(n,K)],[],s.nx⟩,[n],a,⟨[],[(n,o)],⟨h.1.wA,by simp[kA],by simp[A],by simp[kA],by simp[kA],⟨λ_=>some K,a8⟩,?_,by simp[kA],e6 _,by simp[kA]⟩⟩,h.2⟩;intro m L;have L:m=n:=by grind[kA]
    subst L;exact⟨GG j,by rw[A];rfl,by simp[kA]⟩
  |c r C=>grind|o ro u x=>
   have⟨S,h⟩:=LB h;have D:KG (tC u)=true/\xP (tC u) ro=true/\BH s.nx (tC u)=true:=by
    simp_all
   have⟨l,E,J,h⟩:=rV h;have⟨M,N,Q,h⟩:=rV h;rw[pV,pV,pV]at h;have F:kA M=kA u:=by rw[N,MG]
   have:=Ma D.2.1;refine⟨⟨x,u,[],s.nx⟩,ro++tC u,a,⟨l,M,⟨by simpa using h.1.wA,λn j=>?_,λp U=>?_,λn j=>?_,λn j=>by rw[<-F];exact j,⟨jA u,λn o j=>?_⟩,λn j=>?_,by simp[kA],e6 _,λn j=>?_⟩⟩,h.2⟩
   ·simp_all
   ·grind
   ·rw[E,N]at j;exact j
   ·grind[EP,MG,vi]
   ·have t:n∈kA u:=j;refine⟨wi D.2.2 n (by rw[MG];exact t),?_,by rw[F];exact t⟩;rw[<-F]at t;have⟨o,A⟩:=keysO_mem.1 t;rw[Q _ A];rfl
   grind[xF]
  |n R=>
   have⟨r,C,_,E,J⟩:=G _ _ _ _ _ h
   grind
  |i e=>simp_all|ok=>simp_all|z n=>simp_all|y n=>simp_all|v p=>simp_all|s=>simp_all|fb n b=>simp_all|b v=>simp_all|l k e s=>simp_all|f n W=>simp_all|w r=>simp_all|g=>simp_all
open Classical in
noncomputable def sV (f:Nat)(args:List V)(s:IS)(r:OB)(ks:List Nat):Call:=λ f' args' s'=>if f'=f/\args'=args/\s'=s then some (r,ks) else none
theorem av(f:Nat)(args:List V)(s:IS)(r:OB)(a:List Nat):sV f args s r a f args s=some (r,a):=by simp[sV]
def ov{f:Nat}{args:List V}{s:IS}{r:OB}{ks:List Nat}(h:∃ro a,Called P ev.gl s f args r ks ro a):jS ev P (sV f args s r ks):=by
 intro a a a a a e
 grind[sV]
def xv:jS ev P (λ_ _ _=>none):=λ_ _ _ _ _ e=>by cases e
structure DoFact(ev:SA)(P:Program)(bs:Nat)(o:Oper)(s s1:IS)(tc:Tc):Prop where
 inv:∀sub,Inv bs sub s->Inv bs sub s1
 ok:∀X:Env1,X.P=P->X.T=ev.T->X.gl=ev.gl->∀σ,Rel s σ->∃e,OpW X o σ e/\Rel s1 (σ.eff o.dst e)/\ZI e tc
theorem DoFact.of{call:Call}(b:jS ev P call){a:Nat}{o:Oper}{s s1:IS}{c:Tc}(h:NN ev call a o s=some (s1,c)):DoFact ev P a o s s1 c:=
 ⟨λsub a=>Ju b h a,λX c d a σ e=>Ku b h c d a e⟩
def Av{a:Nat}{s:IS}{d:Option Nat}{r q:RB}(h:q.wr=r.wr)(b:q.new=r.new):s.app a d q=⟨RD s.sl d q.x,(s.app a d r).ob,(s.app a d r).nx,(s.app a d r).dt⟩:=by
 grind[IS.app]
def Na{a:Nat}{s:IS}{d:Option Nat}{r:RB}:(s.app a d r).sl=RD s.sl d r.x:=by
 grind[IS.app]
def DoFact.weak{c:Nat}{o:Oper}{s:IS}{r q:RB}{i:Tc}(h:DoFact ev P c o s (s.app c o.dst r) i)(n:bP r.x q.x)(p:q.wr=r.wr)(u:q.new=r.new):DoFact ev P c o s (s.app c o.dst q) i:=by
 rw[Av p u];refine⟨λsub v=>(h.inv sub v).slot _,λX w y e σ z=>?_⟩;have⟨⟨x,j,k,rd⟩,l,b,m⟩:=h.ok X w y e σ z
 cases f:o.dst with
 |none=>
  refine⟨⟨x,j,k,rd⟩,l,?_,m⟩;have:=b;rw[f]at this;refine⟨λt=>?_,this.ob,this.us⟩;have:=this.sl t;rw[Na]at this;exact this
 |some d=>
  have a:=b.sl d;rw[f,Na]at a;have g:x=r.x:=by
   simp only[St.eff,DU,RD,Tr.get_put,if_true]at a;exact a
  subst g;refine⟨⟨q.x,j,k,rd⟩,.weak _ l n,?_,m⟩;rw[f]at b;refine⟨λt=>?_,b.ob,b.us⟩;have:=b.sl t;rw[Na]at this
  grind[St.eff,DU,RD,Tr.get_put,Option.some.injEq]
def yi{call:wC}(j:ZF ev P call){b:Nat}{o:Oper}{s:IS}{l:Di}{k:IS->Tc->Di->Prop}(h:CP ev P call b o s l k):∃s1 g a,DoFact ev P b o s s1 g/\k s1 g a:=by
 unfold CP at h;split at h
 ·rename_i f args A;have⟨r,ks,a,m,d⟩:=rv j h;refine⟨_,_,a,DoFact.of (ov (f:=f) (args:=args) (s:=s) (r:=r) (ks:=ks) m) ?_,d⟩
  grind[NN,av,Go.Lg.callR]
 have key:∀r,KD ev.T s.nx (s.val ev.gl) s.ob.get o.dst o.op=some r->DoFact ev P b o s (s.app b o.dst r) ⟨match r.wr with|some (n,_)=>[n]|none=>[],wF (s.val ev.gl) o.op⟩:=λr c=>by
  refine DoFact.of xv (s1:=s.app b o.dst r) ?_
  grind[NN]
 split at h
 ·split at h
  ·rename_i r c;exact⟨_,_,_,DoFact.weak (r:=r) (q:=⟨wG r.x,r.wr,r.new⟩) (key r c) (uv r.x) rfl rfl,h⟩
  simp_all
 have⟨r,a,c,d⟩:=qv h;have⟨p,t,u⟩:=dv o.op r;refine⟨_,_,a,DoFact.weak (r:=r) ?_ p t u,d⟩;rcases c with c|⟨v,i,note,w⟩
 ·grind
 exact⟨λsub x=>Hh x v i _,λX B y e σ z=>Lh w (λ_=>i) y e z⟩
structure tV(ev:SA)(P:Program)(nt bs:Nat)(all:List Oper)(o:Oper)(s s1:IS)(tc:Tc):Prop where
 inv:∀sub,Inv bs sub s->Inv bs sub s1
 ok:∀X:Env1,X.P=P->X.T=ev.T->X.gl=ev.gl->X.nt=nt->∀σ,Rel s σ->∃e,VJ X all o σ e/\Rel s1 (σ.eff o.dst e)/\ZI e tc
def uS{a:Nat}{o:Oper}(h:qS a o.dst=true){X:Env1}(b:X.nt=a):qZ X o.dst:=by
 unfold qS at h;unfold qZ;split at h
 ·simp_all
 simp_all
def Oa{call:wC}(D:ZF ev P call){z u:Nat}{all:List Oper}{o:Oper}{s:IS}{n:Di}{k:IS->Tc->Di->Prop}(h:lV ev P call z u all o s n k):∃l m c,tV ev P z u all o s l m/\k l m c:=by
 have⟨v,h⟩:=LB h;have f:ZI eF ⟨[],[]⟩:=⟨by simp[eF,Eff.wn],by simp[eF]⟩;split at h
 ·rename_i p;have⟨l,m,c,w,A⟩:=yi D h;refine⟨l,m,c,⟨w.inv,λX r t g d σ i=>?_⟩,A⟩;have⟨e,E,x,B⟩:=w.ok X r t g σ i;exact⟨e,⟨uS v d,.inl ⟨p,E⟩⟩,x,B⟩
 rename_i j a p;split at h
 ·rename_i b y;have key:(b=a->CP ev P call u o s n k)->(b≠a->k ⟨RD s.sl o.dst eP,s.ob,s.nx,s.dt⟩ ⟨[],[]⟩ n)->∃l m c,tV ev P z u all o s l m/\k l m c:=by
   intro w A;by_cases e:b=a
   ·have⟨l,m,c,x,B⟩:=yi D (w e);refine⟨l,m,c,⟨x.inv,λX r t g d σ i=>?_⟩,B⟩;have⟨q,F,G,H⟩:=x.ok X r t g σ i;exact⟨q,⟨uS v d,.inr (.inl ⟨j,a,b,p,by rw[<-ua i];exact y,.inl ⟨e,F⟩⟩)⟩,G,H⟩
   exact⟨_,_,n,⟨λsub C=>C.slot _,λX r t g d σ i=>⟨eF,⟨uS v d,.inr (.inl ⟨j,a,b,p,by rw[<-ua i];exact y,.inr ⟨e,rfl⟩⟩)⟩,Mh i _,f⟩⟩,A e⟩
  grind
 ·rename_i y;exact⟨_,_,n,⟨λsub C=>C.slot _,λX r t g d σ i=>⟨eF,⟨uS v d,.inr (.inr ⟨j,a,p,by rw[<-ua i];exact y,rfl⟩)⟩,Mh i _,f⟩⟩,h⟩
 simp_all
inductive OpsR(ev:SA)(P:Program)(nt bs:Nat)(all:List Oper):List Oper->IS->List Tc->IS->List Tc->Prop|nil (s:IS) (tr:List Tc):OpsR ev P nt bs all [] s tr s tr|cons {o:Oper} {l:List Oper} {s s1 s2:IS} {tc:Tc} {tr tr2:List Tc} (h:tV ev P nt bs all o s s1 tc) (h':OpsR ev P nt bs all l s1 (tc::tr) s2 tr2):OpsR ev P nt bs all (o::l) s tr s2 tr2
def ui{call:wC}(i:ZF ev P call){j m:Nat}{all:List Oper}:∀(l:List Oper){s:IS}{a:List Tc}{d:Di}{k:IS->List Tc->Di->Prop},Ea ev P call j m all l s a d k->∃e b c,OpsR ev P j m all l s a e b/\k e b c
 |[],s,a,d,k,h=>⟨s,a,d,.nil s a,h⟩|o::l,s,a,d,k,h=>by
  have⟨e,v,c,n,p⟩:=Oa i h;have⟨r,f,g,t,u⟩:=ui i l p;exact⟨r,f,g,.cons n t,u⟩
def OpsR.inv{e a:Nat}{all l:List Oper}{s c:IS}{f b:List Tc}(h:OpsR ev P e a all l s f c b){sub:Tr Ob}(d:Inv a sub s):Inv a sub c:=by
 induction h with|nil=>exact d|cons h _ g=>exact g (h.inv sub d)
def OpsR.ok{k n:Nat}{all:List Oper}{X:Env1}(o:X.P=P)(d:X.T=ev.T)(f:X.gl=ev.gl)(g:X.nt=k){l:List Oper}{s m:IS}{i c:List Tc}(h:OpsR ev P k n all l s i m c):∀{σ:St},Rel s σ->
  ∃b a,b.length=l.length/\xN X all l b σ/\Rel m (LA (λ_=>true) 0 (uB l b) σ)/\c=a.reverse++i/\TcsOK b a:=by
 induction h with
 |nil s i=>intro σ j;exact⟨[],[],rfl,trivial,j,rfl,rfl,a8⟩|cons p _ r=>
  intro σ j;have⟨e,t,u,v⟩:=p.ok X o d f g σ j;have⟨b,a,w,x,y,z,A⟩:=r u;refine⟨e::b,_::a,by simp[w],⟨t,x⟩,?_,by simp[z],A.cons v⟩;simp only[uB,gF,aaM,LA,if_true];rw[ya];exact y
def AWP.postX{X:Env1}{c:Code}{σ:St}{Q k:NB->St->Prop}(h:AWP X c σ Q)(m:∀b σ',Q b σ'->(∃σ'',RN X σ' σ''/\k b σ'')/\∀p,b≠.panic p):AWP X c σ k:=by
 intro C E a w l n;refine wp_mono (h C E a w l n) ?_
 rintro e o r ⟨s,σ',b,f,t,g⟩
 have⟨⟨σ'',u,i⟩,v⟩:=m b σ' g;have⟨j,d⟩:=u C s o r l f;refine⟨j,σ'',b,d,?_,i⟩
 cases b with|panic p=>simp_all|_=>exact t
def AWP.wkX{X:Env1}{c:Code}{σ σ':St}{Q:NB->St->Prop}(d:RN X σ σ')(h:AWP X c σ' Q):AWP X c σ Q:=by
 intro C E a w b e;have⟨f,g⟩:=d C E a w b e;exact h C f a w b g
def Bv{call:wC}(w:ZF ev P call){t bs id:Nat}{a:Array Oper}{d:Bool}{s:IS}{x:Di}{k:IS->Di->Prop}(h:Rh ev P call t bs a.toList d s x k):∃f b,Reach ev P t bs (.region id a d) s .normal f/\k f b:=by
 have⟨f,u,b,i,j⟩:=ui w _ h;have e:∀sub,Inv bs sub s->Inv bs sub f:=λsub y=>i.inv (Mu (YI a.toList) y)
 cases d with
 |false=>
  refine⟨f,b,⟨e,λX c σ l=>?_⟩,j⟩;have⟨σ0,m,g⟩:=bV (bs:=bs) (YI a.toList) l;have⟨z,n,o,p,r,A,v⟩:=i.ok c.P c.T c.gl c.nt g;exact AWP.wk m (AWP.seqR p ⟨rfl,r⟩)
 |true=>
  have⟨B,j⟩:=LB j;have C:(xL u=true\/iP a.toList u.reverse=true)/\k f b:=by
   grind[LB]
  refine⟨f,b,⟨e,λX c σ l=>?_⟩,C.2⟩;have⟨σ0,m,g⟩:=bV (bs:=bs) (YI a.toList) l;have⟨z,n,o,p,r,A,v⟩:=i.ok c.P c.T c.gl c.nt g;refine AWP.wk m (AWP.anyR o p (Ph B ?_ o v) ⟨rfl,r⟩);simp_all
end
def AWP.condT{X:Env1}{c:Operand}{x y:Code}{σ:St}{Q:NB->St->Prop}{b:Bool}(f:σ.val X.gl c=.pv (.bool b))(g:b=true->AWP X x σ Q)(i:b=false->AWP X y σ Q):AWP X (.cond c x y) σ Q:=by
 intro C E a w d e;have h:=UA e d.glob c;rw[f]at h;exact wp_cond_split (cH h) (λf=>g f C E a w d e) (λf=>i f C E a w d e)
def AWP.scopeT{X:Env1}{c:Code}{σ:St}{Q:NB->St->Prop}(h:AWP X c σ Q):AWP X (.scope c) σ Q:=by
 intro C E a w j k;refine wp_scope_straight (wp_mono (h C E a w j k) ?_)
 rintro e l m ⟨n,σ',g,f,b,o⟩
 have d:WJ C Q e l m:=⟨n,σ',g,f,b,o⟩
 cases g with
 |normal=>cases b;exact d
 |exit i=>cases b;exact d
 |ret=>cases b;exact d
 |panic p=>obtain⟨v,rfl,r⟩:=b;exact d
def DH{c d:Bool}(h:(bif c then d else false)=true):c=true/\d=true:=by
 simp_all
def TN{m:Nat}:∀{l:List Nat},BH m l=true->∀n∈l,n<m
 |[],_,_,h=>by cases h
 |k::r,h,n,a=>by
  have⟨c,b⟩:=DH h;rcases e8.1 a with rfl|a
  ·simp_all
  exact TN b n a
def UN:∀{l m:List Nat},CL l m=true->∀n∈l,n∈m
 |[],_,_,_,h=>by cases h
 |k::r,m,h,n,a=>by
  have⟨c,b⟩:=DH h;rcases e8.1 a with rfl|a
  ·grind[nI]
  exact UN b n a
def bi{m:Nat}{s:Tr V}:∀{l:List Nat},da m s l=true->∀t∈l,∀v,s.get t=some v->∀n∈v.names,n<m
 |[],_,_,h=>by cases h
 |k::r,h,t,a=>by
  have⟨b,c⟩:=DH h;rcases e8.1 a with rfl|a
  ·intro v d;rw[d]at b;exact TN b
  exact bi c t a
def Pa{m:Nat}{s:Tr Ob}:∀{l:List Nat},la m s l=true->∀t∈l,t<m/\∀o,s.get t=some o->(∃a b c d,o=.arr a b c d)\/(∃c d,o=.smap c d)\/∀n∈o.names,n<m
 |[],_,_,h=>by cases h
 |k::r,h,t,e=>by
  have⟨g,i⟩:=DH h;have⟨f,j⟩:=DH i;rcases e8.1 e with rfl|e
  ·refine⟨GG g,?_⟩;intro v p;rw[p]at f;cases v<;>first|exact .inl ⟨_,_,_,_,rfl⟩|exact .inr (.inl ⟨_,_,rfl⟩)|exact .inr (.inr (TN f))
  exact Pa j t e
structure KN(s:Tr Ob)(l:List Nat):Prop where
 a:∀t∈l,∀a b c es,s.get t=some (.arr a b c es)->fB es=[]
 m:∀t∈l,∀c es,s.get t=some (.smap c es)->kD es=[]
theorem zJ{s:Tr Ob}{R:Prop}:∀{l:List Nat},JG s l R->R/\KN s l
 |[],h=>⟨h,⟨(λt d=>by cases d),(λt d=>by cases d)⟩⟩|k::r,h=>by
  unfold JG at h;split at h
  ·rename_i m j;have⟨i,g⟩:=zJ h.2;refine⟨i,⟨λt d a b c e f=>?_,λt d c e f=>?_⟩⟩
   ·rcases e8.1 d with rfl|d
    ·simp_all
    exact g.a t d a b c e f
   rcases e8.1 d with rfl|d
   ·rw[j]at f;cases f
   exact g.m t d c e f
  ·rename_i m j;have⟨i,g⟩:=zJ h.2;refine⟨i,⟨λt d a b c e f=>?_,λt d c e f=>?_⟩⟩
   ·rcases e8.1 d with rfl|d
    ·rw[j]at f;cases f
    exact g.a t d a b c e f
   rcases e8.1 d with rfl|d
   ·simp_all
   exact g.m t d c e f
  have⟨i,g⟩:=zJ h;refine⟨i,⟨λt d a b c e f=>?_,λt d c e f=>?_⟩⟩
  ·rcases e8.1 d with rfl|d
   ·grind
   exact g.a t d a b c e f
  rcases e8.1 d with rfl|d
  ·simp_all
  exact g.m t d c e f
def di{a:List Nat}{s:Tr Ob}:∀{k:Nat},ma a s k=true->∀n,n<k->n∈a\/s.get n=none
 |0,_,_,h=>absurd h (lh _)|k+1,h,n,g=>by
  have⟨b,c⟩:=DH h;by_cases e:n=k
  ·subst e
   cases d:JD a n with
   |true=>grind[nI]|false=>
    rw[d]at b;refine .inr ?_
    cases f:s.get n with|none=>rfl|some o=>rw[f]at b;cases b
  exact di c n a6
def aV{α:Type}(s:Tr α):∀(l:List Nat)(t:Tr α)(n:Nat),(vK s l t).get n=if n∈l then s.get n else t.get n
 :=by intro x;induction x<;>grind[vK,Tr.get_put]
def cV:Option V->V|some v=>v|none=>.undef
def GL(s:Tr V):List Nat->List (Nat×V)|[]=>[]|t::r=>(t,cV (s.get t))::GL s r
def jJ(s:Tr Ob):List Nat->List (Nat×Ob)
 |[]=>[]|n::r=>match s.get n with|some o=>(n,o)::jJ s r|none=>jJ s r
def Dv(s:Tr V):∀(l:List Nat)(t:Nat),OA (GL s l) t=if t∈l then cV (s.get t)else .undef
 :=by intro x;induction x<;>grind[GL,OA,cV]
def Ev(s:Tr Ob):∀(l:List Nat)(t:Nat),jA (jJ s l) t=if t∈l then s.get t else none
 :=by intro x;induction x<;>grind[jJ,jA]
def fi{s:Tr V}:∀{l:List Nat}{n:Nat},n∈YF (GL s l)->∃t∈l,∃v,s.get t=some v/\n∈v.names
 |[],n,h=>by cases h
 |k::r,n,h=>by
  simp only[GL,YF,eh]at h;rcases h with h|h
  ·cases e:s.get k with|none=>rw[e]at h;simp[cV,V.names]at h|some v=>rw[e]at h;exact⟨k,a8,v,e,h⟩
  have⟨t,a,b⟩:=fi h;exact⟨t,by simp[a],b⟩
def Fv{s:Tr Ob}:∀{l:List Nat}{n:Nat},n∈KC (jJ s l)->∃t∈l,∃o,s.get t=some o/\(n=t\/n∈o.names)
 :=by intro x;induction x<;>grind[jJ,KC]
structure KpOK(k:Kp)(bs:Nat)(s:IS):Prop where
 le:bs<=k.nx
 sl:∀t∈k.sl,∀v,s.sl.get t=some v->∀n∈v.names,n<k.nx
 on:∀t∈k.on,t<k.nx/\∀o,s.ob.get t=some o->∀n∈o.names,n<k.nx
 old:∀n,n<bs->n∈k.on\/s.ob.get n=none
 dt:∀n∈s.dt,n∈k.dt
 db:∀n∈k.dt,n<bs
theorem VN{k:Kp}{g:Nat}{s:IS}(h:DL k g s=true)(i:KN s.ob k.on):KpOK k g s:=by
 have⟨m,h⟩:=DH h;have⟨p,h⟩:=DH h;have⟨j,h⟩:=DH h;have⟨r,h⟩:=DH h;have⟨u,h⟩:=DH h;refine⟨gi m,bi p,λt e=>⟨(Pa j t e).1,λo f n l=>?_⟩,di r,UN u,TN h⟩;rcases(Pa j t e).2 o f with ⟨a,b,c,d,rfl⟩|⟨c,d,rfl⟩|v
 ·have:n∈fB d:=l;rw[i.a t e a b c d f]at this;cases this
 ·have:n∈kD d:=l;rw[i.m t e c d f]at this;cases this
 simp_all
def KpOK.inv{k:Kp}{c:Nat}{s:IS}(h:KpOK k c s){sub:Tr Ob}(d:Inv c sub s):Inv c sub (AH k s):=by
 refine⟨h.le,λn b i=>?_,λn b a=>?_,d.names,h.db⟩
 ·have:=d.same n b (λe=>i (h.dt n e));show(vK s.ob k.on .nil).get n=_;rw[aV];rcases h.old n b with f|f
  ·rw[gm f];exact this
  by_cases g:n∈k.on
  ·rw[gm g];exact this
  rw[e9 g,<-this,f];rfl
 have a:((vK s.ob k.on .nil).get n).isSome=true:=a;rw[aV]at a;split at a
 ·exact d.old n b a
 cases a
def KpOK.wk{k:Kp}{f:Nat}{s:IS}(h:KpOK k f s){j:SA}{P:Program}{m:Nat}{X:Env1}(u:HX X j P m f){σ:St}(g:Rel s σ):∃τ,RN X σ τ/\Rel (AH k s) τ:=by
 refine⟨⟨GL s.sl k.sl,jJ s.ob k.on,List.range k.nx⟩,λC E a w x y=>⟨E,Weak.ga (X:=X) (σ:=σ) ⟨?_,?_,?_⟩ x y⟩,⟨λt=>?_,λn=>?_,λn b=>?_⟩⟩
 ·have:∀(l:List Nat),GU (GL s.sl l) σ.slots:=by
   intro l
   induction l with|nil=>trivial|cons t r i=>exact⟨by rw[g.sl];cases s.sl.get t<;>rfl,i⟩
  simp_all
 ·refine PN λp z=>?_
  have:∀(l:List Nat),p∈jJ s.ob l->s.ob.get p.1=some p.2:=by
   intro l
   induction l with
   |nil=>intro h;cases h
   |cons t r i=>
    grind[jJ]
  rw[g.ob]
  grind
 ·refine ON λn b=>?_
  rw[eh,eh]at b;refine List.mem_range.2 ?_;rcases b with (b|b)|b
  ·have⟨t,c,v,e,d⟩:=fi b;exact h.sl t c v e n d
  ·have⟨t,c,o,e,d⟩:=Fv b;rcases d with rfl|d
   ·exact(h.on n c).1
   exact(h.on t c).2 o e n d
  have:=u.given n b;have:=h.le;omega
 ·show OA (GL s.sl k.sl) t=(match (vK s.sl k.sl .nil).get t with|some v=>v|none=>.undef);rw[Dv,aV];by_cases c:t∈k.sl
  ·rw[gm c,gm c];cases s.sl.get t<;>rfl
  rw[e9 c,e9 c];rfl
 ·show jA (jJ s.ob k.on) n=(vK s.ob k.on .nil).get n;rw[Ev,aV];rfl
 exact List.mem_range.1 b
section
variable{ev:SA}{P:Program}
def AE.x_np(e:AE):∀p,AE.x e≠.panic p:=by cases e<;>simp[AE.x]
def Reach.seq{c d:Nat}{a b:Code}{s f g:IS}{e:AE}(h:Reach ev P c d a s .normal f)(i:Reach ev P c d b f e g):Reach ev P c d (.seq a b) s e g:=by
 refine⟨λsub c=>i.inv sub (h.inv sub c),λX d σ c=>AWP.seq (AWP.mono (h.awp X d σ c) ?_)⟩
 rintro c σ' ⟨rfl,c⟩
 exact i.awp X d σ' c
def Reach.seq'{d f:Nat}{a b:Code}{s g:IS}{e:AE}(l:e≠.normal)(h:Reach ev P d f a s e g):Reach ev P d f (.seq a b) s e g:=by
 refine⟨h.inv,λX j σ k=>AWP.seq (AWP.mono (h.awp X j σ k) ?_)⟩
 rintro m σ' ⟨rfl,c⟩
 cases e with|normal=>simp_all|exit i=>exact⟨rfl,c⟩|ret=>exact⟨rfl,c⟩
def LoopIs.reach{a c:Nat}{b:Code}{s d:IS}{e:AE}(h:LoopIs ev P a c b s e d):Reach ev P a c (.loop b) s e d:=by
 have⟨f,m,h⟩:=h;exact⟨f,λX g σ i=>Mt m (h X g σ i)⟩
def LoopIs.round{a c:Nat}{b:Code}{s g i:IS}{e:AE}(h:Reach ev P a c b s .normal g)(d:LoopIs ev P a c b g e i):LoopIs ev P a c b s e i:=by
 have⟨k,m,d⟩:=d;refine⟨λsub l=>k sub (h.inv sub l),m+1,λX j σ n=>IU (AWP.mono (h.awp X j σ n) ?_)⟩
 rintro o σ' ⟨rfl,f⟩
 exact d X j σ' f
def LoopIs.last{c d:Nat}{b:Code}{s f:IS}{e:AE}(k:e≠.normal)(h:Reach ev P c d b s e f):LoopIs ev P c d b s e f:=by
 refine⟨h.inv,1,λX g σ j=>IU (AWP.mono (h.awp X g σ j) ?_)⟩
 rintro l σ' ⟨rfl,a⟩
 cases e with|normal=>simp_all|exit i=>exact⟨rfl,a⟩|ret=>exact⟨rfl,a⟩
def Reach.keep{d a:Nat}{c:Code}{s s':IS}{e:AE}{k:Kp}(f:KpOK k a s')(h:Reach ev P d a c s e s'):Reach ev P d a c s e (AH k s'):=by
 refine⟨λsub i=>f.inv (h.inv sub i),λX g σ j=>AWP.postX (h.awp X g σ j) ?_⟩
 rintro n σ' ⟨rfl,b⟩
 have⟨τ,l,m⟩:=f.wk g b;exact⟨⟨τ,l,rfl,m⟩,AE.x_np e⟩
def Reach.kept{b a:Nat}{c:Code}{s d:IS}{e:AE}{k:Kp}(f:KpOK k a s)(h:Reach ev P b a c (AH k s) e d):Reach ev P b a c s e d:=by
 refine⟨λsub i=>h.inv sub (f.inv i),λX g σ j=>?_⟩;have⟨τ,l,m⟩:=f.wk g j;exact AWP.wkX l (h.awp X g τ m)
def Gv{K:List PV->PV}{n:Nat}{a:List PV}:∀{x:V},n∉x.names->VI K n a x=x:=by
 intro x h;cases x<;>simp only[VI]
 grind[V.names]
def li{K:List PV->PV}{n:Nat}{b:List PV}:∀{a:List V},n∉GA a->lI K n b a=a
 |[],_=>rfl|c::a,h=>by
  simp only[GA,eh,not_or]at h;simp only[lI];rw[Gv h.1,li h.2]
def Hv{K:List PV->PV}{n:Nat}{a:List PV}{o:Ob}(h:n∉o.names):XJ K n a o=o:=by
 cases o with|box b=>simp only[XJ];rw[li h]|_=>rfl
theorem Iv{d:Nat}{sub:Tr Ob}{s:IS}(b:Inv d sub s){n:Nat}(g:¬n<d)(K:List PV->PV)(c:List PV):Inv d sub (QN K n c s):=by
 have a:∀m,((s.ob.put n none).map (XJ K n c)).get m=if m=n then none else(s.ob.get m).map (XJ K n c):=by
  intro m;rw[Tr.get_map,Tr.get_put];split<;>rfl
 refine⟨b.le,?_,?_,b.names,b.dts⟩
 ·intro m e h;show((s.ob.put n none).map (XJ K n c)).get m=_;rw[a m,e9 a6,b.same m e h]
  cases q:sub.get m with
  |none=>rfl|some o=>
   simp only[gw];rw[Hv];intro i;exact g ((b.names m o q).2 n i)
 intro m e f;have f:(((s.ob.put n none).map (XJ K n c)).get m).isSome=true:=f;rw[a m,e9 a6]at f;exact b.old m e bS
theorem Jv{s:IS}{σ:St}(b:Rel s σ){n:Nat}{c d:List PV}{K:List PV->PV}(f:s.ob.get n=some (.box (CA c)))(g:GR K c d):∃σ',Wk σ σ'/\Rel (QN K n d s) σ':=by
 have e:jA σ.objs n=some (.box (CA c)):=(b.ob n).trans f;refine⟨σ.frb K n d,λC E a w h=>h.frb e g,⟨?_,?_,b.us⟩⟩
 ·intro t;simp only[St.frb,QN,fZ,b.sl,Tr.get_map];cases s.sl.get t<;>rfl
 intro m;simp only[St.frb,QN,mP,b.ob,Tr.get_map,Tr.get_put];split<;>rfl
def mi{b:Bool}:∀{f a:List PV},dV b f=some a->flgs f a
 |[],_,h=>by cases h
 |[c],a,h=>by
  cases c with
  |bool x=>cases x with
   |false=>
    cases h;exact⟨λe=>(by cases e),trivial⟩
   |true=>cases h
  |_=>cases h
 |c::d::r,a,h=>by
  have key:(∀x,c≠.flg x)->(match dV b (d::r)with|some l=>some (c::l)|none=>none)=some a->flgs (c::d::r) a:=by
   intro g h;split at h
   ·rename_i l i;cases h;rw[flgs.eq_3 _ _ _ _ (λc b _ e=>g b e)];exact⟨⟨rfl,λb e=>g b e⟩,mi i⟩
   cases h
  cases c with
  |flg x=>cases h
  |_=>exact key (λx e=>by cases e) h
def Kv(c:List PV):GR PV.ptr c (wl (PV.w 4) c):=by
 intro H a r;have r:=La 4 c a r;refine⟨a.map sn,Msk.sn a,λ_ _=>trivial,λb a a e off=>?_⟩;exact⟨b,off,rfl,by rw[e];exact RepL.drop off (RepL.mono a (wl (PV.w 4) c) _ _ ie r.sn)⟩
def ni{d n:Nat}{b:Option Bool}{s g:IS}(h:wS d n b s=some g):¬n<d/\∃K a c,s.ob.get n=some (.box (CA a))/\GR K a c/\g=QN K n c s:=by
 unfold wS at h
 cases e:Nat.blt n d with
 |true=>rw[e]at h;cases h
 |false=>
  rw[e,gp]at h;rw[ZJ]at e;refine⟨of_decide_eq_false e,?_⟩;split at h
  ·rename_i l i;split at h
   ·rename_i a j;rw[pZ]at j;have f:=KZ j;subst f;split at h
    ·cases h;exact⟨_,a,_,i,Kv a,rfl⟩
    split at h
    ·rename_i c k;cases h;exact⟨_,a,c,i,Qt (mi k),rfl⟩
    cases h
   cases h
  cases h
def Lv{a n:Nat}{b:Option Bool}{s c:IS}{sub:Tr Ob}(h:wS a n b s=some c)(d:Inv a sub s):Inv a sub c:=by
 obtain⟨e,K,f,g,_,_,rfl⟩:=ni h
 grind[Iv]
def Mv{c n:Nat}{b:Option Bool}{s a:IS}{σ:St}(h:wS c n b s=some a)(d:Rel s σ):∃σ',Wk σ σ'/\Rel a σ':=by
 obtain⟨_,K,e,f,g,i,rfl⟩:=ni h
 grind[Jv]
def WC{call:wC}(A:ZF ev P call){N H bs:Nat}:∀(c:Code)(s:IS)(r:Di)(k:KT),SD ev P call N H bs c s r k->∃e D u,Reach ev P H bs c s e D/\k e D u
 |.skip,s,r,k,h=>⟨.normal,s,r,⟨λ_ h=>h,λX t σ g C E a w O v=>wp_skip ⟨E,σ,.normal,v,rfl,rfl,g⟩⟩,h⟩|.seq a b,s,r,k,h=>by
  have⟨e,p,f,o,j⟩:=WC A a s r _ h
  cases e with
  |normal=>
   have⟨e,I,z,J,Q⟩:=WC A b p f _ j;exact⟨e,I,z,o.seq J,Q⟩
  |exit i=>exact⟨_,p,f,o.seq' a8,j⟩|ret=>exact⟨_,p,f,o.seq' a8,j⟩
 |.cond c x y,s,r,k,h=>by
  unfold SD at h;split at h
  ·rename_i b Y;have U:∀X,HX X ev P H bs->∀σ,Rel s σ->σ.val X.gl c=.pv (.bool b):=λX t σ g=>by rw[g.val,t.gl];exact Y
   split at h
   ·have⟨e,p,f,o,j⟩:=WC A x s r _ h;exact⟨e,p,f,⟨o.inv,λX t σ g=>AWP.condT (U X t σ g) (λ_=>o.awp X t σ g) (nofun)⟩,j⟩
   have⟨e,p,f,o,j⟩:=WC A y s r _ h;exact⟨e,p,f,⟨o.inv,λX t σ g=>AWP.condT (U X t σ g) (nofun) (λ_=>o.awp X t σ g)⟩,j⟩
  exact h.elim
 |.block id b,s,r,k,h=>by
  have⟨e,p,f,o,j⟩:=WC A b s r _ h;have key:∀K,(∀B σ',SN e p B σ'->lL id (SN K p) B σ')->Reach ev P H bs (.block id b) s K p:=λK Z=>⟨o.inv,λX t σ g=>AWP.block (AWP.mono (o.awp X t σ g) Z)⟩
  cases e with
  |normal=>exact⟨.normal,p,f,key _ (by rintro B σ' ⟨rfl,g⟩;exact⟨rfl,g⟩),j⟩|ret=>exact⟨.ret,p,f,key _ (by rintro B σ' ⟨rfl,g⟩;exact⟨rfl,g⟩),j⟩|exit i=>
   simp only[kS]at j;split at j
   ·rename_i e;have e:=gq e;refine⟨.normal,p,f,key _ ?_,j⟩
    rintro B σ' ⟨rfl,g⟩
    simp only[AE.x,lL,gm e];exact⟨rfl,g⟩
   rename_i e;refine⟨.exit i,p,f,key _ ?_,j⟩
   rintro B σ' ⟨rfl,g⟩
   have R:¬i=id:=λK=>by rw[ME K]at e;cases e
   simp only[AE.x,lL,e9 R];exact⟨rfl,g⟩
 |.exit id,s,r,k,h=>⟨.exit id,s,r,⟨λ_ h=>h,λX t σ g C E a w O v=>wp_exit ⟨E,σ,.exit id,v,rfl,rfl,g⟩⟩,h⟩|.ret,s,r,k,h=>⟨.ret,s,r,⟨λ_ h=>h,λX t σ g C E a w O v=>wp_ret ⟨E,σ,.ret,v,rfl,rfl,g⟩⟩,h⟩|.region id ops d,s,r,k,h=>by
  have⟨p,u,o,j⟩:=Bv (id:=id) A h;split at j
  ·split at j
   ·rename_i n V z _ _ L sz ty es ho;obtain⟨W,rfl,J⟩:=LB j;have W:Nat.blt n bs=false:=bS
    have M:zK bs p n=⟨p.sl.map (VB n L V),(p.ob.put n none).map (sC n L V),p.nx,p.dt⟩:=by
     unfold zK;rw[W,ho];simp[gp,wL]
    refine⟨.normal,_,z,?_,J⟩;rw[<-M];refine⟨λsub S=>LZ (o.inv sub S) n,λX t σ g=>AWP.postX (o.awp X t σ g) ?_⟩
    rintro B σ' ⟨rfl,F⟩
    have⟨τ,T,G⟩:=NZ (bs:=bs) F n;exact⟨⟨τ,λC E a w _ v=>T C E a w v,rfl,G⟩,AE.x_np .normal⟩
   simp_all
  ·split at j
   ·rename_i I M;refine⟨.normal,I,_,⟨λsub S=>Lv M (o.inv sub S),λX t σ g=>AWP.postX (o.awp X t σ g) ?_⟩,j⟩
    rintro B σ' ⟨rfl,F⟩
    have⟨τ,T,G⟩:=Mv M F;exact⟨⟨τ,λC E a w _ v=>T C E a w v,rfl,G⟩,AE.x_np .normal⟩
   simp_all
  ·grind
  grind
 |.loop b,s,r,k,h=>by
  have hl:∀m s r,Ia (SD ev P call N H bs b) k m s r->∃e D u,LoopIs ev P H bs b s e D/\k e D u:=by
   intro m
   induction m with
   |zero=>intro s r h;exact h.elim|succ m ih=>
    intro s r h;have⟨e,p,f,o,j⟩:=WC A b s r _ h
    cases e with
    |normal=>
     have⟨e,I,z,J,Q⟩:=ih p f j;exact⟨e,I,z,J.round o,Q⟩
    |exit i=>exact⟨_,p,f,.last a8 o,j⟩|ret=>exact⟨_,p,f,.last a8 o,j⟩
  unfold SD at h;split at h
  ·have⟨hk,h0⟩:=LB h;have⟨⟨o,j⟩,ha⟩:=zJ h0;exact⟨_,_,_,o.reach.kept (VN hk ha),j⟩
  have⟨e,D,u,o,j⟩:=hl N s r h;exact⟨e,D,u,o.reach,j⟩
 |.scope b,s,r,k,h=>by
  have⟨e,p,f,o,j⟩:=WC A b s r _ h;exact⟨e,p,f,⟨o.inv,λX t σ g=>AWP.scopeT (o.awp X t σ g)⟩,j⟩
 |.label l,s,r,k,h=>⟨.normal,s,r,⟨λ_ h=>h,λX t σ g C E a w O v=>wp_label ⟨E,σ,.normal,v,rfl,rfl,g⟩⟩,h⟩|.rangeFunc _ _ _ _,_,_,_,h=>h.elim|.goto _,_,_,_,h=>h.elim|.refuse _,_,_,_,h=>h.elim
open Classical in
noncomputable def FP (nt bs:Nat)(c:Code)(s:IS)(e:AE)(s':IS):ZR:=λ nt' bs' c' s1 k=>if nt'=nt/\bs'=bs/\c'=c/\s1=s then k e s' else none
def Qa{p t:Nat}{c:Code}{s b:IS}{e:AE}(h:Reach ev P p t c s e b):Good ev P (FP p t c s e b):=by
 refine⟨λd f u v k r a sub g=>?_,λd f u v k r a X w i j l m sub σ x g=>?_⟩
 ·unfold FP at a;split at a
  ·rename_i n;obtain⟨rfl,rfl,rfl,rfl⟩:=n;exact⟨e,b,h.inv sub g,a⟩
  cases a
 unfold FP at a;split at a
 ·rename_i n;obtain⟨rfl,rfl,rfl,rfl⟩:=n;refine AWP.mono (h.awp X ⟨w,i,j,l,m⟩ σ x) ?_
  rintro y σ' ⟨rfl,o⟩
  exact⟨e,b,rfl,o,h.inv sub g,a⟩
 cases a
def rI(g:IG ev P)(N:Nat):∀(n:Nat),ZF ev P (LG ev P N n)
 |0=>λ_ _ _ _ _ h=>h.elim|n+1=>λf args s t k h=>by
  unfold LG at h;split at h
  ·rename_i fn i;split at h
   ·rename_i c j;have⟨l,h⟩:=LB h;split at h
    ·rename_i sub m a;have⟨e,u,b,o,d⟩:=WC (rI g N n) _ _ _ _ h;split at d
     ·rename_i r p;refine⟨r,m,b,uV (Qa o) g i j (gi l) a ?_,d⟩;unfold cP FP;simp only[and_self,if_true];exact p
     exact d.elim
    exact h.elim
   exact h.elim
  exact h.elim
def LoopIs.of_round(l:IG ev P){n N g j:Nat}{b:Code}{s k:IS}{m:Di}{o p:Kp}{e:AE}(h:Sh ev P n N g j b s m o p e k):LoopIs ev P g j b s e k:=by
 have⟨r,u,t,f,a⟩:=WC (rI l N n) _ _ _ _ h
 cases r with
 |normal=>
  have⟨c,a⟩:=LB a;have⟨a,d⟩:=zJ a;exact .round (f.keep (VN c d)) a
 |exit i=>
  obtain⟨rfl,a⟩:=a;have⟨c,a⟩:=LB a;have⟨a,d⟩:=zJ a;exact a▸.last a8 (f.keep (VN c d))
 |ret=>
  obtain⟨rfl,a⟩:=a;have⟨c,a⟩:=LB a;have⟨a,d⟩:=zJ a;exact a▸.last a8 (f.keep (VN c d))
theorem AC.wO{f:Nat}{args:List V}{p:PV}{b a:List (Nat×Ob)}(n:Nat)(h:AC P ev.gl f args b (.ret (.pv p)) a):AC P ev.gl f args b (.ret (.pv (p.w n))) a:=h.leO λH v=>nV n p v
def Sa(d:IG ev P){N n f:Nat}{args:List PV}{e:Di}{x:PV}(h:Ja ev P N n f args e x):AC P ev.gl f (args.map .pv) [] (.ret (.pv x)) []:=by
 have⟨⟨y,i,j,k⟩,l,g,⟨ro,b,a⟩,c⟩:=rI d N n _ _ _ _ _ h;unfold Th at c;split at c
 ·have m:ro=[]:=by
   cases ro with|nil=>rfl|cons p r=>have:=a.subs p a8;cases this
  have o:b=[]:=by
   cases b with|nil=>rfl|cons p r=>have:=a.subs p a8;cases this
  have:=a.ac
  grind[AC.wO]
 simp_all
end
def getO_iff{l:List (Nat×Ob)}{n:Nat}:n∈kA l↔(jA l n).isSome=true:=by
 constructor
 ·intro h
  cases e:jA l n with
  |some o=>rfl|none=>
   induction l with
   |nil=>cases h
   |cons p r b=>
    have⟨k,q⟩:=p;unfold jA at e;by_cases a:k=n
    ·rw[gm a]at e;cases e
    rw[e9 a]at e;rcases e8.1 h with h|h
    ·simp_all
    exact b h e
 intro h;have⟨o,c⟩:=aaj.1 h;exact keysO_mem.2 ⟨o,jK c⟩
def AC.cong{P:Program}{s:Nat->Option (List PV)}{f:Nat}{args:List V}{a b k l:List (Nat×Ob)}{out:Out}(h:AC P s f args a out k)(g:∀n,jA a n=jA b n)(i:∀n,jA k n=jA l n)(F:∀n,n∈uD a->n∈uD b):AC P s f args b out l:=by
 have:∀n,n∈kA a↔n∈kA b:=λn=>by rw[getO_iff,getO_iff,g]
 have:∀n,n∈kA k↔n∈kA l:=λn=>by rw[getO_iff,getO_iff,i]
 have y:∀n,(n∈kA a\/n∈kA k\/n∈aF args a)->(n∈kA b\/n∈kA l\/n∈aF args b):=by
  grind[aF,id]
 refine⟨h.direct,λn c=>y n (h.names n c),λm o j n c=>y n (h.namesO m o (by rw[i];exact j) n c),λE w z p A B=>?_⟩;have t:QI s E w a:=⟨p.heap,p.glob,λn o c=>p.obs n o (by rw[<-g];exact c),λn m o r c j=>p.apart n m o r (by rw[<-g];exact c) (by rw[<-g];exact j)⟩;refine(h.calls E w z t A B).mono ?_
 rintro e I ⟨C,d,D⟩
 refine⟨C,⟨d.heap,λn o c=>d.obs n o (by rw[i];exact c),λn m o r c j=>d.apart n m o r (by rw[i];exact c) (by rw[i];exact j),d.hle,d.size,d.rest,λb u v=>d.same b u (λn o c=>v n o (by rw[<-g];exact c)),λn o b c u=>?_,λn o c=>d.ext n o (by rw[g];exact c),λn c x=>d.other n (by rw[g];exact c) (by rw[i];exact x)⟩,D⟩;rcases d.own n o b (by rw[i];exact c) u with h|⟨m,r,h,J⟩
 ·omega
 grind
def abs:=@List.nodup_cons
def GP:∀(l:List (Nat×Ob))(t:Tr Ob),(kA l).Nodup->∀n,(QB l t).get n=match jA l n with|some o=>some o|none=>t.get n
 |[],t,_,n=>rfl|(k,q)::r,t,a,n=>by
  have⟨b,c⟩:=abs.1 a;simp only[QB];rw[GP r _ c,Tr.get_put];by_cases e:k=n
  ·subst e;have:jA r k=none:=by
    cases e:jA r k with|none=>rfl|some o=>exact absurd (getO_iff.2 (by rw[e];rfl)) b
   rw[this];simp[jA]
  rw[e9 (Ne.symm e)];simp only[jA,e9 e]
theorem dS:∀(a:List (Nat×Ob))(n:Nat)(o:Ob),yS n o a=match jA a n with|some b=>b|none=>o
 |[],n,o=>rfl|(m,q)::r,n,o=>by
  unfold yS;by_cases e:n=m
  ·subst e;simp[jA]
  rw[pL e,gp,dS r n o];simp only[jA,e9 (Ne.symm e)]
def Ta(a:List (Nat×Ob)):∀(l:List (Nat×Ob))(n:Nat),jA (DP a l) n=(jA l n).map λo=>yS n o a
 |[],n=>rfl|(k,q)::r,n=>by
  simp only[DP,jA];by_cases e:k=n
  ·simp_all
  rw[e9 e,e9 e,Ta a r n]
def eV(a b:List (Nat×Ob))(n:Nat):jA (a++b) n=match jA a n with|some o=>some o|none=>jA b n:=by
 induction a with
 |nil=>rfl|cons p r c=>
  grind[jA]
def Nv{s:SA}{P:Program}(B:IG s P){N n f m:Nat}{args:List V}{a b:List (Nat×Ob)}{C:Di}{x:V}(h:Vh s P N n f args a m C x b):AC P s.gl f args a (.ret x) b:=by
 have⟨t,h⟩:=LB h;have⟨⟨y,u,H,I⟩,J,D,⟨ro,v,i⟩,r⟩:=rI B N n _ _ _ _ _ h;have t:=EP t;rw[MG]at t;unfold Uh at r;split at r
 ·rename_i e;cases e;have⟨E,r⟩:=LB r;have⟨j,K⟩:=DH E;have j:=UN j;rw[MG]at j;cases r;have w:∀k,(QB a .nil).get k=jA a k:=λk=>by
   rw[GP a _ t];cases jA a k<;>rfl
  have d:∀p∈ro++v,jA a p.1=some p.2:=λp z=>by rw[<-w];exact i.subs p z
  have g:∀k,jA (ro++v) k=jA a k:=by
   intro k
   cases e:jA (ro++v) k with
   |some o=>exact(d (k,o) (jK e)).symm|none=>
    cases l:jA a k with
    |none=>rfl|some o=>
     have c:=i.all k (j k (getO_iff.2 (by rw[l];rfl)));rw[getO_iff,e]at c;cases c
  have key:AC P s.gl f args a (.ret y) (DP u a):=by
   refine AC.cong i.ac g (λk=>?_) (λk j=>?_)
   ·rw[Ta,<-g,hI,eV,eV]
    cases e:jA ro k with
    |some o=>
     have c:=(i.apart k (getO_iff.2 (by rw[e];rfl))).2;have L:jA u k=none:=by
      cases l:jA u k with|none=>rfl|some o=>exact absurd (by simpa using getO_iff.2 (by rw[l];rfl)) c
     grind[dS]
    |none=>
     cases l:jA v k with
     |some o=>
      have c:=i.inch k (getO_iff.2 (by rw[l];rfl));have⟨M,F⟩:=aaj.1 (getO_iff.1 c)
      grind[dS]
     |none=>
      cases G:jA u k with
      |none=>rfl|some o=>
       have c:=(i.chs k (getO_iff.2 (by rw[G];rfl))).2.2;rw[getO_iff,l]at c;cases c
   have⟨p,z,A⟩:=mem_mentO.1 j;exact mem_mentO.2 ⟨p,jK (d p z),A⟩
  cases y with|pv p=>exact AC.wO 4 key|_=>exact key
 simp_all
section
variable{ev:SA}{P:Program}
def pi{X:Env1}{b:Code}{Q j:NB->St->Prop}(n:∀c σ',Q c σ'->(∃σ'',RN X σ' σ''/\j c σ'')/\(∀p,c≠.panic p)/\c≠.normal):∀(m:Nat)(σ:St),UI X b Q m σ->UI X b j m σ
 |0,_,h=>h|m+1,σ,h=>by
  intro C E a w o v;refine wp_mono (h C E a w o v) ?_
  rintro e r s ⟨t,σ',c,f,u,d⟩
  have key:c≠.normal->Q c σ'->WJ C (FU (UI X b j m) j) e r s:=by
   intro z x;have⟨⟨σ'',y,k⟩,A,_⟩:=n c σ' x;have⟨l,g⟩:=y C t r s o f;refine⟨l,σ'',c,g,?_,?_⟩
   ·cases c with|panic p=>simp_all|_=>exact u
   cases c with|normal=>simp_all|_=>exact k
  cases c with|normal=>exact⟨t,σ',.normal,f,u,pi n m σ' d⟩|exit i=>exact key a8 d|ret=>exact key a8 d|panic p=>exact key a8 d
def LoopIs.post{d c:Nat}{b:Code}{s f a:IS}{e:AE}(j:e≠.normal)(h:LoopIs ev P d c b s e f)(k:∀sub,Inv c sub f->Inv c sub a)(l:∀X,HX X ev P d c->∀σ,Rel f σ->∃τ,RN X σ τ/\Rel a τ):LoopIs ev P d c b s e a:=by
 have⟨n,m,o⟩:=h;refine⟨λsub p=>k sub (n sub p),m,λX i σ r=>pi ?_ m σ (o X i σ r)⟩
 rintro v σ' ⟨rfl,g⟩
 have⟨τ,t,u⟩:=l X i σ' g;exact⟨⟨τ,t,rfl,u⟩,AE.x_np e,by cases e<;>simp[AE.x]at j⊢⟩
def eD(n a:Nat)(b:List (List PV)):List (Nat×V)->List (Nat×V)|[]=>[]|(t,x)::r=>(t,VB n a b x)::eD n a b r
def XC(n a:Nat)(b:List (List PV)):List (Nat×Ob)->List (Nat×Ob)|[]=>[]|(m,o)::r=>if m=n then XC n a b r else(m,sC n a b o)::XC n a b r
def ri(n a:Nat)(b:List (List PV)):∀(l:List (Nat×V))(t c:Tr V)(i:Nat),c.get i=(t.get i).map (VB n a b)->(qJ (eD n a b l) c).get i=((qJ l t).get i).map (VB n a b)
 |[],t,c,i,h=>h|(k,x)::r,t,c,i,h=>by
  refine ri n a b r _ _ i ?_;rw[Tr.get_put,Tr.get_put];by_cases e:i=k
  ·rw[gm e,gm e];rfl
  rw[e9 e,e9 e];exact h
def Ua(n a:Nat)(c:List (List PV)):∀(l:List (Nat×Ob))(t d:Tr Ob)(i:Nat),(i≠n->d.get i=(t.get i).map (sC n a c))->(i=n->d.get i=none)->(QB (XC n a c l) d).get i=if i=n then none else((QB l t).get i).map (sC n a c)
 |[],t,d,i,h,f=>by
  split
  ·rename_i e;exact f e
  rename_i e;exact h e
 |(k,x)::r,t,d,i,h,f=>by
  simp only[XC,QB];split
  ·rename_i e;refine Ua n a c r _ _ i (λb=>?_) f;rw[Tr.get_put,e9 (λh=>b (h.trans e))];exact h b
  rename_i e;refine Ua n a c r _ _ i (λb=>?_) (λb=>?_)
  ·rw[Tr.get_put,Tr.get_put];by_cases g:i=k
   ·rw[gm g,gm g];rfl
   rw[e9 g,e9 g];exact h b
  rw[Tr.get_put,e9 (λh=>e (h.symm.trans b))];exact f b
def LoopIs.fz{o bs:Nat}{b:Code}{s:IS}{e:AE}{f:List (Nat×V)}{d:List (Nat×Ob)}{g:Nat}{j:List Nat}(r:e≠.normal)(h:LoopIs ev P o bs b s e ⟨qJ f .nil,QB d .nil,g,j⟩)(n:Nat){ver sz ty:Nat}{ps:List (List PV)}(u:Nat.blt n bs=false)
  (v:(QB d .nil).get n=some (.arr ver sz ty (vA ps))):LoopIs ev P o bs b s e ⟨qJ (eD n ver ps f) .nil,QB (XC n ver ps d) .nil,g,j⟩:=by
 have p:zK bs ⟨qJ f .nil,QB d .nil,g,j⟩ n=⟨(qJ f .nil).map (VB n ver ps),((QB d .nil).put n none).map (sC n ver ps),g,j⟩:=by
  unfold zK;rw[u,v];simp[gp,wL]
 have x:∀i,(qJ (eD n ver ps f) .nil).get i=((qJ f .nil).map (VB n ver ps)).get i:=λi=>by rw[Tr.get_map];exact ri n ver ps f .nil .nil i rfl
 have k:∀i,(QB (XC n ver ps d) .nil).get i=(((QB d .nil).put n none).map (sC n ver ps)).get i:=λi=>by
  rw[Tr.get_map,Tr.get_put,Ua n ver ps d .nil .nil i (λ_=>rfl) (λ_=>rfl)];split<;>rfl
 refine h.post r (λ_ y=>?_) (λX _ σ z=>?_)
 ·have:=LZ y n;rw[p]at this;exact⟨this.le,λi l A=>(k i).trans (this.same i l A),λi l B=>this.old i l ((k i)▸B),this.names,this.dts⟩
 have⟨τ,D,c⟩:=NZ (bs:=bs) z n;rw[p]at c;exact⟨τ,λC E a w _ F=>D C E a w F,⟨λt=>(c.sl t).trans (by rw[x]),λm=>(c.ob m).trans (k m).symm,c.us⟩⟩
end
section
variable{ev:SA}{P:Program}
structure Reach2(ev:SA)(P:Program)(nt bs:Nat)(c:Code)(s:IS)(k:KT):Prop where
 syn:∃e s' tp,(∀sub,Inv bs sub s->Inv bs sub s')/\k e s' tp
 awp:∀X,HX X ev P nt bs->∀σ,Rel s σ->AWP X c σ λae σ'=>∃e s' tp,ae=AE.x e/\Rel s' σ'/\(∀sub,Inv bs sub s->Inv bs sub s')/\k e s' tp
theorem Reach2.of{d f:Nat}{c:Code}{s a:IS}{e:AE}{b:Di}{k:KT}(h:Reach ev P d f c s e a)(g:k e a b):Reach2 ev P d f c s k:=
 ⟨⟨e,a,b,h.inv,g⟩,λX d σ f=>AWP.mono (h.awp X d σ f) (by rintro d σ' ⟨rfl,d⟩;exact⟨e,a,b,rfl,d,h.inv,g⟩)⟩
def wK{call:wC}(p:ZF ev P call){N nt bs:Nat}:∀(c:Code)(s:IS)(j:Di)(k:KT),CH ev P call N nt bs c s j k->Reach2 ev P nt bs c s k
 |.seq a b,s,j,k,h=>by
  have E:=wK p a s j _ h;have t:∀m f,CH ev P call N nt bs b m f k->Reach2 ev P nt bs b m k:=λm f g=>wK p b m f k g
  refine⟨?_,λX n σ r=>AWP.seq (AWP.mono (E.awp X n σ r) ?_)⟩
  ·have⟨e,m,f,z,g⟩:=E.syn
   cases e with
   |normal=>
    have⟨e,I,G,H,o⟩:=(t m f g).syn
    grind
   |exit i=>exact⟨.exit i,m,f,z,g⟩|ret=>exact⟨.ret,m,f,z,g⟩
  rintro J σ' ⟨e,m,f,rfl,u,z,g⟩
  cases e with
  |normal=>
   refine AWP.mono ((t m f g).awp X n σ' u) ?_
   grind
  |exit i=>exact⟨.exit i,m,f,rfl,u,z,g⟩|ret=>exact⟨.ret,m,f,rfl,u,z,g⟩
 |.block id b,s,j,k,h=>by
  have t:=wK p b s j _ h;have key:∀e m f,kS id k e m f->∃B,k B m f/\∀(Q:NB->St->Prop)σ',Q (AE.x B) σ'->lL id Q (AE.x e) σ':=by
   intro e m f g
   cases e with
   |normal=>exact⟨.normal,g,λQ σ' v=>v⟩|ret=>exact⟨.ret,g,λQ σ' v=>v⟩|exit i=>
    simp only[kS]at g;split at g
    ·rename_i e;have e:=gq e;refine⟨.normal,g,λQ σ' v=>?_⟩;simp only[AE.x,lL,gm e];exact v
    rename_i e;have C:¬i=id:=λB=>by rw[ME B]at e;cases e
    refine⟨.exit i,g,λQ σ' v=>?_⟩;simp only[AE.x,lL,e9 C];exact v
  refine⟨?_,λX n σ r=>AWP.block (AWP.mono (t.awp X n σ r) ?_)⟩
  ·have⟨e,m,f,z,g⟩:=t.syn
   grind
  grind
 |.scope b,s,j,k,h=>by
  have t:=wK p b s j _ h;exact⟨t.syn,λX n σ r=>AWP.scopeT (t.awp X n σ r)⟩
 |.cond c x y,s,j,k,h=>by
  unfold CH at h;split at h
  ·rename_i b t;have⟨A,w⟩:=h;have w:=wK p y s j k w;have A:b=true->Reach2 ev P nt bs x s k:=λe=>wK p x s j k (A e)
   refine⟨w.syn,λX n σ r=>Kt (v:=.pv (.flg b)) (by rw[r.val,n.gl];exact t) ⟨λe=>(A e).awp X n σ r,w.awp X n σ r⟩⟩
  ·rename_i b t;have F:∀X,HX X ev P nt bs->∀σ,Rel s σ->σ.val X.gl c=.pv (.bool b):=λX n σ r=>by rw[r.val,n.gl];exact t
   split at h
   ·have A:=wK p x s j k h;exact⟨A.syn,λX n σ r=>AWP.condT (F X n σ r) (λ_=>A.awp X n σ r) (nofun)⟩
   have w:=wK p y s j k h;exact⟨w.syn,λX n σ r=>AWP.condT (F X n σ r) (nofun) (λ_=>w.awp X n σ r)⟩
  exact h.elim
 |.skip,s,j,k,h=>by have⟨e,m,f,g,o⟩:=WC p .skip s j k h;exact .of g o|.exit id,s,j,k,h=>by have⟨e,m,f,g,o⟩:=WC p (.exit id) s j k h;exact .of g o|.ret,s,j,k,h=>by have⟨e,m,f,g,o⟩:=WC p .ret s j k h;exact .of g o|.region id D d,s,j,k,h=>by have⟨e,m,f,g,o⟩:=WC p (.region id D d) s j k h;exact .of g o|.loop b,s,j,k,h=>by have⟨e,m,f,g,o⟩:=WC p (.loop b) s j k h;exact .of g o|.label l,s,j,k,h=>by have⟨e,m,f,g,o⟩:=WC p (.label l) s j k h;exact .of g o|.rangeFunc a b c d,s,j,k,h=>by have⟨e,m,f,g,o⟩:=WC p (.rangeFunc a b c d) s j k h;exact .of g o|.goto l,s,j,k,h=>by have⟨e,m,f,g,o⟩:=WC p (.goto l) s j k h;exact .of g o|.refuse l,s,j,k,h=>by have⟨e,m,f,g,o⟩:=WC p (.refuse l) s j k h;exact .of g o
def Va:∀args:List PV,GA (args.map V.pv)=[]|[]=>rfl|a::l=>by show []++GA (l.map V.pv)=[];rw[Va l];rfl
open Classical in
noncomputable def fS (nt bs:Nat)(c:Code)(s:IS)(K:AE->IS->Option OB)(r:OB):ZR:=λ nt' bs' c' s1 k=>if nt'=nt/\bs'=bs/\c'=c/\s1=s/\k=K then some r else none
def Ov(I:IG ev P){N n f:Nat}{args:List PV}{J:Di}{d:Kp}{x:PV}(h:Ka ev P N n f args J d x):AC P ev.gl f (args.map .pv) [] (.ret (.pv x)) []:=by
 unfold Ka at h;split at h
 ·rename_i fn Q;split at h
  ·rename_i c R;have⟨hl,h⟩:=LB h;let o:IS:=⟨CE 0 (args.map .pv) .nil,.nil,0,[]⟩;let K:=aP ev.T 0 .nil fn.results.toList;let r:OB:=⟨.pv x,[],[],d.nx⟩;have L:=wK (rI I N n) (nt:=fn.ntmps) (bs:=0) c o J _ h;have b:∀e g,gd (DL d 0 g) (JG g.ob d.on (K e (AH d g)=some r))->KpOK d 0 g/\K e (AH d g)=some r:=by
    grind[LB,zJ,VN]
   have S:Good ev P (fS fn.ntmps 0 c o K r):=by
    refine⟨λs t T g k U a sub u=>?_,λs t T g k U a X W v w y z sub σ i u=>?_⟩
    ·unfold fS at a;split at a
     ·rename_i A;obtain⟨rfl,rfl,rfl,rfl,rfl⟩:=A;cases a;have⟨e,B,C,D,j⟩:=L.syn;have⟨m,E⟩:=b e B j;exact⟨e,_,m.inv (D sub u),E⟩
     cases a
    unfold fS at a;split at a
    ·rename_i A;obtain⟨rfl,rfl,rfl,rfl,rfl⟩:=A;cases a;have M:HX X ev P fn.ntmps 0:=⟨W,v,w,y,z⟩;refine AWP.postX (L.awp X M σ i) ?_
     rintro ae σ' ⟨e,B,C,rfl,F,D,j⟩
     have⟨m,E⟩:=b e B j;have⟨τ,Y,Z⟩:=m.wk M F;exact⟨⟨τ,Y,e,_,rfl,Z,m.inv (D sub u),E⟩,AE.x_np e⟩
    cases a
   have l:cP ev (fS fn.ntmps 0 c o K r) fn c (args.map .pv) 0 .nil=some r:=by
    unfold cP fS
    grind
   have hn:GA (args.map V.pv)=[]:=by
    simp[Va]
   have G:reach 0 .nil 1000000 (GA (args.map V.pv)) .nil []=some (.nil,[]):=by rw[hn];rfl
   have⟨ro,O,H⟩:=uV (s:=⟨.nil,.nil,0,[]⟩) S I Q R bS G l;have h1:ro=[]:=by
    cases ro with|nil=>rfl|cons p r=>have:=H.subs p a8;cases this
   have j:O=[]:=by
    cases O with|nil=>rfl|cons p r=>have:=H.subs p a8;cases this
   have:=H.ac;rw[h1,j]at this;exact this
  simp_all
 simp_all
end
def ai(a:Nat)(o:Oper):Bool:=match o.op with
 |.panic _=>Nat.beq 99999 a|_=>match o.dst with|some d=>Nat.beq d a|none=>false
def Pv:PV->Bool|.iface _ _=>true|_=>false
def iV(a:SA)(P:Program)(b:Nat)(o:Oper)(s:IS)(c:Di)(p:PV)(k:List Nat->Prop):Prop:=match o.guard with
 |some _=>False|none=>gd (qS b o.dst) (match fD (s.val a.gl) o.op with
  |some (f,args)=>match BL (gV o.dst) c with|some (.r _,_)=>AC P a.gl f (wA args) [] (.panic p) []/\k []|some (.o ro _ _,_)=>gd (KG ro) (BP s.ob ro λl=>AC P a.gl f (wA args) l (.panic p) []/\k ro)|_=>False
  |none=>match o.op with|.panic x=>s.val a.gl x=.pv p/\gd (Pv p) (k [])|_=>False)
def gS(b:SA)(P:Program)(call:wC)(c d:Nat)(all:List Oper)(e:Nat)(p:PV):List Oper->IS->Di->(IS->List Nat->Prop)->Prop
 |[],_,_,_=>False|o::r,s,a,k=>match ai e o with|true=>iV b P c o s a p (k s)|false=>lV b P call c d all o s a λf _ a=>gS b P call c d all e p r f a k
def WN(a:Nat):List Oper->Nat->Nat|[],i=>i|o::r,i=>bif ai a o then i else WN a r (i+1)
def ci(a:List Oper)(jp:Nat)(b:List Bool):Bool:=(List.range a.length).all λi=>match a[i]? with|some o=>(b.getD i false)==(!(Nat.beq i jp)&&(iH o).all λd=>b.getD d false)|none=>false
def oV(jp:Nat):List Oper->Nat->List Bool->List Bool|[],_,a=>a|o::r,i,a=>oV jp r (i+1) (a++[!(Nat.beq i jp)&&(iH o).all λd=>a.getD d false])
def HP(a:SA)(P:Program)(call:wC)(c e:Nat)(all:List Oper)(jp:Nat)(p:PV)(f:List Bool):Nat->List Oper->IS->List Tc->Di->(List Tc->Prop)->Prop
 |_,[],_,d,_,k=>k d|i,o::r,s,d,b,k=>match Nat.beq i jp with
  |true=>match fD (s.val a.gl) o.op with|some _=>iV a P c o s b p λro=>HP a P call c e all jp p f (i+1) r s (⟨[],ro⟩::d) b k|none=>False
  |false=>match f.getD i false with|true=>lV a P call c e all o s b λg h b=>HP a P call c e all jp p f (i+1) r g (h::d) b k|false=>HP a P call c e all jp p f (i+1) r s (⟨[],[]⟩::d) b k
def ii(e:SA)(P:Program)(call:wC)(f d:Nat)(a:List Oper)(c:Bool)(b:Nat)(p:PV)(s:IS)(g:Di):Prop:=match c with
 |false=>gS e P call f d a b p a (AL d (YI a) s) g λ_ _=>True|true=>gd (kV a) (gd (Nat.blt (WN b a 0) a.length) (gd (ci a (WN b a 0) (oV (WN b a 0) a 0 []))
   (HP e P call f d a (WN b a 0) p (oV (WN b a 0) a 0 []) 0 a (AL d (YI a) s) [] g λb=>match xL b with|true=>True|false=>gd (iP a b.reverse) True)))
def kK(r:Nat):Code->Bool|.region id _ _=>Nat.beq id r|.seq a b=>bif kK r a then true else kK r b|.block _ b=>kK r b|.scope b=>kK r b|.cond _ a b=>bif kK r a then true else kK r b|_=>false
def vJ(g:SA)(P:Program)(call:wC)(N h i rg j:Nat)(p:PV):Code->IS->Di->Prop
 |.seq a b,s,f=>match kK rg a with
  |true=>vJ g P call N h i rg j p a s f|false=>SD g P call N h i a s f λe s f=>match e with|.normal=>vJ g P call N h i rg j p b s f|_=>False
 |.block _ b,s,f=>vJ g P call N h i rg j p b s f|.scope b,s,f=>vJ g P call N h i rg j p b s f|.cond c x y,s,f=>match s.val g.gl c with
  |.pv (.bool b)=>match b with|true=>vJ g P call N h i rg j p x s f|false=>vJ g P call N h i rg j p y s f
  |_=>False
 |.region _ k d,s,f=>ii g P call h i k.toList d j p s f|_,_,_=>False
def Wa(b:SA)(P:Program)(N n f:Nat)(args:List V)(a:List (Nat×Ob))(m rg d:Nat)(e:Di)(p:PV):Prop:=match b.F f with
 |some fn=>match fn.body with
  |some c=>gd (Nat.ble args.length fn.ntmps) (gd (KG (tC a)) (gd (BH m (tC a)) (gd (CL (GA args) (tC a)) (gd (CL (KC a) (tC a))
   (vJ b P (LG b P N n) N fn.ntmps m rg d p c ⟨CE 0 args .nil,QB a .nil,m,[]⟩ e)))))
  |none=>False
 |none=>False
section
variable{ev:SA}{P:Program}
structure xi(ev:SA)(P:Program)(o:Oper)(s:IS)(p:PV)(ro:List Nat)(f:Nat)(args:List V)(l:List (Nat×Ob)):Prop where
 g:o.guard=none
 fe:fD (s.val ev.gl) o.op=some (f,args)
 ac:AC P ev.gl f args l (.panic p) []
 ks:kA l=ro
 ob:∀q∈l,s.ob.get q.1=some q.2
def Ai{g:Nat}{o:Oper}{s:IS}{i:Di}{p:PV}{k:List Nat->Prop}(h:iV ev P g o s i p k):qS g o.dst=true/\((∃ro f args l,xi ev P o s p ro f args l/\k ro)\/(fD (s.val ev.gl) o.op=none/\o.guard=none/\∃x t q,o.op=.panic x/\p=.iface t q/\s.val ev.gl x=.pv p/\k [])):=by
 unfold iV at h;split at h
 ·simp_all
 rename_i b;have⟨j,h⟩:=LB h;refine⟨j,?_⟩;split at h
 ·rename_i f args a;refine .inl ?_;split at h
  ·exact⟨[],f,args,[],⟨b,a,h.1.wA,rfl,λq m=>by cases m⟩,h.2⟩
  ·rename_i ro _ _ _ _;have⟨_,h⟩:=LB h;have⟨l,c,d,e,n⟩:=rV h;exact⟨ro,f,args,l,⟨b,a,e.wA,c,d⟩,n⟩
  exact h.elim
 rename_i a;split at h
 ·rename_i x r;have⟨c,h⟩:=h;have⟨d,e⟩:=LB h
  cases p with|iface t q=>exact .inr ⟨a,b,x,t,q,r,rfl,c,e⟩|_=>cases d
 exact h.elim
def Qv{σ:St}{s:IS}{l:List (Nat×Ob)}(a:Rel s σ):∀n,n∉kA l->jA (σ.eff none (dD .undef l [])).objs n=s.ob.get n:=λn b=>by
 rw[<-a.ob];show jA (XF σ.objs (eH l [])) n=_;rw[RI];simp only[jA,e9 b]
def Xa{call:wC}(J:ZF ev P call){K L:Nat}{all:List Oper}{O:Nat}{p:PV}{k:IS->List Nat->Prop}:∀(l:List Oper){s:IS}{M:Di},gS ev P call K L all O p l s M k->
  ∀X,HX X ev P K L->∀{C:Ctx}{Q:Exit->Act->World->Prop},(∀E τ a w v,Ga C E τ a w->RepP E.H p v->(∃s ro,k s ro/\(∀n,n∉ro->jA τ.objs n=s.ob.get n)/\∀t,OA τ.slots t=(match s.sl.get t with|some v=>v|none=>.undef))->Q (.panic [{v,recovered:=false}]) a w)->
  ∀{E:Env}{σ:St}{a:Act}{w:World},SI X C->Rel s σ->Ga C E σ a w->wpList X.P all.toArray Q l a w
 |[],_,_,h,_,_,_,_,_,_,_,_,_,_,_,_=>h.elim|o::r,s,M,h,X,b,C,Q,i,E,σ,a,w,j,g,y=>by
  unfold gS at h;split at h
  ·have⟨R,h⟩:=Ai h;have z:∀d,o.dst=some d->d<C.nt:=by
    have:=uS R b.nt;intro d e;rw[j.nt];rw[e]at this;exact this
   have S:uP ((kA ([]:List (Nat×Ob))).filter λn=>(jA ([]:List (Nat×Ob)) n).isNone) σ.used:=by simp[kA,uP]
   have key:∀A:PV->St->Prop,(∀q τ,A q τ->q=p/\∃s ro,k s ro/\(∀n,n∉ro->jA τ.objs n=s.ob.get n)/\∀t,OA τ.slots t=(match s.sl.get t with|some v=>v|none=>.undef))->o.guard=none->DR X false A o σ (λ_=>False)->wpList X.P all.toArray Q (o::r) a w:=λA T B h=>by
    unfold wpList;rw[gm (by simp[Region.wanted,B])];exact .inl (Bt X.ok j.glob y z (λ_ _ _ _ h=>h.elim) (λE τ q v a w y c D=>by
     have⟨e,U⟩:=T q τ c;exact i E τ a w v y (e▸D) U) h)
   rcases h with ⟨ro,f,args,l,m,F⟩|⟨G,B,x,t,q,V,rfl,D,F⟩
   ·refine key (λq τ=>q=p/\τ=σ.eff none (dD .undef l [])) (λq τ c=>⟨c.1,s,ro,F,c.2▸m.ks▸Qv g,c.2▸g.sl⟩) m.g ?_;have u:fD (σ.val X.gl) o.op=some (f,args):=by rw[g.val,b.gl];exact m.fe
    unfold DR;rw[u];exact⟨l,.panic p,[],(by rw[b.P,b.gl];exact m.ac),(PN λq c=>by rw[g.ob];exact m.ob q c),S,rfl,rfl,rfl⟩
   refine key (λN τ=>N=.iface t q/\τ=σ) (λN τ c=>⟨c.1,s,[],F,λn _=>c.2▸g.ob n,c.2▸g.sl⟩) B ?_;have u:fD (σ.val X.gl) o.op=none:=by rw[g.val,b.gl];exact G
   have H:σ.val X.gl x=.pv (.iface t q):=by rw[g.val,b.gl];exact D
   unfold DR;rw[u];simp only[zZ,V,H,jZ,and_self]
  have⟨s1,tc,W,u,H⟩:=Oa J h;have⟨e,Y,Z,_⟩:=u.ok X b.P b.T b.gl b.nt σ g;exact Nh X.ok j.glob j.nt Y y λE' a' w' I=>Xa J r H X b i j Z I
inductive OpsL(ev:SA)(P:Program)(nt bs:Nat)(all:List Oper)(jp:Nat)(p:PV)(lv:List Bool):Nat->List Oper->IS->List Tc->List Tc->Prop|nil (i:Nat) (s:IS) (tr:List Tc):OpsL ev P nt bs all jp p lv i [] s tr tr|pan {o:Oper} {l:List Oper} {s:IS} {tr tr2:List Tc} {ro:List Nat} {f:Nat} {args:List V} {m:List (Nat×Ob)} (h:xi ev P o s p ro f args m) (h':OpsL ev P nt bs all jp p lv (jp+1) l s (⟨[],ro⟩::tr) tr2) (hj:lv.getD jp false=false):OpsL ev P nt bs all jp p lv jp (o::l) s tr tr2|live {i:Nat} {o:Oper} {l:List Oper} {s s1:IS} {tc:Tc} {tr tr2:List Tc} (hi:i≠jp) (hl:lv.getD i false=true) (h:tV ev P nt bs all o s s1 tc) (h':OpsL ev P nt bs all jp p lv (i+1) l s1 (tc::tr) tr2):OpsL ev P nt bs all jp p lv i (o::l) s tr tr2|skip {i:Nat} {o:Oper} {l:List Oper} {s:IS} {tr tr2:List Tc} (hi:i≠jp) (hl:lv.getD i false=false) (h':OpsL ev P nt bs all jp p lv (i+1) l s (⟨[],[]⟩::tr) tr2):OpsL ev P nt bs all jp p lv i (o::l) s tr tr2
def xV{call:wC}(g:ZF ev P call){x y:Nat}{all:List Oper}{jp:Nat}{p:PV}{t:List Bool}(j:t.getD jp false=false){k:List Tc->Prop}:∀(l:List Oper)(i:Nat){s:IS}{b:List Tc}{u:Di},HP ev P call x y all jp p t i l s b u k->∃a,OpsL ev P x y all jp p t i l s b a/\k a
 |[],i,s,b,u,h=>⟨b,.nil i s b,h⟩|o::r,i,s,b,u,h=>by
  unfold HP at h;split at h
  ·rename_i e;obtain rfl:=gq e;split at h
   ·obtain⟨_,⟨ro,f,args,m,n,v⟩|⟨n,_⟩⟩:=Ai h
    ·have⟨a,c,d⟩:=xV g j r _ v;exact⟨a,.pan n c j,d⟩
    simp_all
   simp_all
  rename_i e;have z:i≠jp:=λA=>by rw[ME A]at e;cases e
  split at h
  ·rename_i w;have⟨C,D,B,n,v⟩:=Oa g h;have⟨a,c,d⟩:=xV g j r _ v;exact⟨a,.live z w n c,d⟩
  rename_i w;have⟨a,c,d⟩:=xV g j r _ h;exact⟨a,.skip z w c,d⟩
abbrev AF(lv:List Bool)(n:Nat):Nat->Bool:=λm=>lv.getD m false&&decide (m<n)
def OpsL.ok{H M:Nat}{all:List Oper}{jp:Nat}{p:PV}{d:List Bool}{X:Env1}(N:X.P=P)(A:X.T=ev.T)(u:X.gl=ev.gl)(B:X.nt=H){i:Nat}{l:List Oper}{s:IS}{g c:List Tc}(h:OpsL ev P H M all jp p d i l s g c):∀{σ:St},Rel s σ->
  ∃a b,a.length=l.length/\c=b.reverse++g/\TcsOK a b/\∀j o e,l[j]? =some o->a[j]? =some e->
   (d.getD (i+j) false=true->VJ X all o (LA (AF d (i+j)) i (uB l a) σ) e)/\
   (i+j=jp->o.guard=none/\∃f args m,fD ((LA (AF d jp) i (uB l a) σ).val X.gl) o.op=some (f,args)/\AC P ev.gl f args m (.panic p) []/\xB m (LA (AF d jp) i (uB l a) σ).objs/\e=⟨.undef,[],[],kA m⟩):=by
 have base:∀(i n:Nat)(l:List (Option Nat×Eff))(σ:St),n<=i->LA (AF d n) i l σ=σ:=λi n l σ h=>dZ l i σ λm S=>by grind
 have cons:∀{i:Nat}{o:Oper}{l:List Oper}{e:Eff}{tc:Tc}{σ σ1:St}{g c:List Tc},ZI e tc->(∀n a,i<n->LA (AF d n) i (uB (o::l) (e::a)) σ=LA (AF d n) (i+1) (uB l a) σ1)->
   ((d.getD i false=true->VJ X all o σ e)/\(i=jp->o.guard=none/\∃f args m,fD (σ.val X.gl) o.op=some (f,args)/\AC P ev.gl f args m (.panic p) []/\xB m σ.objs/\e=⟨.undef,[],[],kA m⟩))->
   (∃a b,a.length=l.length/\c=b.reverse++tc::g/\TcsOK a b/\∀j o e,l[j]? =some o->a[j]? =some e->
    (d.getD (i+1+j) false=true->VJ X all o (LA (AF d (i+1+j)) (i+1) (uB l a) σ1) e)/\
    (i+1+j=jp->o.guard=none/\∃f args m,fD ((LA (AF d jp) (i+1) (uB l a) σ1).val X.gl) o.op=some (f,args)/\AC P ev.gl f args m (.panic p) []/\xB m (LA (AF d jp) (i+1) (uB l a) σ1).objs/\e=⟨.undef,[],[],kA m⟩))->
   ∃a b,a.length=(o::l).length/\c=b.reverse++g/\TcsOK a b/\∀j t e,(o::l)[j]? =some t->a[j]? =some e->
    (d.getD (i+j) false=true->VJ X all t (LA (AF d (i+j)) i (uB (o::l) a) σ) e)/\
    (i+j=jp->t.guard=none/\∃f args m,fD ((LA (AF d jp) i (uB (o::l) a) σ).val X.gl) t.op=some (f,args)/\AC P ev.gl f args m (.panic p) []/\xB m (LA (AF d jp) i (uB (o::l) a) σ).objs/\e=⟨.undef,[],[],kA m⟩):=by
  rintro i o l e tc σ σ1 g c L I J ⟨a,b,C,D,E,F⟩
  refine⟨e::a,tc::b,by simp[C],by simp[D],E.cons L,λj t O x y=>?_⟩
  cases j with
  |zero=>
   simp only[aat,e5]at x y;subst x y;rw[ir,base i i _ _ (e6 _)];refine⟨J.1,λk=>?_⟩;subst k;rw[base i i _ _ (e6 _)];exact J.2 rfl
  |succ j=>
   simp only[List.getElem?_cons_succ]at x y;have:=F j t O x y;rw[show i+(j+1)=i+1+j by omega,I _ _ a6];refine⟨this.1,λk=>?_⟩;rw[I _ _ a6];exact this.2 k
 induction h with
 |nil i s g=>intro σ _;exact⟨[],[],rfl,rfl,by simp[TcsOK],λj o e h=>by simp at h⟩|@pan o l s g c ro f args m v _ K w=>
  intro σ r;have Q:=v.ks;refine cons (i:=jp) (e:=⟨.undef,[],[],kA m⟩) (tc:=⟨[],ro⟩) (σ1:=σ) ⟨by simp[Eff.wn],by simp[Q]⟩ (λn a G=>?_) ⟨λh=>(by rw[K]at h;cases h),λ_=>⟨v.g,f,args,m,by rw[r.val,u];exact v.fe,v.ac,PN λq R=>by rw[r.ob];exact v.ob q R,rfl⟩⟩ (w r);simp only[uB,gF,aaM,LA,AF,K,Bool.false_and,Bool.false_eq_true,if_false]
 |@live i o l s T tc g c k z C _ w=>
  intro σ r;have⟨e,D,E,F⟩:=C.ok X N A u B σ r;refine cons (i:=i) (e:=e) (tc:=tc) (σ1:=σ.eff o.dst e) F (λn a G=>?_) ⟨λ_=>D,λh=>absurd h k⟩ (w E);simp only[uB,gF,aaM,LA,AF,z,abz,aaU G,if_true]
 |@skip i o l s g c k z _ w=>
  intro σ r;refine cons (i:=i) (e:=eF) (tc:=⟨[],[]⟩) (σ1:=σ) ⟨by simp[eF,Eff.wn],by simp[eF]⟩ (λn a G=>?_) ⟨λh=>(by rw[z]at h;cases h),λh=>absurd h k⟩ (w r);simp only[uB,gF,aaM,LA,AF,z,Bool.false_and,Bool.false_eq_true,if_false]
def Rv{call:wC}(I:ZF ev P call){J bs id:Nat}{b:Array Oper}{d:Bool}{K:Nat}{p:PV}{s:IS}{R:Di}(h:ii ev P call J bs b.toList d K p s R):∀X,HX X ev P J bs->∀σ,Rel s σ->AWP X (.region id b d) σ λy _=>y=.panic p:=by
 intro X n σ S;have⟨σ0,T,z⟩:=bV (bs:=bs) (YI b.toList) S;refine AWP.wk T ?_
 cases d with
 |false=>
  intro C E a w D t;refine wp_region_list ?_;have:=Xa I _ h X n (Q:=WJ C λy _=>y=.panic p) (λE τ a w v t F _=>⟨E,τ,.panic p,t,⟨v,rfl,F⟩,rfl⟩) D z t;omega
 |true=>
  have⟨U,h⟩:=LB h;have⟨g,h⟩:=LB h;have⟨l,h⟩:=LB h;generalize V:WN K b.toList 0=jp at g l h;generalize oV jp b.toList 0 []=A at l h;have g:jp<b.toList.length:=by rwa[Nat.blt_eq]at g
  have W:∀i o,b.toList[i]? =some o->(A.getD i false=true↔i≠jp/\∀d∈iH o,A.getD d false=true):=λi o x=>by
   unfold ci at l;have:=aav.1 l i (by have:=(gf.1 x).1;simp_all);rw[x]at this;simp only[beq_iff_eq]at this;have Y:Nat.beq i jp=decide (i=jp):=by
    grind[ME,decide_eq_true,pL,decide_eq_false]
   rw[this,Y];simp
  have u:A.getD jp false=false:=by
   cases e:A.getD jp false with|false=>rfl|true=>simp_all
  have⟨B,Z,h2⟩:=xV I u _ _ h;have⟨L,tcs,M,N,h5,O⟩:=Z.ok n.P n.T n.gl n.nt z;have Q:xL B=true\/iP b.toList B.reverse=true:=by
   grind[LB]
  rw[hI]at N;have G:iN b.toList L=true:=Ph U (by rw[N,List.reverse_reverse]at Q;exact Q) M h5;intro C E a w D t;refine wp_region_any X.mix ?_;have H:Ga C E σ0 a {w with drawn:=w.drawn+1}:=t.drew;have c:∀i,(Array.replicate b.size false).getD i false=false:=by
   intro i;rw[ib,Array.getElem?_replicate];split<;>rfl
  have hf:∀(r:List (Option Nat×Eff))(k:Nat)(s:St),LA (λm=>(Array.replicate b.size false).getD m false) k r s=s:=λr k s=>dZ r k s λi _=>c i
  have:=Ng (X:=X) (C:=C) (Q:=WJ C λy _=>y=.panic p) X.ok D.glob D.nt M (L:=λm=>A.getD m false) (jp:=jp) W (λi o e hl x he=>by
   have:=(O i o e x he).1;rw[ia]at this;exact this hl) G (λh=>absurd g (Nat.not_lt_of_le h)) (λop x=>by
   have⟨g1,f,args,m,g2,g3,g4,g5⟩:=(O jp op L[jp] x (e7 a6)).2 (ia _);refine⟨g1,f,args,m,p,g2,by rw[n.P,n.gl];exact g3,g4,by rw[<-g5];exact e7 _,λE τ a w v t F=>⟨E,τ,.panic p,t,⟨v,rfl,F⟩,rfl⟩⟩) b.size (Array.replicate b.size false) E a _ a8 a8 (λj u=>by rw[c]at u;cases u) (λj u=>by rw[c]at u;cases u) (by rw[hf];exact H)
  omega
def XN{call:wC}(j:ZF ev P call){N n o rg u:Nat}{p:PV}:∀(c:Code)(s:IS)(g:Di),vJ ev P call N n o rg u p c s g->∀X,HX X ev P n o->∀σ,Rel s σ->AWP X c σ λk _=>k=.panic p
 |.seq a b,s,g,h,X,f,σ,i=>by
  unfold vJ at h;split at h
  ·refine AWP.seq (AWP.mono (XN j a s g h X f σ i) ?_)
   rintro k σ' rfl
   exact rfl
  have⟨e,v,l,w,r⟩:=WC j a s g _ h;refine AWP.seq (AWP.mono (w.awp X f σ i) ?_)
  rintro k σ' ⟨rfl,m⟩
  cases e with|normal=>exact XN j b v l r X f σ' m|_=>exact r.elim
 |.block id b,s,g,h,X,f,σ,i=>by
  refine AWP.block (AWP.mono (XN j b s g h X f σ i) ?_)
  rintro k σ' rfl
  exact rfl
 |.scope b,s,g,h,X,f,σ,i=>AWP.scopeT (XN j b s g h X f σ i)|.cond c x y,s,g,h,X,f,σ,i=>by
  unfold vJ at h;split at h
  ·rename_i b z;have t:σ.val X.gl c=.pv (.bool b):=by rw[i.val,f.gl];exact z
   split at h
   ·exact AWP.condT t (λ_=>XN j x s g h X f σ i) (nofun)
   exact AWP.condT t (nofun) (λ_=>XN j y s g h X f σ i)
  exact h.elim
 |.region id A d,s,g,h,X,f,σ,i=>Rv j h X f σ i|.skip,_,_,h,_,_,_,_=>h.elim|.exit _,_,_,h,_,_,_,_=>h.elim|.ret,_,_,h,_,_,_,_=>h.elim|.loop _,_,_,h,_,_,_,_=>h.elim|.label _,_,_,h,_,_,_,_=>h.elim|.rangeFunc _ _ _ _,_,_,h,_,_,_,_=>h.elim|.goto _,_,_,h,_,_,_,_=>h.elim|.refuse _,_,_,h,_,_,_,_=>h.elim
def Ya{args:List V}{objs:List (Nat×Ob)}{m:Nat}(a:(kA objs).Nodup)(b:∀n∈kA objs,n<m):Rel ⟨CE 0 args .nil,QB objs .nil,m,[]⟩ ⟨BE 0 args,objs,kA objs⟩:=by
 refine⟨λt=>?_,λn=>?_,b⟩
 ·rw[ER,ZZ];simp only[c6,if_true,abr,true_and,ia,Tr.get_nil]
  grind
 rw[GP objs _ a];cases jA objs n<;>rfl
def AV(d:IG ev P){N n f m rg o:Nat}{args:List V}{a:List (Nat×Ob)}{l:Di}{p:PV}(h:Wa ev P N n f args a m rg o l p):AC P ev.gl f args a (.panic p) []:=by
 unfold Wa at h;split at h
 ·rename_i fn r;split at h
  ·rename_i c s;have⟨t,h⟩:=LB h;have⟨g,h⟩:=LB h;have⟨e,h⟩:=LB h;have⟨i,h⟩:=LB h;have⟨j,h⟩:=LB h;rw[MG]at g e i j;have g:=EP g;have e:=TN e;have i:=UN i;have j:=UN j;have⟨k,b⟩:=d.F f fn r;let X:Env1:=⟨P,ev.T,ev.gl,[],fn.ntmps,kA a,d.T,d.mix⟩;have u:HX X ev P fn.ntmps m:=⟨rfl,rfl,rfl,rfl,e⟩;refine AC.of_body (X:=X) d.T k s b rfl (ms:=[]) (by simp[X]) (gi t) (ON a8) a8 a8 (ON λn v=>?_) (ON (by simp[Out.names,KC,kA,uD])) ?_
   ·grind
   rw[hI];refine AWP.mono (XN (rI d N n) c _ l h X u _ (Ya g e)) ?_
   rintro w σ' rfl
   exact⟨rfl,trivial⟩
  simp_all
 simp_all
end
end Go.Lg
