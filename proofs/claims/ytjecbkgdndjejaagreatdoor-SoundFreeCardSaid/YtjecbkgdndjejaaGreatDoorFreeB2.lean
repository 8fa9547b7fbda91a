/- The engine that computes runs; no conditions. -/
import Derived.Test.YtjecbkgdndjejaaGreatDoorFreeB1
import Derived.Test.YtjecbkgdndjejaaGreatDoorFreeA4
import Derived.Scope
set_option linter.all false
namespace Go.Lg
structure Kp where
 sl:List Nat
 on:List Nat
 nx:Nat
 dt:List Nat
inductive De where|r (x:PV)|d (n:Nat) (o:Ob) (x:V)|c (r:GB) (ks:List Nat)|o (ro:List Nat) (ch:List (Nat×Ob)) (x:V)|i (e:List PV)|ok|z (n:Nat)|y (z:Int)|v (p:PV)|s|fb (n:Nat) (b:Option Bool)|b (v:Bool)|l (k:Kp) (e:AE) (s:IS)|n (tp:List (Nat×De))|f (n:Nat) (ps:List (List PV))|w (r:RB)|g
abbrev De.T:De:=.r (.bool true)
abbrev De.F:De:=.r (.bool false)
abbrev De.G:De:=.b true
abbrev De.H:De:=.b false
abbrev De.U(l:List PV):De:=.r (.tuple l)
abbrev Di:=List (Nat×De)
def WK(n:Nat):Di->Option (De×Di)
 |[]=>none|p::r=>match p with
  |(m,e)=>bif Nat.beq m n then some (e,r)else(match WK n r with
   |some (x,a)=>some (x,(m,e)::a)|none=>none)
def pI:List (Nat×V)->Tr V->Tr V|[],t=>t|(n,x)::r,t=>pI r (t.put n (some x))
def KB:List (Nat×Ob)->Tr Ob->Tr Ob|[],t=>t|(n,x)::r,t=>KB r (t.put n (some x))
def aJ{α:Type}(s:Tr α):List Nat->Tr α->Tr α|[],t=>t|n::r,t=>aJ s r (t.put n (s.get n))
def yG(k:Kp)(s:IS):IS:=⟨aJ s.sl k.sl .nil,aJ s.ob k.on .nil,k.nx,k.dt⟩
def ZG(m:Nat):List Nat->Bool|[]=>true|n::r=>bif Nat.blt n m then ZG m r else false
def mY(m:Nat)(s:Tr V):List Nat->Bool
 |[]=>true|t::r=>bif (match s.get t with
  |some v=>ZG m v.names|none=>true)then mY m s r else false
def nY(m:Nat)(s:Tr Ob):List Nat->Bool
 |[]=>true|n::r=>bif Nat.blt n m then(bif (match s.get n with
  |some (.arr _ _ _ _)=>true|some (.smap _ _)=>true|some o=>ZG m o.names|none=>true)then nY m s r else false)else false
def iF(s:Tr Ob):List Nat->Prop->Prop
 |[],R=>R|n::r,R=>match s.get n with|some (.arr _ _ _ a)=>wB a=[]/\iF s r R|some (.smap _ a)=>IC a=[]/\iF s r R|_=>iF s r R
def XK(l m:List Nat):Bool:=match l with|[]=>true|n::r=>bif lD m n then XK r m else false
def lq{α:Type}:Option α->Bool|none=>true|some _=>false
def pY(a:List Nat)(s:Tr Ob):Nat->Bool|0=>true|n+1=>bif (bif lD a n then true else lq (s.get n))then pY a s n else false
def cJ(k:Kp)(a:Nat)(s:IS):Bool:=
 bif Nat.ble a k.nx then(bif mY k.nx s.sl k.sl then(bif nY k.nx s.ob k.on then(bif pY k.on s.ob a then(bif XK s.dt k.dt then ZG a k.dt else false)else false)else false)else false)else false
def wl(f:PV->PV):List PV->List PV|[]=>[]|c::r=>f c::wl f r
def PV.w:Nat->PV->PV
 |0,p=>p|n+1,p=>match p with|.nils=>.slice []|.agg a=>.agg (wl (PV.w n) a)|.tuple a=>.tuple (wl (PV.w n) a)|p=>p
def wE(n:Nat):List (List PV)->List (List PV)|[]=>[]|e::r=>wl (PV.w n) e::wE n r
def wV:V->V|.pv p=>.pv (PV.w 4 p)|x=>x
def wG:V->V|.gsl _ _ a=>.pv (.slice a)|x=>x
def mq(a:Option Nat)(op:Op)(b:Di):Option Di:=match op with
 |.move _=>match WK (match a with|some d=>d|none=>99999) b with
  |some (.g,a)=>some a|_=>none
 |_=>none
def wA:List V->List V|[]=>[]|x::r=>wV x::wA r
def NQ(op:Op)(r:RB):RB:=match op with
 |.buildSlice _ _ _=>match r with|⟨.pv (.slice a),none,w⟩=>⟨.pv (.slice (wE 3 a)),none,w⟩|r=>r
 |_=>r
def gd(c:Bool)(P:Prop):Prop:=match c with|true=>P|false=>False
def rY(op:BinOp)(x y:V):Option (Bool×RB):=match x with
 |.pv (.int a)=>match y with
  |.pv (.int b)=>match op with|.add=>some (eA (a+b),⟨.pv (.int (a+b)),none,false⟩)|.sub=>some (eA (a-b),⟨.pv (.int (a-b)),none,false⟩)|.mul=>some (eA (a*b),⟨.pv (.int (a*b)),none,false⟩)|.rem=>some (!mB b 0,⟨.pv (.int (a.tmod b)),none,false⟩)|_=>none
  |_=>none
 |.pv (.num j a)=>match y with
  |.pv (.num c b)=>match op with|.or=>some (bif YG j c then eA (NA .or j a b)else false,⟨.pv (.num j (NA .or j a b)),none,false⟩)|.and=>some (bif YG j c then eA (NA .and j a b)else false,⟨.pv (.num j (NA .and j a b)),none,false⟩)|.sub=>some (bif YG j c then eA (j.wrap (a-b))else false,⟨.pv (.num j (j.wrap (a-b))),none,false⟩)|_=>none
  |.pv (.int n)=>match op with|.shl=>some (bif fA n 0 then false else eA (j.wrap (a*2^(min n.toNat j.bits))),⟨.pv (.num j (j.wrap (a*2^(min n.toNat j.bits)))),none,false⟩)|.shr=>some (bif fA n 0 then false else eA (a.fdiv (2^(min n.toNat j.bits))),⟨.pv (.num j (a.fdiv (2^(min n.toNat j.bits)))),none,false⟩)|_=>none
  |_=>none
 |_=>none
def sY(e:Nat)(b:TI)(a:Nat->Option Ob)(h:Nat)(x y:V):Option (Bool×RB):=match x with
 |.arr n c len=>match a n with
  |some (.arr f g i d)=>match CH y with
   |some a=>some (Nat.beq c f&&Nat.ble len d.length&&Nat.beq i e&&Nat.beq g b.size&&Nat.blt 0 g&&iC g a&&mC a&&Nat.ble (len+a.length) maxLen&&Nat.ble ((len+a.length)*b.bytes) 140737488355328,
    ⟨.arr n (c+1) (len+a.length),some (n,.arr (c+1) g i (d.take len++a)),false⟩)
   |none=>none
  |_=>none
 |.fsl d=>match y with
  |.pv (.slice (y::a))=>some (zC b.size d&&zC b.size (y::a)&&Nat.blt 0 b.size&&Nat.ble (d.length+(y::a).length) maxLen&&Nat.ble ((d.length+(y::a).length)*b.bytes) 140737488355328,
    ⟨.pv (.slice (d++y::a)),none,false⟩)
  |_=>none
 |.pv .nils=>match CH y with
  |some a=>some (Nat.blt 0 b.size&&iC b.size a&&mC a&&Nat.ble a.length maxLen&&Nat.ble (a.length*b.bytes) 140737488355328,
    ⟨.arr h 1 a.length,some (h,.arr 1 b.size e a),true⟩)
  |none=>none
 |_=>none
def tY(b:TI)(c:Nat->Option Ob)(x:V)(a d e:Option V):Option (Bool×V):=match x,a,d,e with
 |.pv (.slice a),some (.pv (.int l)),none,none=>match KE l with|some k=>some (Nat.ble k a.length&&zC b.size a,.pv (.slice (a.drop k)))|none=>none
 |.pv (.slice a),none,some (.pv (.int h)),none=>match KE h with|some k=>some (Nat.ble k a.length,.pv (.slice (a.take k)))|none=>none
 |.arr n b len,none,some (.pv (.int h)),none=>match KE h,c n with|some k,some (.arr c _ _ _)=>some (Nat.beq b c&&Nat.ble k len,.arr n b k)|_,_=>none
 |.pv (.slice a),none,some (.pv (.int h)),some (.pv (.int m))=>match KE h,KE m with|some k,some l=>some (Nat.beq k a.length&&Nat.beq l a.length,.fsl a)|_,_=>none
 |_,_,_,_=>none
def AO(T:Nat->Option TI)(g:Nat)(val:Operand->V)(f:Nat->Option Ob)(op:Op):Option (Bool×RB):=match op with
 |.binOp b t x y _=>match T t with|some _=>rY b (val x) (val y)|none=>none
 |.slice t x h i j=>match T t with
  |some ⟨.slice e,_,_,_,_⟩=>match T e with
   |some d=>match tY d f (val x) (h.map val) (i.map val) (j.map val)with|some (c,v)=>some (c,⟨v,none,false⟩)|none=>none
   |none=>none
  |_=>none
 |.call {callee:=.builtin .append,args,argTypes}=>match argTypes.toList,args.toList with
  |[t,h],[x,y]=>bif Nat.beq t h then(match T t with
    |some ⟨.slice e,_,_,_,_⟩=>match T e with|some d=>sY e d f g (val x) (val y)|none=>none
    |_=>none)else none
  |_,_=>none
 |.call {callee:=.builtin .max,args,argTypes:=_}=>match args.toList with
  |[x,y]=>match val x with
   |.pv (.int a)=>match val y with|.pv (.int b)=>some (true,⟨.pv (.int (bif fA a b then b else a)),none,false⟩)|_=>none
   |_=>none
  |_=>none
 |_=>none
def aY(T:Nat->Option TI)(c:Nat)(val:Operand->V)(op:Op):Option (Bool×RB):=match op with
 |.buildSlice t len parts=>match T t with
  |some ⟨.slice e,_,_,_,_⟩=>match T e with
   |some a=>match yT 0 (parts.toList.map λp=>(p.1,val p.2))with|some b=>some (Nat.beq b.length len&&Nat.ble len 16777216&&Nat.ble (len*a.size) 16777216&&iC a.size b,⟨.arr c 0 len,some (c,.arr 0 a.size e b),true⟩)|none=>none
   |none=>none
  |_=>none
 |_=>none
def cY(T:Nat->Option TI)(c:Nat)(val:Operand->V)(op:Op):Option (Bool×RB):=match op with
 |.call {callee:=.builtin .append,args,argTypes}=>match argTypes.toList,args.toList with
  |[t,a],[x,y]=>bif Nat.beq t a then(match T t with
    |some ⟨.slice e,_,_,_,_⟩=>match T e with
     |some b=>match val x with
      |.pv .nils=>match val y with|.pv (.slice (y::a))=>some (Nat.blt 0 b.size&&zC b.size (y::a)&&mC (kA (y::a))&&Nat.ble (y::a).length maxLen&&Nat.ble ((y::a).length*b.bytes) 140737488355328,⟨.gsl c 1 (y::a),some (c,.grow 1 b.size e (y::a)),true⟩)|_=>none
      |_=>none
     |none=>none
    |_=>none)else none
  |_,_=>none
 |_=>none
def eY(T:Nat->Option TI)(val:Operand->V)(op:Op):Option (List (List PV)×Nat×Nat):=match op with
 |.indexAddr t x i=>match val i with
  |.pv (.int z)=>match KE z with
   |some k=>match T t with
    |some ⟨.slice e,_,_,_,_⟩=>match T e with
     |some a=>match val x with|.pv (.slice b)=>some (b,k,a.size)|_=>none
     |none=>none
    |_=>none
   |none=>none
  |_=>none
 |_=>none
def Le(q:PV)(y:V):Option Bool:=match q with
 |.nptr a=>match a with
  |c::_=>match c with
   |.flg p=>match y with
    |.pv z=>match z with|.bool b=>some (bif b then p else true)|_=>none
    |_=>none
   |_=>none
  |[]=>none
 |_=>none
def iY(T:Nat->Option TI)(val:Operand->V)(a:Option Nat)(op:Op):Option Bool:=match op with
 |.store t x y=>match a with
  |none=>match T t with
   |some a=>match val x with|.pv q=>bif Nat.beq 1 a.size then Le q (val y)else none|_=>none
   |none=>none
  |some _=>none
 |_=>none
def AT(b:Bool):List PV->Option (List PV)
 |[]=>none|c::r=>match r with
  |[]=>match c with
   |.bool x=>match x with|false=>some [.flg b]|true=>none
   |_=>none
  |_::_=>match c with
   |.flg _=>none|c=>match AT b r with|some l=>some (c::l)|none=>none
def WM(K:List PV->PV)(n:Nat)(a:List PV)(s:IS):IS:=⟨s.sl.map (gI K n a),(s.ob.put n none).map (gJ K n a),s.nx,s.dt⟩
def OQ(a n:Nat)(b:Option Bool)(s:IS):Option IS:=bif Nat.blt n a then none else(match s.ob.get n with
 |some (.box a)=>match BQ a with
  |some a=>match b with
   |none=>some (WM .ptr n (wl (PV.w 4) a) s)|some b=>match AT b a with|some a=>some (WM .nptr n a s)|none=>none
  |none=>none
 |_=>none)
def CT(r:RB)(k:RB->Prop):Prop:=match r with
 |⟨.pv (.bool c),none,w⟩=>match c with|true=>k ⟨.pv (.bool true),none,w⟩|false=>k ⟨.pv (.bool false),none,w⟩
 |r=>k r
def oY(r:RB)(v:Bool)(k:RB->Prop):Prop:=match r with|⟨.pv (.bool c),none,w⟩=>c=v/\k ⟨.pv (.bool v),none,w⟩|_=>False
def DT:Option Nat->Nat|some d=>d|none=>99999
def xY(a:LA)(s:IS)(d:Option Nat)(op:Op)(b:Di)(k:RB->Di->Prop):Prop:=match WK (DT d) b with
 |none=>match mD a.T s.nx (s.val a.gl) s.ob.get d op with
  |some r=>match op with|.binOp _ _ _ _ _=>CT r λr=>k r b|.unOp _ _ _=>CT r λr=>k r b|_=>k r b
  |none=>False
 |some (e,b)=>match e with
  |.ok=>match AO a.T s.nx (s.val a.gl) s.ob.get op with
   |some (c,r)=>c=true/\k r b|none=>match aY a.T s.nx (s.val a.gl) op with|some (c,r)=>c=true/\k r b|none=>False
  |.z n=>match AO a.T s.nx (s.val a.gl) s.ob.get op with
   |some (c,r)=>match r with|⟨.pv (.int z),none,false⟩=>(c=true/\z=.ofNat n)/\k ⟨.pv (.int (.ofNat n)),none,false⟩ b|_=>False
   |none=>False
  |.y y=>match AO a.T s.nx (s.val a.gl) s.ob.get op with
   |some (c,r)=>match r with|⟨.pv (.int z),none,false⟩=>(c=true/\z=y)/\k ⟨.pv (.int y),none,false⟩ b|_=>False
   |none=>False
  |.v p=>match AO a.T s.nx (s.val a.gl) s.ob.get op with
   |some (c,r)=>match r with|⟨.pv q,none,false⟩=>(c=true/\q=p)/\k ⟨.pv p,none,false⟩ b|_=>False
   |none=>False
  |.i x=>match eY a.T (s.val a.gl) op with|some (f,n,z)=>(VB f n=some x/\zC z f=true)/\k ⟨.pv (.ptr x),none,false⟩ b|none=>False
  |.s=>match iY a.T (s.val a.gl) d op with|some c=>c=true/\k ⟨.undef,none,false⟩ b|none=>False
  |.b v=>match mD a.T s.nx (s.val a.gl) s.ob.get d op with|some r=>oY r v λr=>k r b|none=>False
  |.w r=>mD a.T s.nx (s.val a.gl) s.ob.get d op=some r/\k r b|.g=>match cY a.T s.nx (s.val a.gl) op with|some (c,r)=>c=true/\k r b|none=>False
  |_=>False
def kC:List (Nat×Ob)->List Nat|[]=>[]|(n,_)::r=>n::kC r
def uG:List Nat->Bool|[]=>true|n::r=>bif lD r n then false else uG r
def BO(m:List Nat):List Nat->Bool|[]=>true|n::r=>bif lD m n then false else BO m r
def CO{α:Type}:List α->List α->List α|[],l=>l|x::r,l=>x::CO r l
def DO(s:Tr Ob):List Nat->(List (Nat×Ob)->Prop)->Prop
 |[],k=>k []|n::r,k=>match s.get n with|some o=>DO s r λl=>k ((n,o)::l)|none=>False
abbrev XB:=Nat->List V->IS->Di->(GB->List Nat->Di->Prop)->Prop
def AY(d:LA)(P:Program)(call:XB)(f:Nat)(args:List V)(s:IS)(a:Option Nat)(b:Di)(k:GB->List Nat->Di->Prop):Prop:=match WK (DT a) b with
 |none=>call f args s [] λr c _=>k r c b|some (e,a)=>match e with
  |.r x=>AC P d.gl f (wA args) [] (.ret (.pv x)) []/\k ⟨.pv x,[],[],s.nx⟩ [] a|.d n g x=>gd (Nat.blt n s.nx) (match s.ob.get n with
   |some o=>AC P d.gl f (wA args) [(n,o)] (.ret x) [(n,g)]/\k ⟨x,[(n,g)],[],s.nx⟩ [n] a|none=>False)
  |.n b=>call f args s b λr c _=>k r c a|.o ro b x=>gd (bif uG (kC b)then(bif BO (kC b) ro then(bif ZG s.nx (kC b)then true else false)else false)else false) (DO s.ob ro λl=>DO s.ob (kC b) λg=>
   AC P d.gl f (wA args) (CO l g) (.ret x) (CO l b)/\k ⟨x,b,[],s.nx⟩ (CO ro (kC b)) a)
  |.c r c=>(∃ro b,Called P d.gl s f args r c ro b)/\k r c a|_=>False
def EO(b:LA)(P:Program)(call:XB)(c:Nat)(o:Oper)(s:IS)(a:Di)(k:IS->Tc->Di->Prop):Prop:=match NC (s.val b.gl) o.op with
 |some (f,args)=>AY b P call f args s o.dst a λr d a=>k (aT c s o.dst r) ⟨r.ch.map (·.1)++r.nw.map (·.1),d⟩ a|none=>match mq o.dst o.op a with
  |some a=>match mD b.T s.nx (s.val b.gl) s.ob.get o.dst o.op with|some r=>k (s.app c o.dst ⟨wG r.x,r.wr,r.new⟩) ⟨match r.wr with|some (n,_)=>[n]|none=>[],jE (s.val b.gl) o.op⟩ a|none=>False
  |none=>xY b s o.dst o.op a λr a=>k (s.app c o.dst (NQ o.op r)) ⟨match r.wr with|some (n,_)=>[n]|none=>[],jE (s.val b.gl) o.op⟩ a
def ET(d:LA)(P:Program)(call:XB)(a e:Nat)(all:List Oper)(o:Oper)(s:IS)(c:Di)(k:IS->Tc->Di->Prop):Prop:=
 gd (xO a o.dst) (match o.guard with
  |none=>EO d P call e o s c k|some (j,a)=>match eT all s j with
   |.pv (.bool b)=>match b with
    |true=>match a with|true=>EO d P call e o s c k|false=>k ⟨XC s.sl o.dst VK,s.ob,s.nx,s.dt⟩ ⟨[],[]⟩ c
    |false=>match a with|false=>EO d P call e o s c k|true=>k ⟨XC s.sl o.dst VK,s.ob,s.nx,s.dt⟩ ⟨[],[]⟩ c
   |.pv (.tuple [])=>k ⟨XC s.sl o.dst VK,s.ob,s.nx,s.dt⟩ ⟨[],[]⟩ c|_=>False)
def BY(d:LA)(P:Program)(call:XB)(e f:Nat)(all:List Oper):List Oper->IS->List Tc->Di->(IS->List Tc->Di->Prop)->Prop|[],s,c,a,k=>k s c a|o::b,s,c,a,k=>ET d P call e f all o s a λg h a=>BY d P call e f all b g (h::c) a k
def Me(e:LA)(P:Program)(call:XB)(f d:Nat)(a:List Oper)(b:Bool)(s:IS)(c:Di)(k:IS->Di->Prop):Prop:=
 BY e P call f d a a (sJ d (NH a) s) [] c λd e c=>match b with
  |true=>gd (JQ a) (match rJ e with
   |true=>k d c|false=>gd (TM a e.reverse) (k d c))
  |false=>k d c
abbrev KT:=AE->IS->Di->Prop
def CY(f:IS->Di->Prop)(k:KT):KT|.normal,s,a=>f s a|.exit i,s,a=>k (.exit i) s a|.ret,s,a=>k .ret s a
def PQ(id:Nat)(k:KT):KT
 |.normal,s,a=>k .normal s a|.exit i,s,a=>match Nat.beq i id with|true=>k .normal s a|false=>k (.exit i) s a
 |.ret,s,a=>k .ret s a
def DY(b:IS->Di->KT->Prop)(k:KT):Nat->IS->Di->Prop|0,_,_=>False|m+1,s,a=>b s a (CY (DY b k m) k)
def YK:Code->Option Nat
 |.region id _ _=>some id|.seq a b=>match YK a with|some n=>some n|none=>YK b
 |.block _ b=>YK b|.scope b=>YK b|.cond _ a b=>match YK a with|some n=>some n|none=>YK b
 |.loop b=>YK b|_=>none
def nq(c:Code):Nat:=match YK c with|some n=>n+100000|none=>99998
def XM(X:Env1)(σ σ':St):Prop:=∀C E a w,dI X C->Ga C E σ a w->∃b,Ga C b σ' a w
structure HX(X:Env1)(ev:LA)(P:Program)(nt bs:Nat):Prop where
 P:X.P=P
 T:X.T=ev.T
 gl:X.gl=ev.gl
 nt:X.nt=nt
 given:∀n∈X.given,n<bs
def YM(e:AE)(a:IS):yB->St->Prop:=λb σ'=>b=AE.x e/\Rel a σ'
structure Reach(ev:LA)(P:Program)(nt bs:Nat)(c:Code)(s:IS)(e:AE)(s':IS):Prop where
 inv:∀sub,Inv bs sub s->Inv bs sub s'
 awp:∀X,HX X ev P nt bs->∀σ,Rel s σ->AWP X c σ (YM e s')
structure LoopIs(ev:LA)(P:Program)(nt bs:Nat)(b:Code)(s:IS)(e:AE)(s':IS):Prop where
 inv:∀sub,Inv bs sub s->Inv bs sub s'
 awp:∃m,∀X,HX X ev P nt bs->∀σ,Rel s σ->fI X b (YM e s') m σ
def AD(i:LA)(P:Program)(call:XB)(N j h:Nat):Code->IS->Di->KT->Prop
 |.skip,s,f,k=>k .normal s f|.seq a b,s,f,k=>AD i P call N j h a s f (CY (λs f=>AD i P call N j h b s f k) k)|.cond c x y,s,f,k=>match s.val i.gl c with
  |.pv (.bool b)=>match b with|true=>AD i P call N j h x s f k|false=>AD i P call N j h y s f k
  |_=>False
 |.block id b,s,f,k=>AD i P call N j h b s f (PQ id k)|.exit id,s,f,k=>k (.exit id) s f|.ret,s,f,k=>k .ret s f|.region id g d,s,f,k=>Me i P call j h g.toList d s f λs f=>match WK (id+300000) f with
  |some (.f n m,g)=>match s.ob.get n with|some (.arr l _ _ o)=>gd (!Nat.blt n h) (o=kA m/\k .normal ⟨s.sl.map (PC n l m),(s.ob.put n none).map (MD n l m),s.nx,s.dt⟩ g)|_=>False
  |some (.fb n b,g)=>match OQ h n b s with|some l=>k .normal l g|none=>False
  |some (.ok,g)=>k .normal s g|_=>k .normal s f
 |.loop b,s,f,k=>match WK (nq b) f with|some (.l m e l,g)=>gd (cJ m h s) (iF s.ob m.on (LoopIs i P j h b (yG m s) e l/\k e l g))|_=>DY (AD i P call N j h b) k N s f
 |.scope b,s,f,k=>AD i P call N j h b s f k|.label _,s,f,k=>k .normal s f|_,_,_,_=>False
def qH(e:LA)(P:Program)(call:XB)(N f g:Nat):Code->IS->Di->KT->Prop
 |.seq a b,s,d,k=>qH e P call N f g a s d (CY (λs d=>qH e P call N f g b s d k) k)|.block id b,s,d,k=>qH e P call N f g b s d (PQ id k)|.scope b,s,d,k=>qH e P call N f g b s d k|.cond c x y,s,d,k=>match s.val e.gl c with
  |.pv (.flg b)=>(b=true->qH e P call N f g x s d k)/\qH e P call N f g y s d k|.pv (.bool b)=>match b with|true=>qH e P call N f g x s d k|false=>qH e P call N f g y s d k
  |_=>False
 |c,s,d,k=>AD e P call N f g c s d k
def pq(d:LA)(P:Program)(call:XB)(N:Nat)(fn:Func)(c:Code)(args:List V)(a:Nat)(sub:Tr Ob)(b:Di)(k:GB->Di->Prop):Prop:=
 AD d P call N fn.ntmps a c ⟨yE 0 args .nil,sub,a,[]⟩ b λe s b=>match iO d.T a sub fn.results.toList e s with|some r=>k r b|none=>False
def dG(a:LA)(P:Program)(N:Nat):Nat->XB
 |0=>λ_ _ _ _ _=>False|n+1=>λf args s b k=>match a.F f with
  |some fn=>match fn.body with
   |some c=>gd (Nat.ble args.length fn.ntmps) (match reach s.nx s.ob 1000000 (BA args) .nil []with
    |some (sub,d)=>pq a P (dG a P N n) N fn c args s.nx sub b λr b=>k r d b|none=>False)
   |none=>False
  |none=>False
def Oe(d:LA)(P:Program)(n N i c:Nat)(b:Code)(s:IS)(a:Di)(f g:Kp)(e:AE)(j:IS):Prop:=
 AD d P (dG d P N n) N i c b s a λh a _=>match h with|.normal=>gd (cJ f c a) (iF a.ob f.on (LoopIs d P i c b (yG f a) e j))|h=>h=e/\gd (cJ g c a) (iF a.ob g.on (yG g a=j))
def Pe(r:GB)(x:PV):Prop:=match r with|⟨.pv y,[],[],_⟩=>y.w 4=x|_=>False
def EY(a:LA)(P:Program)(N n f:Nat)(args:List PV)(b:Di)(x:PV):Prop:=dG a P N n f (args.map .pv) ⟨.nil,.nil,0,[]⟩ b λr _ _=>Pe r x
def QQ(n:Nat)(o:Ob):List (Nat×Ob)->Ob|[]=>o|(m,a)::r=>bif Nat.beq n m then a else QQ n o r
def GO(a:List (Nat×Ob)):List (Nat×Ob)->List (Nat×Ob)|[]=>[]|(n,o)::r=>(n,QQ n o a)::GO a r
def Qe(a:List (Nat×Ob))(r:GB)(d:List Nat)(x:V)(b:List (Nat×Ob)):Prop:=match r with|⟨y,c,[],_⟩=>gd (bif XK (kC a) d then uG (kC c)else false) ((wV y,GO c a)=(x,b))|_=>False
def Re(c:LA)(P:Program)(N n f:Nat)(args:List V)(a:List (Nat×Ob))(m:Nat)(d:Di)(x:V)(b:List (Nat×Ob)):Prop:=
 gd (uG (kC a)) (dG c P N n f args ⟨.nil,KB a .nil,m,[]⟩ d λr c _=>Qe a r c x b)
def FY(a:LA)(P:Program)(N n f:Nat)(args:List PV)(d:Di)(b:Kp)(x:PV):Prop:=match a.F f with
 |some fn=>match fn.body with
  |some c=>gd (Nat.ble args.length fn.ntmps) (qH a P (dG a P N n) N fn.ntmps 0 c ⟨yE 0 (args.map .pv) .nil,.nil,0,[]⟩ d λe s _=>
    gd (cJ b 0 s) (iF s.ob b.on (iO a.T 0 .nil fn.results.toList e (yG b s)=some ⟨.pv x,[],[],b.nx⟩)))
  |none=>False
 |none=>False
theorem HB{c:Bool}{P:Prop}(h:gd c P):c=true/\P:=by
 unfold gd at h
 grind
theorem rq{k:TK}{op:BinOp}{x y:V}{l:Operand}{c:Bool}{r:RB}(h:rY op x y=some (c,r))(g:c=true):ro (OM k op x y l)=some r:=by
 have m:∀{d:Bool}{j:IntKind}{z:Int},(bif d then eA z else false)=true->d=true/\ME j z=some (.pv (.num j z)):=by
  intro d j z o
  cases d with
  |false=>cases o
  |true=>exact⟨rfl,by unfold ME IX;rw[show eA z=true from o];rfl⟩
 have p:∀{n:Int}{j:IntKind}{z:Int},(bif fA n 0 then false else eA z)=true->fA n 0=false/\ME j z=some (.pv (.num j z)):=by
  simp_all
 unfold rY at h;split at h
 ·rename_i a;split at h
  ·rename_i b;have i:OM k op (.pv (.int a)) (.pv (.int b)) l=LK op a b:=rfl;rw[i];split at h
   ·cases h;simp only[LK,XG,g,cond_true];rfl
   ·cases h;simp only[LK,XG,g,cond_true];rfl
   ·cases h;simp only[LK,XG,g,cond_true];rfl
   ·cases h;have t:mB b 0=false:=by simp_all
    simp only[LK,t,cond_false];rfl
   cases h
  cases h
 ·rename_i j a;split at h
  ·rename_i s b;have i:OM k op (.pv (.num j a)) (.pv (.num s b)) l=(bif YG j s then NM op j a b else none):=rfl;rw[i];split at h
   ·cases h;obtain⟨e,f⟩:=m (j:=j) g;rw[e,cond_true];simp only[NM,f];rfl
   ·cases h;obtain⟨e,f⟩:=m (j:=j) g;rw[e,cond_true];simp only[NM,f];rfl
   ·cases h;obtain⟨e,f⟩:=m (j:=j) g;rw[e,cond_true];simp only[NM,f];rfl
   cases h
  ·rename_i n;have i:OM k op (.pv (.num j a)) (.pv (.int n)) l=sO op j a n:=rfl;rw[i];split at h
   ·cases h;obtain⟨e,f⟩:=p (j:=j) g;simp only[sO,e,f,cond_false];rfl
   ·cases h;obtain⟨e,f⟩:=p (j:=j) g;simp only[sO,e,f,cond_false];rfl
   cases h
  cases h
 cases h
def sq{e:Nat}{a:TI}{b:Nat->Option Ob}{d:Nat}{x y:V}{c:Bool}{r:RB}(h:sY e a b d x y=some (c,r))(f:c=true):MM e a b d x y=some r:=by
 unfold sY at h
 grind[MM]
def cq{a:TI}{b:Nat->Option Ob}{x:V}{d e f:Option V}{c:Bool}{v:V}(h:tY a b x d e f=some (c,v))(g:c=true):GQ a b x d e f=some v:=by
 unfold tY at h
 grind[GQ]
def FT{T:Nat->Option TI}{k:Nat}{val:Operand->V}{l:Nat->Option Ob}{f:Option Nat}{op:Op}{c:Bool}{r:RB}(h:AO T k val l op=some (c,r))(m:c=true):mD T k val l f op=some r:=by
 unfold AO at h;split at h
 ·grind[mD,rq]
 ·split at h
  ·rename_i e a b n d g;split at h
   ·rename_i o i;split at h
    ·rename_i A v p;cases h;simp only[mD,g,i,cq p m];rfl
    cases h
   cases h
  cases h
 ·split at h
  ·rename_i t B x y j s;obtain⟨u,h⟩:=jB h;split at h
   ·rename_i e a b n d g;split at h
    ·rename_i o i;simp only[mD,j,s,u,cond_true,g,i];exact sq h m
    cases h
   cases h
  cases h
 ·split at h
  ·rename_i x y j;split at h
   ·rename_i a w;split at h
    ·rename_i b z;cases h;simp only[mD,j,w,z];rfl
    cases h
   cases h
  cases h
 cases h
def xq{T:Nat->Option TI}{i:Nat}{val:Operand->V}{j:Nat->Option Ob}{f:Option Nat}{op:Op}{g:List (List PV)}{n z:Nat}{x:List PV}(h:eY T val op=some (g,n,z))(l:VB g n=some x)(m:zC z g=true):mD T i val j f op=some ⟨.pv (.ptr x),none,false⟩:=by
 unfold eY at h;split at h
 ·split at h
  ·rename_i v o;split at h
   ·rename_i k p;split at h
    ·rename_i e a b c d r;split at h
     ·rename_i w s;split at h
      ·rename_i t u;cases h;simp only[mD,kT,o,p,r,s,u,l,m,cond_true];rfl
      cases h
     cases h
    cases h
   cases h
  cases h
 cases h
def Se{r:RB}{k:RB->Prop}(h:CT r k):k r:=by
 unfold CT at h
 grind
def Aq{r:RB}{v:Bool}{k:RB->Prop}(h:oY r v k):k r:=by
 unfold oY at h
 grind
def Bq{T:Nat->Option TI}{e:Nat}{val:Operand->V}{f:Nat->Option Ob}{a:Option Nat}{op:Op}{c:Bool}(h:iY T val a op=some c)(m:c=true):mD T e val f a op=some ⟨.undef,none,false⟩:=by
 unfold iY at h;split at h
 ·rename_i t x y;split at h
  ·split at h
   ·rename_i n g;split at h
    ·rename_i q eq;obtain⟨d,h⟩:=jB h;have d:=Nat.eq_of_beq_eq_true d;have key:∃p l b,q=.nptr (.flg p::l)/\val y=.pv (.bool b)/\(bif b then p else true)=true:=by
      unfold Le at h;split at h
      ·grind
      cases h
     obtain⟨p,l,b,rfl,i,j⟩:=key;have k:XF (.pv (.bool b))=some [.pv (.bool b)]:=rfl;simp only[mD,g,LM,eq,i,k,List.length_singleton,<-d,EQ,j,cond_true];rfl
    cases h
   cases h
  cases h
 cases h
def Cq(b:LA)(s:IS)(a:Option Nat)(op:Op)(r:RB):Prop:=mD b.T s.nx (s.val b.gl) s.ob.get a op=some r\/r.new=true/\(∃o,r.wr=some (s.nx,o))/\∃note,zG (gA b.T note (s.val b.gl) s.ob.get a op) r
def Dq{T:Nat->Option TI}{a:Nat}{val:Operand->V}{f:Nat->Option Ob}{b:Option Nat}{op:Op}{c:Bool}{r:RB}(h:aY T a val op=some (c,r))(d:c=true):r.new=true/\(∃o,r.wr=some (a,o))/\∃note,zG (gA T note val f b op) r:=by
 unfold aY at h;split at h
 ·split at h
  ·rename_i e _ _ _ _ g;split at h
   ·rename_i i j;split at h
    ·rename_i s k;cases h;simp only[Bool.and_eq_true]at d;obtain⟨⟨⟨l,m⟩,n⟩,p⟩:=d;refine⟨rfl,⟨_,rfl⟩,.arr a i.size e,?_⟩;simp only[gA,g,j,DX k];exact⟨_,rfl,⟨⟨Nat.eq_of_beq_eq_true l,Nat.le_of_ble_eq_true m,Nat.le_of_ble_eq_true n,oQ p⟩,rfl,rfl⟩,rfl,rfl,rfl⟩
    cases h
   cases h
  cases h
 cases h
def Fq{T:Nat->Option TI}{b:Nat}{val:Operand->V}{g:Nat->Option Ob}{d:Option Nat}{op:Op}{c:Bool}{r:RB}(h:cY T b val op=some (c,r))(f:c=true):r.new=true/\(∃o,r.wr=some (b,o))/\∃note,zG (gA T note val g d op) r:=by
 unfold cY at h;split at h
 ·split at h
  ·rename_i t i x y j k
   cases a:Nat.beq t i with
   |false=>rw[a]at h;cases h
   |true=>
    rw[a]at h;have a:=Nat.eq_of_beq_eq_true a;subst a;split at h
    ·rename_i e _ _ _ _ l;split at h
     ·rename_i m n;split at h
      ·rename_i p;split at h
       ·rename_i z C s;cases h;simp only[Bool.and_eq_true]at f;obtain⟨⟨⟨⟨u,v⟩,w⟩,A⟩,B⟩:=f;refine⟨rfl,⟨_,rfl⟩,.grow b m.size e,?_⟩;simp only[gA,j,k,l,n,if_true,kI,p,s];exact⟨_,rfl,⟨⟨by simp,by simp,jG u,by simp⟩,JM v,AQ w,Nat.le_of_ble_eq_true A,Nat.le_of_ble_eq_true B⟩,rfl,rfl,rfl⟩
       cases h
      cases h
     cases h
    cases h
  cases h
 cases h
def Gq{j:LA}{s:IS}{b:Option Nat}{op:Op}{g:Di}{k:RB->Di->Prop}(h:xY j s b op g k):∃r i,Cq j s b op r/\k r i:=by
 unfold xY at h;split at h
 ·split at h
  ·rename_i r d;split at h
   ·exact⟨r,g,.inl d,Se h⟩
   ·exact⟨r,g,.inl d,Se h⟩
   exact⟨r,g,.inl d,h⟩
  simp_all
 split at h
 ·split at h
  ·rename_i c r a;exact⟨r,_,.inl (FT a h.1),h.2⟩
  split at h
  ·rename_i c r a;exact⟨r,_,.inr (Dq a h.1),h.2⟩
  simp_all
 ·split at h
  ·rename_i c r a;split at h
   ·obtain⟨⟨e,rfl⟩,f⟩:=h;exact⟨_,_,.inl (FT a e),f⟩
   simp_all
  simp_all
 ·split at h
  ·rename_i c r a;split at h
   ·obtain⟨⟨e,rfl⟩,f⟩:=h;exact⟨_,_,.inl (FT a e),f⟩
   simp_all
  simp_all
 ·split at h
  ·rename_i c r a;split at h
   ·obtain⟨⟨e,rfl⟩,f⟩:=h;exact⟨_,_,.inl (FT a e),f⟩
   simp_all
  simp_all
 ·split at h
  ·rename_i l n z a;exact⟨_,_,.inl (xq a h.1.1 h.1.2),h.2⟩
  simp_all
 ·split at h
  ·rename_i c a;exact⟨_,_,.inl (Bq a h.1),h.2⟩
  simp_all
 ·split at h
  ·rename_i r d;exact⟨r,_,.inl d,Aq h⟩
  simp_all
 ·exact⟨_,_,.inl h.1,h.2⟩
 ·split at h
  ·rename_i c r a;exact⟨r,_,.inr (Fq a h.1),h.2⟩
  simp_all
 simp_all
def GT{H:Hp}:∀(n:Nat)(p:PV)(v:Value),RepP H p v->RepP H (p.w n) v
 |0,_,_,h=>h|n+1,p,v,h=>by
  have a:∀(a:List PV)(b:List Value),RepL H a b->RepL H (wl (PV.w n) a) b:=by
   intro a
   induction a with
   |nil=>simp[wl,RepL]|cons c r d=>
    intro b h
    cases b with|nil=>exact h|cons v b=>exact⟨GT n c v h.1,d b h.2⟩
  have b:∀(a:List PV),(wl (PV.w n) a).length=a.length:=by
   intro a
   induction a with|nil=>rfl|cons c r d=>simp[wl,d]
  unfold PV.w
  grind[zp,RepP]
def Te(f:PV->PV):∀(a:List PV),(wl f a).length=a.length|[]=>rfl|c::r=>by simp[wl,Te]
def GY{H:Hp}(n:Nat):∀(b:List PV)(a:List Value),RepL H b a->RepL H (wl (PV.w n) b) a|[],a,_=>by simp[wl,RepL]|c::r,[],h=>h|c::r,v::a,h=>⟨GT n c v h.1,GY n r a h.2⟩
theorem Ue(n:Nat):∀(a:List (List PV)),(wE n a).length=a.length|[]=>rfl|c::r=>by simp[wE,Ue]
theorem Iq{H:Hp}(n:Nat):∀(a:List (List PV))(b:List Value),RepE H a b->RepE H (wE n a) b
 :=by intro x;induction x<;>simp_all[wE,RepE,GY,Te,Hp]
theorem Jq(n:Nat){a:List (List PV)}(h:a=[]):wE n a=[]:=by subst h;rfl
def Kq(x:V):bO x (wV x):=by
 cases x<;>try exact⟨λ_ _ h=>h,λ_ h=>h⟩
 rename_i p;exact⟨λE v h=>GT 4 p v h,λn h=>by grind[wV,V.names]⟩
def Lq(x:V):bO x (wG x):=by
 cases x<;>try exact⟨λ_ _ h=>h,λ_ h=>h⟩
 exact⟨λE v h=>by grind[wG,RepV],λn h=>by grind[wG,V.names]⟩
def Mq(op:Op)(r:RB):bO r.x (NQ op r).x/\(NQ op r).wr=r.wr/\(NQ op r).new=r.new:=by
 unfold NQ;split
 ·split
  ·refine⟨⟨λE v h=>?_,λn h=>by grind[V.names]⟩,rfl,rfl⟩
   grind[RepV,RepP,Ue,Jq,Iq]
  exact⟨⟨λ_ _ h=>h,λ_ h=>h⟩,rfl,rfl⟩
 exact⟨⟨λ_ _ h=>h,λ_ h=>h⟩,rfl,rfl⟩
def Ve:∀(l:List V),(wA l).length=l.length|[]=>rfl|x::r=>by simp[wA,Ve r]
def Nq(x:V):(wV x).names=x.names:=by cases x<;>rfl
def We:∀(l:List V),BA (wA l)=BA l|[]=>rfl|x::r=>by simp[wA,BA,We,Nq]
def Xe{E:Env}:∀(l:List V)(a:List Value),RepVL E l a->RepVL E (wA l) a|[],_,h=>by simp[wA,RepVL]|x::r,[],h=>h|x::r,v::a,h=>⟨(Kq x).1 E v h.1,Xe r a h.2⟩
def AC.wA{P:Program}{c:Nat->Option (List PV)}{f:Nat}{args:List V}{b a:List (Nat×Ob)}{out:Out}(h:AC P c f (wA args) b out a):AC P c f args b out a:=
 h.le (Ve args).symm (by simp[VE,We]) (λE a b=>Xe args a b)
section
variable{ev:LA}{P:Program}
def oF(ev:LA)(P:Program)(call:XB):Prop:=∀(f:Nat)(args:List V)(s:IS)(a:Di)(k:GB->List Nat->Di->Prop),call f args s a k->∃r b a,(∃ro c,Called P ev.gl s f args r b ro c)/\k r b a
theorem fG:∀l:List (Nat×Ob),kC l=jA l|[]=>rfl|(n,o)::r=>by simp only[kC,fG r];rfl
def IT{α:Type}:∀a b:List α,CO a b=a++b|[],b=>rfl|x::r,b=>by simp only[CO,IT r b];rfl
theorem HO:∀{l:List Nat},uG l=true->l.Nodup
 :=by intro x;induction x<;>grind[List.nodup_nil,uG,lD,LH]
def HY{m:List Nat}:∀{l:List Nat},BO m l=true->∀n∈l,n∉m
 |[],_,n,a=>by cases a
 |k::r,h,n,a=>by
  unfold BO at h
  cases e:lD m k with
  |true=>rw[e]at h;cases h
  |false=>
   rw[e]at h;rcases List.mem_cons.1 a with rfl|a
   ·grind[LH]
   exact HY h n a
def JT{s:Tr Ob}:∀{l:List Nat}{k:List (Nat×Ob)->Prop},DO s l k->∃m,jA m=l/\(∀p∈m,s.get p.1=some p.2)/\k m
 |[],k,h=>⟨[],rfl,by simp,h⟩|n::r,k,h=>by
  unfold DO at h;split at h
  ·rename_i o c;obtain⟨m,a,d,b⟩:=JT h;refine⟨(n,o)::m,by rw[<-a];rfl,λp e=>?_,b⟩
   grind
  simp_all
theorem Ye:∀{l:List (Nat×Ob)}{n:Nat}{o:Ob},(jA l).Nodup->(n,o)∈l->zA l n=some o
 :=by intro x;induction x<;>simp_all[jA,zA,if_neg]<;>grind
def Ze{m:Nat}:∀{l:List Nat},ZG m l=true->∀n∈l,n<m
 |[],_,n,h=>by cases h
 |k::r,h,n,a=>by
  unfold ZG at h
  cases e:Nat.blt k m with
  |false=>rw[e]at h;cases h
  |true=>
   rw[e]at h;rcases List.mem_cons.1 a with rfl|a
   ·simp_all
   exact Ze h n a
def Oq{call:XB}(G:oF ev P call){f:Nat}{args:List V}{s:IS}{B:Option Nat}{H:Di}{k:GB->List Nat->Di->Prop}(h:AY ev P call f args s B H k):∃r C a,(∃ro O,Called P ev.gl s f args r C ro O)/\k r C a:=by
 unfold AY at h
 cases I:WK (DT B) H with
 |none=>
  rw[I]at h;obtain⟨r,C,_,E,J⟩:=G _ _ _ _ _ h
  grind
 |some p=>
  obtain⟨e,a⟩:=p;rw[I]at h
  cases e with
  |r x=>exact⟨⟨.pv x,[],[],s.nx⟩,[],a,⟨[],[],⟨h.1.wA,by simp[jA],by simp,by simp[jA],by simp,⟨λ_=>none,by simp⟩,by simp[jA],by simp[jA],Nat.le_refl _,by simp⟩⟩,h.2⟩|d n K x=>
   obtain⟨j,h⟩:=HB h
   cases A:s.ob.get n with
   |none=>rw[A]at h;simp_all|some o=>
    rw[A]at h;refine⟨⟨x,[(n,K)],[],s.nx⟩,[n],a,⟨[],[(n,o)],⟨h.1.wA,by simp[jA],by simp[A],by simp[jA],by simp[jA],⟨λ_=>some K,by simp⟩,?_,by simp[jA],Nat.le_refl _,by simp[jA]⟩⟩,h.2⟩;intro m L;have L:m=n:=by grind[jA]
    subst L;exact⟨jG j,by rw[A];rfl,by simp[jA]⟩
  |c r C=>grind|o ro u x=>
   obtain⟨S,h⟩:=HB h;have D:uG (kC u)=true/\BO (kC u) ro=true/\ZG s.nx (kC u)=true:=by
    simp_all
   obtain⟨l,E,J,h⟩:=JT h;obtain⟨M,N,Q,h⟩:=JT h;rw[IT,IT,IT]at h;have F:jA M=jA u:=by rw[N,fG]
   have T:=HY D.2.1;refine⟨⟨x,u,[],s.nx⟩,ro++kC u,a,⟨l,M,⟨by simpa using h.1.wA,λn j=>?_,λp U=>?_,λn j=>?_,λn j=>by rw[<-F];exact j,⟨zA u,λn o j=>?_⟩,λn j=>?_,by simp[jA],Nat.le_refl _,λn j=>?_⟩⟩,h.2⟩
   ·simp_all
   ·grind
   ·rw[E,N]at j;exact j
   ·grind[HO,fG,Ye]
   ·have t:n∈jA u:=j;refine⟨Ze D.2.2 n (by rw[fG];exact t),?_,by rw[F];exact t⟩;rw[<-F]at t;obtain⟨o,A⟩:=keysO_mem.1 t;rw[Q _ A];rfl
   grind[ZE]
  |n R=>
   obtain⟨r,C,_,E,J⟩:=G _ _ _ _ _ h
   grind
  |i e=>simp_all|ok=>simp_all|z n=>simp_all|y n=>simp_all|v p=>simp_all|s=>simp_all|fb n b=>simp_all|b v=>simp_all|l k e s=>simp_all|f n W=>simp_all|w r=>simp_all|g=>simp_all
open Classical in
noncomputable def MT (f:Nat)(args:List V)(s:IS)(r:GB)(ks:List Nat):Call:=λ f' args' s'=>if f'=f/\args'=args/\s'=s then some (r,ks) else none
theorem Pq(f:Nat)(args:List V)(s:IS)(r:GB)(a:List Nat):MT f args s r a f args s=some (r,a):=by simp[MT]
def Qq{f:Nat}{args:List V}{s:IS}{r:GB}{ks:List Nat}(h:∃ro a,Called P ev.gl s f args r ks ro a):MQ ev P (MT f args s r ks):=by
 intro a a a a a e
 grind[MT]
def Rq:MQ ev P (λ_ _ _=>none):=λ_ _ _ _ _ e=>by cases e
structure DoFact(ev:LA)(P:Program)(bs:Nat)(o:Oper)(s s1:IS)(tc:Tc):Prop where
 inv:∀sub,Inv bs sub s->Inv bs sub s1
 ok:∀X:Env1,X.P=P->X.T=ev.T->X.gl=ev.gl->∀σ,Rel s σ->∃e,OpW X o σ e/\Rel s1 (σ.eff o.dst e)/\nI e tc
theorem DoFact.of{call:Call}(b:MQ ev P call){a:Nat}{o:Oper}{s s1:IS}{c:Tc}(h:pJ ev call a o s=some (s1,c)):DoFact ev P a o s s1 c:=
 ⟨λsub a=>uq b h a,λX c d a σ e=>bq b h c d a e⟩
def Sq{a:Nat}{s:IS}{d:Option Nat}{r q:RB}(h:q.wr=r.wr)(b:q.new=r.new):s.app a d q=⟨XC s.sl d q.x,(s.app a d r).ob,(s.app a d r).nx,(s.app a d r).dt⟩:=by
 grind[IS.app]
def IY{a:Nat}{s:IS}{d:Option Nat}{r:RB}:(s.app a d r).sl=XC s.sl d r.x:=by
 grind[IS.app]
def DoFact.weak{a:Nat}{o:Oper}{s:IS}{r q:RB}{b:Tc}(h:DoFact ev P a o s (s.app a o.dst r) b)(k:bO r.x q.x)(c:q.wr=r.wr)(e:q.new=r.new):DoFact ev P a o s (s.app a o.dst q) b:=by
 rw[Sq c e];refine⟨λsub a=>(h.inv sub a).slot _,λX c e a σ l=>?_⟩;obtain⟨⟨x,f,g,rd⟩,i,b,j⟩:=h.ok X c e a σ l
 cases c:o.dst with
 |none=>
  refine⟨⟨x,f,g,rd⟩,i,?_,j⟩;have:=b;rw[c]at this;refine⟨λt=>?_,this.ob,this.us⟩;have:=this.sl t;rw[IY]at this;exact this
 |some d=>
  have a:=b.sl d;rw[c,IY]at a;have e:x=r.x:=by
   simp only[St.eff,TS,XC,Tr.get_put,if_true]at a;exact a
  subst e;refine⟨⟨q.x,f,g,rd⟩,.weak _ i k,?_,j⟩;rw[c]at b;refine⟨λt=>?_,b.ob,b.us⟩;have:=b.sl t;rw[IY]at this
  grind[St.eff,TS,XC,Tr.get_put,Option.some.injEq]
def zf{call:XB}(l:oF ev P call){b:Nat}{o:Oper}{s:IS}{m:Di}{k:IS->Tc->Di->Prop}(h:EO ev P call b o s m k):∃g i a,DoFact ev P b o s g i/\k g i a:=by
 unfold EO at h;split at h
 ·rename_i f args C;obtain⟨r,p,a,t,d⟩:=Oq l h;refine⟨_,_,a,DoFact.of (Qq (f:=f) (args:=args) (s:=s) (r:=r) (ks:=p) t) ?_,d⟩
  grind[pJ,Pq,Go.Lg.callR]
 have key:∀r,mD ev.T s.nx (s.val ev.gl) s.ob.get o.dst o.op=some r->DoFact ev P b o s (s.app b o.dst r) ⟨match r.wr with|some (n,_)=>[n]|none=>[],jE (s.val ev.gl) o.op⟩:=λr c=>by
  refine DoFact.of Rq (s1:=s.app b o.dst r) ?_
  grind[pJ]
 split at h
 ·split at h
  ·rename_i r c;exact⟨_,_,_,DoFact.weak (r:=r) (q:=⟨wG r.x,r.wr,r.new⟩) (key r c) (Lq r.x) rfl rfl,h⟩
  simp_all
 obtain⟨r,a,c,d⟩:=Gq h;obtain⟨u,v,w⟩:=Mq o.op r;refine⟨_,_,a,DoFact.weak (r:=r) ?_ u v w,d⟩;rcases c with c|⟨x,j,note,y⟩
 ·grind
 exact⟨λsub z=>Be z x j _,λX D A e σ B=>Ge y (λ_=>j) A e B⟩
structure NT(ev:LA)(P:Program)(nt bs:Nat)(all:List Oper)(o:Oper)(s s1:IS)(tc:Tc):Prop where
 inv:∀sub,Inv bs sub s->Inv bs sub s1
 ok:∀X:Env1,X.P=P->X.T=ev.T->X.gl=ev.gl->X.nt=nt->∀σ,Rel s σ->∃e,dJ X all o σ e/\Rel s1 (σ.eff o.dst e)/\nI e tc
def RQ{a:Nat}{o:Oper}(h:xO a o.dst=true){X:Env1}(b:X.nt=a):DK X o.dst:=by
 unfold xO at h;unfold DK;split at h
 ·simp_all
 simp_all
def JY{call:XB}(D:oF ev P call){z u:Nat}{all:List Oper}{o:Oper}{s:IS}{n:Di}{k:IS->Tc->Di->Prop}(h:ET ev P call z u all o s n k):∃l m c,NT ev P z u all o s l m/\k l m c:=by
 obtain⟨v,h⟩:=HB h;have f:nI OC ⟨[],[]⟩:=⟨by simp[OC,Eff.wn],by simp[OC]⟩;split at h
 ·rename_i p;obtain⟨l,m,c,w,A⟩:=zf D h;refine⟨l,m,c,⟨w.inv,λX r t g d σ i=>?_⟩,A⟩;obtain⟨e,E,x,B⟩:=w.ok X r t g σ i;exact⟨e,⟨RQ v d,.inl ⟨p,E⟩⟩,x,B⟩
 rename_i j a p;split at h
 ·rename_i b y;have key:(b=a->EO ev P call u o s n k)->(b≠a->k ⟨XC s.sl o.dst VK,s.ob,s.nx,s.dt⟩ ⟨[],[]⟩ n)->∃l m c,NT ev P z u all o s l m/\k l m c:=by
   intro w A;by_cases e:b=a
   ·obtain⟨l,m,c,x,B⟩:=zf D (w e);refine⟨l,m,c,⟨x.inv,λX r t g d σ i=>?_⟩,B⟩;obtain⟨q,F,G,H⟩:=x.ok X r t g σ i;exact⟨q,⟨RQ v d,.inr (.inl ⟨j,a,b,p,by rw[<-hY i];exact y,.inl ⟨e,F⟩⟩)⟩,G,H⟩
   exact⟨_,_,n,⟨λsub C=>C.slot _,λX r t g d σ i=>⟨OC,⟨RQ v d,.inr (.inl ⟨j,a,b,p,by rw[<-hY i];exact y,.inr ⟨e,rfl⟩⟩)⟩,He i _,f⟩⟩,A e⟩
  grind
 ·rename_i y;exact⟨_,_,n,⟨λsub C=>C.slot _,λX r t g d σ i=>⟨OC,⟨RQ v d,.inr (.inr ⟨j,a,p,by rw[<-hY i];exact y,rfl⟩)⟩,He i _,f⟩⟩,h⟩
 simp_all
inductive OpsR(ev:LA)(P:Program)(nt bs:Nat)(all:List Oper):List Oper->IS->List Tc->IS->List Tc->Prop|nil (s:IS) (tr:List Tc):OpsR ev P nt bs all [] s tr s tr|cons {o:Oper} {l:List Oper} {s s1 s2:IS} {tc:Tc} {tr tr2:List Tc} (h:NT ev P nt bs all o s s1 tc) (h':OpsR ev P nt bs all l s1 (tc::tr) s2 tr2):OpsR ev P nt bs all (o::l) s tr s2 tr2
def jf{call:XB}(f:oF ev P call){g i:Nat}{all:List Oper}:∀(l:List Oper){s:IS}{a:List Tc}{d:Di}{k:IS->List Tc->Di->Prop},BY ev P call g i all l s a d k->∃e b c,OpsR ev P g i all l s a e b/\k e b c
 |[],s,a,d,k,h=>⟨s,a,d,.nil s a,h⟩|o::l,s,a,d,k,h=>by
  obtain⟨e,a,c,c,d⟩:=JY f h;obtain⟨e,a,b,g,i⟩:=jf f l d;exact⟨e,a,b,.cons c g,i⟩
def OpsR.inv{d a:Nat}{all l:List Oper}{s c:IS}{e b:List Tc}(h:OpsR ev P d a all l s e c b){sub:Tr Ob}(b:Inv a sub s):Inv a sub c:=by
 induction h with|nil=>exact b|cons h _ a=>exact a (h.inv sub b)
def OpsR.ok{a b:Nat}{all:List Oper}{X:Env1}(k:X.P=P)(d:X.T=ev.T)(f:X.gl=ev.gl)(g:X.nt=a){l:List Oper}{s j:IS}{i c:List Tc}(h:OpsR ev P a b all l s i j c):∀{σ:St},Rel s σ->
  ∃b a,b.length=l.length/\EM X all l b σ/\Rel j (EA (λ_=>true) 0 (zB l b) σ)/\c=a.reverse++i/\TcsOK b a:=by
 induction h with
 |nil s i=>intro σ c;exact⟨[],[],rfl,trivial,c,rfl,rfl,by simp⟩|cons i _ j=>
  intro σ c;obtain⟨e,m,n,o⟩:=i.ok X k d f g σ c;obtain⟨b,a,c,d,f,g,i⟩:=j n;refine⟨e::b,_::a,by simp[c],⟨m,d⟩,?_,by simp[g],i.cons o⟩;simp only[zB,List.map_cons,List.zip_cons_cons,EA,if_true];rw[gY];exact f
def AWP.postX{X:Env1}{c:Code}{σ:St}{Q d:yB->St->Prop}(h:AWP X c σ Q)(i:∀b σ',Q b σ'->(∃σ'',XM X σ' σ''/\d b σ'')/\∀p,b≠.panic p):AWP X c σ d:=by
 intro C E a w j d;refine wp_mono (h C E a w j d) ?_
 rintro e k l ⟨m,σ',b,f,n,d⟩
 obtain⟨⟨σ'',o,g⟩,r⟩:=i b σ' d;obtain⟨i,d⟩:=o C m k l j f;refine⟨i,σ'',b,d,?_,g⟩
 cases b with|panic p=>simp_all|_=>exact n
def AWP.wkX{X:Env1}{c:Code}{σ σ':St}{Q:yB->St->Prop}(d:XM X σ σ')(h:AWP X c σ' Q):AWP X c σ Q:=by
 intro C E a w b e;obtain⟨f,g⟩:=d C E a w b e;exact h C f a w b g
def Tq{call:XB}(e:oF ev P call){c i id:Nat}{a:Array Oper}{d:Bool}{s:IS}{b:Di}{k:IS->Di->Prop}(h:Me ev P call c i a.toList d s b k):∃f b,Reach ev P c i (.region id a d) s .normal f/\k f b:=by
 obtain⟨f,u,b,j,l⟩:=jf e _ h;have e:∀sub,Inv i sub s->Inv i sub f:=λsub c=>j.inv (fq (NH a.toList) c)
 cases d with
 |false=>
  refine⟨f,b,⟨e,λX c σ m=>?_⟩,l⟩;obtain⟨σ0,n,g⟩:=xT (bs:=i) (NH a.toList) m;obtain⟨w,o,p,r,t,x,v⟩:=j.ok c.P c.T c.gl c.nt g;exact AWP.wk n (AWP.seqR r ⟨rfl,t⟩)
 |true=>
  obtain⟨y,l⟩:=HB l;have l:(rJ u=true\/TM a.toList u.reverse=true)/\k f b:=by
   grind[HB]
  refine⟨f,b,⟨e,λX c σ m=>?_⟩,l.2⟩;obtain⟨σ0,n,g⟩:=xT (bs:=i) (NH a.toList) m;obtain⟨w,o,p,r,t,x,v⟩:=j.ok c.P c.T c.gl c.nt g;refine AWP.wk n (AWP.anyR p r (Ke y ?_ p v) ⟨rfl,t⟩);simp_all
end
def AWP.condT{X:Env1}{c:Operand}{x y:Code}{σ:St}{Q:yB->St->Prop}{b:Bool}(f:σ.val X.gl c=.pv (.bool b))(g:b=true->AWP X x σ Q)(i:b=false->AWP X y σ Q):AWP X (.cond c x y) σ Q:=by
 intro C E a w d e;have h:=QA e d.glob c;rw[f]at h;exact wp_cond_split (VG h) (λf=>g f C E a w d e) (λf=>i f C E a w d e)
def AWP.scopeT{X:Env1}{c:Code}{σ:St}{Q:yB->St->Prop}(h:AWP X c σ Q):AWP X (.scope c) σ Q:=by
 intro C E a w b d;refine wp_scope_straight (wp_mono (h C E a w b d) ?_)
 rintro e j k ⟨l,σ',g,f,b,m⟩
 have d:fJ C Q e j k:=⟨l,σ',g,f,b,m⟩
 cases g with
 |normal=>cases b;exact d
 |exit i=>cases b;exact d
 |ret=>cases b;exact d
 |panic p=>obtain⟨v,rfl,f⟩:=b;exact d
def zH{c d:Bool}(h:(bif c then d else false)=true):c=true/\d=true:=by
 simp_all
def ZM{m:Nat}:∀{l:List Nat},ZG m l=true->∀n∈l,n<m
 |[],_,_,h=>by cases h
 |k::r,h,n,a=>by
  obtain⟨b,b⟩:=zH h;rcases List.mem_cons.1 a with rfl|a
  ·simp_all
  exact ZM b n a
def qN:∀{l m:List Nat},XK l m=true->∀n∈l,n∈m
 |[],_,_,_,h=>by cases h
 |k::r,m,h,n,a=>by
  obtain⟨b,b⟩:=zH h;rcases List.mem_cons.1 a with rfl|a
  ·grind[LH]
  exact qN b n a
def vf{m:Nat}{s:Tr V}:∀{l:List Nat},mY m s l=true->∀t∈l,∀v,s.get t=some v->∀n∈v.names,n<m
 |[],_,_,h=>by cases h
 |k::r,h,t,a=>by
  obtain⟨b,c⟩:=zH h;rcases List.mem_cons.1 a with rfl|a
  ·intro v d;rw[d]at b;exact ZM b
  exact vf c t a
def KY{m:Nat}{s:Tr Ob}:∀{l:List Nat},nY m s l=true->∀t∈l,t<m/\∀o,s.get t=some o->(∃a b c d,o=.arr a b c d)\/(∃c d,o=.smap c d)\/∀n∈o.names,n<m
 |[],_,_,h=>by cases h
 |k::r,h,t,d=>by
  obtain⟨f,g⟩:=zH h;obtain⟨e,i⟩:=zH g;rcases List.mem_cons.1 d with rfl|d
  ·refine⟨jG f,?_⟩;intro v f;rw[f]at e;cases v<;>first|exact .inl ⟨_,_,_,_,rfl⟩|exact .inr (.inl ⟨_,_,rfl⟩)|exact .inr (.inr (ZM e))
  exact KY i t d
structure KN(s:Tr Ob)(l:List Nat):Prop where
 a:∀t∈l,∀a b c es,s.get t=some (.arr a b c es)->wB es=[]
 m:∀t∈l,∀c es,s.get t=some (.smap c es)->IC es=[]
theorem jH{s:Tr Ob}{R:Prop}:∀{l:List Nat},iF s l R->R/\KN s l
 |[],h=>⟨h,⟨(λt d=>by cases d),(λt d=>by cases d)⟩⟩|k::r,h=>by
  unfold iF at h;split at h
  ·rename_i m j;obtain⟨i,g⟩:=jH h.2;refine⟨i,⟨λt d a b c e f=>?_,λt d c e f=>?_⟩⟩
   ·rcases List.mem_cons.1 d with rfl|d
    ·simp_all
    exact g.a t d a b c e f
   rcases List.mem_cons.1 d with rfl|d
   ·rw[j]at f;cases f
   exact g.m t d c e f
  ·rename_i m j;obtain⟨i,g⟩:=jH h.2;refine⟨i,⟨λt d a b c e f=>?_,λt d c e f=>?_⟩⟩
   ·rcases List.mem_cons.1 d with rfl|d
    ·rw[j]at f;cases f
    exact g.a t d a b c e f
   rcases List.mem_cons.1 d with rfl|d
   ·simp_all
   exact g.m t d c e f
  obtain⟨i,g⟩:=jH h;refine⟨i,⟨λt d a b c e f=>?_,λt d c e f=>?_⟩⟩
  ·rcases List.mem_cons.1 d with rfl|d
   ·grind
   exact g.a t d a b c e f
  rcases List.mem_cons.1 d with rfl|d
  ·simp_all
  exact g.m t d c e f
def yf{a:List Nat}{s:Tr Ob}:∀{k:Nat},pY a s k=true->∀n,n<k->n∈a\/s.get n=none
 |0,_,_,h=>absurd h (Nat.not_lt_zero _)|k+1,h,n,b=>by
  obtain⟨b,c⟩:=zH h;by_cases e:n=k
  ·subst e
   cases d:lD a n with
   |true=>grind[LH]|false=>
    rw[d]at b;refine .inr ?_
    cases a:s.get n with|none=>rfl|some o=>rw[a]at b;cases b
  exact yf c n (by omega)
def OT{α:Type}(s:Tr α):∀(l:List Nat)(t:Tr α)(n:Nat),(aJ s l t).get n=if n∈l then s.get n else t.get n
 :=by intro x;induction x<;>grind[aJ,Tr.get_put]
def PT:Option V->V|some v=>v|none=>.undef
def ZK(s:Tr V):List Nat->List (Nat×V)|[]=>[]|t::r=>(t,PT (s.get t))::ZK s r
def rI(s:Tr Ob):List Nat->List (Nat×Ob)
 |[]=>[]|n::r=>match s.get n with|some o=>(n,o)::rI s r|none=>rI s r
def Uq(s:Tr V):∀(l:List Nat)(t:Nat),IA (ZK s l) t=if t∈l then PT (s.get t)else .undef
 :=by intro x;induction x<;>grind[ZK,IA,PT]
def Vq(s:Tr Ob):∀(l:List Nat)(t:Nat),zA (rI s l) t=if t∈l then s.get t else none
 :=by intro x;induction x<;>grind[rI,zA]
def bf{s:Tr V}:∀{l:List Nat}{n:Nat},n∈WE (ZK s l)->∃t∈l,∃v,s.get t=some v/\n∈v.names
 |[],n,h=>by cases h
 |k::r,n,h=>by
  simp only[ZK,WE,List.mem_append]at h;rcases h with h|h
  ·cases e:s.get k with|none=>rw[e]at h;simp[PT,V.names]at h|some v=>rw[e]at h;exact⟨k,by simp,v,e,h⟩
  obtain⟨t,a,b⟩:=bf h;exact⟨t,by simp[a],b⟩
def Wq{s:Tr Ob}:∀{l:List Nat}{n:Nat},n∈lC (rI s l)->∃t∈l,∃o,s.get t=some o/\(n=t\/n∈o.names)
 :=by intro x;induction x<;>grind[rI,lC]
structure KpOK(k:Kp)(bs:Nat)(s:IS):Prop where
 le:bs<=k.nx
 sl:∀t∈k.sl,∀v,s.sl.get t=some v->∀n∈v.names,n<k.nx
 on:∀t∈k.on,t<k.nx/\∀o,s.ob.get t=some o->∀n∈o.names,n<k.nx
 old:∀n,n<bs->n∈k.on\/s.ob.get n=none
 dt:∀n∈s.dt,n∈k.dt
 db:∀n∈k.dt,n<bs
theorem eJ{k:Kp}{d:Nat}{s:IS}(h:cJ k d s=true)(g:KN s.ob k.on):KpOK k d s:=by
 obtain⟨e,h⟩:=zH h;obtain⟨f,h⟩:=zH h;obtain⟨d,h⟩:=zH h;obtain⟨j,h⟩:=zH h;obtain⟨l,h⟩:=zH h;refine⟨Nat.le_of_ble_eq_true e,vf f,λt e=>⟨(KY d t e).1,λo f n i=>?_⟩,yf j,qN l,ZM h⟩;rcases(KY d t e).2 o f with ⟨a,b,c,d,rfl⟩|⟨c,d,rfl⟩|j
 ·have:n∈wB d:=i;rw[g.a t e a b c d f]at this;cases this
 ·have:n∈IC d:=i;rw[g.m t e c d f]at this;cases this
 simp_all
def KpOK.inv{k:Kp}{a:Nat}{s:IS}(h:KpOK k a s){sub:Tr Ob}(c:Inv a sub s):Inv a sub (yG k s):=by
 refine⟨h.le,λn b e=>?_,λn b a=>?_,c.names,h.db⟩
 ·have:=c.same n b (λd=>e (h.dt n d));show(aJ s.ob k.on .nil).get n=_;rw[OT];rcases h.old n b with d|d
  ·rw[if_pos d];exact this
  by_cases e:n∈k.on
  ·rw[if_pos e];exact this
  rw[if_neg e,<-this,d];rfl
 have a:((aJ s.ob k.on .nil).get n).isSome=true:=a;rw[OT]at a;split at a
 ·exact c.old n b a
 cases a
def KpOK.wk{k:Kp}{b:Nat}{s:IS}(h:KpOK k b s){c:LA}{P:Program}{d:Nat}{X:Env1}(f:HX X c P d b){σ:St}(c:Rel s σ):∃τ,XM X σ τ/\Rel (yG k s) τ:=by
 refine⟨⟨ZK s.sl k.sl,rI s.ob k.on,List.range k.nx⟩,λC E a w b d=>⟨E,Weak.ga (X:=X) (σ:=σ) ⟨?_,?_,?_⟩ b d⟩,⟨λt=>?_,λn=>?_,λn b=>?_⟩⟩
 ·have:∀(l:List Nat),tQ (ZK s.sl l) σ.slots:=by
   intro l
   induction l with|nil=>trivial|cons t r d=>exact⟨by rw[c.sl];cases s.sl.get t<;>rfl,d⟩
  simp_all
 ·refine VM λp e=>?_
  have:∀(l:List Nat),p∈rI s.ob l->s.ob.get p.1=some p.2:=by
   intro l
   induction l with
   |nil=>intro h;cases h
   |cons t r d=>
    grind[rI]
  rw[c.ob]
  grind
 ·refine UM λn b=>?_
  rw[List.mem_append,List.mem_append]at b;refine List.mem_range.2 ?_;rcases b with (b|b)|b
  ·obtain⟨t,c,v,e,d⟩:=bf b;exact h.sl t c v e n d
  ·obtain⟨t,c,o,e,d⟩:=Wq b;rcases d with rfl|d
   ·exact(h.on n c).1
   exact(h.on t c).2 o e n d
  have:=f.given n b;have:=h.le;omega
 ·show IA (ZK s.sl k.sl) t=(match (aJ s.sl k.sl .nil).get t with|some v=>v|none=>.undef);rw[Uq,OT];by_cases c:t∈k.sl
  ·rw[if_pos c,if_pos c];cases s.sl.get t<;>rfl
  rw[if_neg c,if_neg c];rfl
 ·show zA (rI s.ob k.on) n=(aJ s.ob k.on .nil).get n;rw[Vq,OT];rfl
 exact List.mem_range.1 b
section
variable{ev:LA}{P:Program}
def AE.x_np(e:AE):∀p,AE.x e≠.panic p:=by cases e<;>simp[AE.x]
def Reach.seq{c d:Nat}{a b:Code}{s f g:IS}{e:AE}(h:Reach ev P c d a s .normal f)(i:Reach ev P c d b f e g):Reach ev P c d (.seq a b) s e g:=by
 refine⟨λsub c=>i.inv sub (h.inv sub c),λX d σ c=>AWP.seq (AWP.mono (h.awp X d σ c) ?_)⟩
 rintro c σ' ⟨rfl,c⟩
 exact i.awp X d σ' c
def Reach.seq'{c d:Nat}{a b:Code}{s f:IS}{e:AE}(g:e≠.normal)(h:Reach ev P c d a s e f):Reach ev P c d (.seq a b) s e f:=by
 refine⟨h.inv,λX c σ d=>AWP.seq (AWP.mono (h.awp X c σ d) ?_)⟩
 rintro c σ' ⟨rfl,c⟩
 cases e with|normal=>simp_all|exit i=>exact⟨rfl,c⟩|ret=>exact⟨rfl,c⟩
def LoopIs.reach{a c:Nat}{b:Code}{s d:IS}{e:AE}(h:LoopIs ev P a c b s e d):Reach ev P a c (.loop b) s e d:=by
 obtain⟨a,m,h⟩:=h;exact⟨a,λX a σ c=>To m (h X a σ c)⟩
def LoopIs.round{a c:Nat}{b:Code}{s f g:IS}{e:AE}(h:Reach ev P a c b s .normal f)(d:LoopIs ev P a c b f e g):LoopIs ev P a c b s e g:=by
 obtain⟨a,m,d⟩:=d;refine⟨λsub c=>a sub (h.inv sub c),m+1,λX c σ a=>XS (AWP.mono (h.awp X c σ a) ?_)⟩
 rintro a σ' ⟨rfl,a⟩
 exact d X c σ' a
def LoopIs.last{a c:Nat}{b:Code}{s d:IS}{e:AE}(f:e≠.normal)(h:Reach ev P a c b s e d):LoopIs ev P a c b s e d:=by
 refine⟨h.inv,1,λX a σ c=>XS (AWP.mono (h.awp X a σ c) ?_)⟩
 rintro a σ' ⟨rfl,a⟩
 cases e with|normal=>simp_all|exit i=>exact⟨rfl,a⟩|ret=>exact⟨rfl,a⟩
def Reach.keep{b a:Nat}{c:Code}{s s':IS}{e:AE}{k:Kp}(d:KpOK k a s')(h:Reach ev P b a c s e s'):Reach ev P b a c s e (yG k s'):=by
 refine⟨λsub a=>d.inv (h.inv sub a),λX b σ a=>AWP.postX (h.awp X b σ a) ?_⟩
 rintro a σ' ⟨rfl,a⟩
 obtain⟨τ,f,g⟩:=d.wk b a;exact⟨⟨τ,f,rfl,g⟩,AE.x_np e⟩
def Reach.kept{b a:Nat}{c:Code}{s d:IS}{e:AE}{k:Kp}(f:KpOK k a s)(h:Reach ev P b a c (yG k s) e d):Reach ev P b a c s e d:=by
 refine⟨λsub a=>h.inv sub (f.inv a),λX a σ b=>?_⟩;obtain⟨τ,d,g⟩:=f.wk a b;exact AWP.wkX d (h.awp X a τ g)
def Xq{K:List PV->PV}{n:Nat}{a:List PV}:∀{x:V},n∉x.names->gI K n a x=x:=by
 intro x h;cases x<;>simp only[gI]
 grind[V.names]
def df{K:List PV->PV}{n:Nat}{b:List PV}:∀{a:List V},n∉BA a->JH K n b a=a
 |[],_=>rfl|c::a,h=>by
  simp only[BA,List.mem_append,not_or]at h;simp only[JH];rw[Xq h.1,df h.2]
def Yq{K:List PV->PV}{n:Nat}{a:List PV}{o:Ob}(h:n∉o.names):gJ K n a o=o:=by
 cases o with|box a=>simp only[gJ];rw[df h]|_=>rfl
theorem Zq{a:Nat}{sub:Tr Ob}{s:IS}(b:Inv a sub s){n:Nat}(e:¬n<a)(K:List PV->PV)(c:List PV):Inv a sub (WM K n c s):=by
 have a:∀m,((s.ob.put n none).map (gJ K n c)).get m=if m=n then none else(s.ob.get m).map (gJ K n c):=by
  intro m;rw[Tr.get_map,Tr.get_put];split<;>rfl
 refine⟨b.le,?_,?_,b.names,b.dts⟩
 ·intro m d f;show((s.ob.put n none).map (gJ K n c)).get m=_;rw[a m,if_neg (by omega),b.same m d f]
  cases q:sub.get m with
  |none=>rfl|some o=>
   simp only[Option.map_some];rw[Yq];intro f;exact e ((b.names m o q).2 n f)
 intro m d e;have e:(((s.ob.put n none).map (gJ K n c)).get m).isSome=true:=e;rw[a m,if_neg (by omega)]at e;exact b.old m d (by simp_all)
theorem zr{s:IS}{σ:St}(b:Rel s σ){n:Nat}{c d:List PV}{K:List PV->PV}(f:s.ob.get n=some (.box (iA c)))(g:eQ K c d):∃σ',Wk σ σ'/\Rel (WM K n d s) σ':=by
 have e:zA σ.objs n=some (.box (iA c)):=(b.ob n).trans f;refine⟨σ.frb K n d,λC E a w c=>c.frb e g,⟨?_,?_,b.us⟩⟩
 ·intro t;simp only[St.frb,WM,tX,b.sl,Tr.get_map];cases s.sl.get t<;>rfl
 intro m;simp only[St.frb,WM,pO,b.ob,Tr.get_map,Tr.get_put];split<;>rfl
def lf{b:Bool}:∀{f a:List PV},AT b f=some a->flgs f a
 |[],_,h=>by cases h
 |[c],a,h=>by
  cases c with
  |bool x=>cases x with
   |false=>
    cases h;exact⟨λe=>(by cases e),trivial⟩
   |true=>cases h
  |_=>cases h
 |c::d::r,a,h=>by
  have key:(∀x,c≠.flg x)->(match AT b (d::r)with|some l=>some (c::l)|none=>none)=some a->flgs (c::d::r) a:=by
   intro g h;split at h
   ·rename_i l i;cases h;rw[flgs.eq_3 _ _ _ _ (λc b _ e=>g b e)];exact⟨⟨rfl,λb e=>g b e⟩,lf i⟩
   cases h
  cases c with
  |flg x=>cases h
  |_=>exact key (λx e=>by cases e) h
def jr(c:List PV):eQ PV.ptr c (wl (PV.w 4) c):=by
 intro H a r;have r:=GY 4 c a r;refine⟨a.map sn,Msk.sn a,λ_ _=>trivial,λb a a e off=>?_⟩;exact⟨b,off,rfl,by rw[e];exact RepL.drop off (RepL.mono a (wl (PV.w 4) c) _ _ List.prefix_rfl r.sn)⟩
def mf{d n:Nat}{b:Option Bool}{s g:IS}(h:OQ d n b s=some g):¬n<d/\∃K a c,s.ob.get n=some (.box (iA a))/\eQ K a c/\g=WM K n c s:=by
 unfold OQ at h
 cases e:Nat.blt n d with
 |true=>rw[e]at h;cases h
 |false=>
  rw[e,cond_false]at h;rw[lJ]at e;refine⟨of_decide_eq_false e,?_⟩;split at h
  ·rename_i l i;split at h
   ·rename_i a j;rw[oX]at j;have f:=VX j;subst f;split at h
    ·cases h;exact⟨_,a,_,i,jr a,rfl⟩
    split at h
    ·rename_i c k;cases h;exact⟨_,a,c,i,Xo (lf k),rfl⟩
    cases h
   cases h
  cases h
def vr{a n:Nat}{b:Option Bool}{s c:IS}{sub:Tr Ob}(h:OQ a n b s=some c)(d:Inv a sub s):Inv a sub c:=by
 obtain⟨a,K,a,a,_,_,rfl⟩:=mf h
 grind[Zq]
def kr{c n:Nat}{b:Option Bool}{s a:IS}{σ:St}(h:OQ c n b s=some a)(c:Rel s σ):∃σ',Wk σ σ'/\Rel a σ':=by
 obtain⟨_,K,a,a,a,a,rfl⟩:=mf h
 grind[zr]
def oC{call:XB}(B:oF ev P call){N I A:Nat}:∀(c:Code)(s:IS)(r:Di)(k:KT),AD ev P call N I A c s r k->∃e F u,Reach ev P I A c s e F/\k e F u
 |.skip,s,r,k,h=>⟨.normal,s,r,⟨λ_ h=>h,λX t σ g C E a w Q v=>wp_skip ⟨E,σ,.normal,v,rfl,rfl,g⟩⟩,h⟩|.seq a b,s,r,k,h=>by
  obtain⟨e,p,f,o,j⟩:=oC B a s r _ h
  cases e with
  |normal=>
   obtain⟨e,J,z,K,R⟩:=oC B b p f _ j;exact⟨e,J,z,o.seq K,R⟩
  |exit i=>exact⟨_,p,f,o.seq' (by simp),j⟩|ret=>exact⟨_,p,f,o.seq' (by simp),j⟩
 |.cond c x y,s,r,k,h=>by
  unfold AD at h;split at h
  ·rename_i b Z;have V:∀X,HX X ev P I A->∀σ,Rel s σ->σ.val X.gl c=.pv (.bool b):=λX t σ g=>by rw[g.val,t.gl];exact Z
   split at h
   ·obtain⟨e,p,f,o,j⟩:=oC B x s r _ h;exact⟨e,p,f,⟨o.inv,λX t σ g=>AWP.condT (V X t σ g) (λ_=>o.awp X t σ g) (nofun)⟩,j⟩
   obtain⟨e,p,f,o,j⟩:=oC B y s r _ h;exact⟨e,p,f,⟨o.inv,λX t σ g=>AWP.condT (V X t σ g) (nofun) (λ_=>o.awp X t σ g)⟩,j⟩
  exact h.elim
 |.block id b,s,r,k,h=>by
  obtain⟨e,p,f,o,j⟩:=oC B b s r _ h;have key:∀L,(∀D σ',YM e p D σ'->FH id (YM L p) D σ')->Reach ev P I A (.block id b) s L p:=λL hq=>⟨o.inv,λX t σ g=>AWP.block (AWP.mono (o.awp X t σ g) hq)⟩
  cases e with
  |normal=>exact⟨.normal,p,f,key _ (by rintro D σ' ⟨rfl,g⟩;exact⟨rfl,g⟩),j⟩|ret=>exact⟨.ret,p,f,key _ (by rintro D σ' ⟨rfl,g⟩;exact⟨rfl,g⟩),j⟩|exit i=>
   simp only[PQ]at j;split at j
   ·rename_i e;have e:=Nat.eq_of_beq_eq_true e;refine⟨.normal,p,f,key _ ?_,j⟩
    rintro D σ' ⟨rfl,g⟩
    simp only[AE.x,FH,if_pos e];exact⟨rfl,g⟩
   rename_i e;refine⟨.exit i,p,f,key _ ?_,j⟩
   rintro D σ' ⟨rfl,g⟩
   have S:¬i=id:=λL=>by rw[JE L]at e;cases e
   simp only[AE.x,FH,if_neg S];exact⟨rfl,g⟩
 |.exit id,s,r,k,h=>⟨.exit id,s,r,⟨λ_ h=>h,λX t σ g C E a w Q v=>wp_exit ⟨E,σ,.exit id,v,rfl,rfl,g⟩⟩,h⟩|.ret,s,r,k,h=>⟨.ret,s,r,⟨λ_ h=>h,λX t σ g C E a w Q v=>wp_ret ⟨E,σ,.ret,v,rfl,rfl,g⟩⟩,h⟩|.region id ops d,s,r,k,h=>by
  obtain⟨p,u,o,j⟩:=Tq (id:=id) B h;split at j
  ·split at j
   ·rename_i n W z _ _ M sz ty es ho;obtain⟨Y,rfl,K⟩:=HB j;have Y:Nat.blt n A=false:=by simp_all
    have O:nJ A p n=⟨p.sl.map (PC n M W),(p.ob.put n none).map (MD n M W),p.nx,p.dt⟩:=by
     unfold nJ;rw[Y,ho];simp[cond_false,cK]
    refine⟨.normal,_,z,?_,K⟩;rw[<-O];refine⟨λsub T=>WX (o.inv sub T) n,λX t σ g=>AWP.postX (o.awp X t σ g) ?_⟩
    rintro D σ' ⟨rfl,G⟩
    obtain⟨τ,U,H⟩:=YX (bs:=A) G n;exact⟨⟨τ,λC E a w _ v=>U C E a w v,rfl,H⟩,AE.x_np .normal⟩
   simp_all
  ·split at j
   ·rename_i J O;refine⟨.normal,J,_,⟨λsub T=>vr O (o.inv sub T),λX t σ g=>AWP.postX (o.awp X t σ g) ?_⟩,j⟩
    rintro D σ' ⟨rfl,G⟩
    obtain⟨τ,U,H⟩:=kr O G;exact⟨⟨τ,λC E a w _ v=>U C E a w v,rfl,H⟩,AE.x_np .normal⟩
   simp_all
  ·grind
  grind
 |.loop b,s,r,k,h=>by
  have hl:∀m s r,DY (AD ev P call N I A b) k m s r->∃e F u,LoopIs ev P I A b s e F/\k e F u:=by
   intro m
   induction m with
   |zero=>intro s r h;exact h.elim|succ m ih=>
    intro s r h;obtain⟨e,p,f,o,j⟩:=oC B b s r _ h
    cases e with
    |normal=>
     obtain⟨e,J,z,K,R⟩:=ih p f j;exact⟨e,J,z,K.round o,R⟩
    |exit i=>exact⟨_,p,f,.last (by simp) o,j⟩|ret=>exact⟨_,p,f,.last (by simp) o,j⟩
  unfold AD at h;split at h
  ·obtain⟨hk,h0⟩:=HB h;obtain⟨⟨o,j⟩,ha⟩:=jH h0;exact⟨_,_,_,o.reach.kept (eJ hk ha),j⟩
  obtain⟨e,F,u,o,j⟩:=hl N s r h;exact⟨e,F,u,o.reach,j⟩
 |.scope b,s,r,k,h=>by
  obtain⟨e,p,f,o,j⟩:=oC B b s r _ h;exact⟨e,p,f,⟨o.inv,λX t σ g=>AWP.scopeT (o.awp X t σ g)⟩,j⟩
 |.label l,s,r,k,h=>⟨.normal,s,r,⟨λ_ h=>h,λX t σ g C E a w Q v=>wp_label ⟨E,σ,.normal,v,rfl,rfl,g⟩⟩,h⟩|.rangeFunc _ _ _ _,_,_,_,h=>h.elim|.goto _,_,_,_,h=>h.elim|.refuse _,_,_,_,h=>h.elim
open Classical in
noncomputable def JO (nt bs:Nat)(c:Code)(s:IS)(e:AE)(s':IS):oO:=λ nt' bs' c' s1 k=>if nt'=nt/\bs'=bs/\c'=c/\s1=s then k e s' else none
def LY{p t:Nat}{c:Code}{s b:IS}{e:AE}(h:Reach ev P p t c s e b):Good ev P (JO p t c s e b):=by
 refine⟨λd f u v k r a sub g=>?_,λd f u v k r a X w i j l m sub σ x g=>?_⟩
 ·unfold JO at a;split at a
  ·rename_i n;obtain⟨rfl,rfl,rfl,rfl⟩:=n;exact⟨e,b,h.inv sub g,a⟩
  cases a
 unfold JO at a;split at a
 ·rename_i n;obtain⟨rfl,rfl,rfl,rfl⟩:=n;refine AWP.mono (h.awp X ⟨w,i,j,l,m⟩ σ x) ?_
  rintro y σ' ⟨rfl,o⟩
  exact⟨e,b,rfl,o,h.inv sub g,a⟩
 cases a
def OH(g:kG ev P)(N:Nat):∀(n:Nat),oF ev P (dG ev P N n)
 |0=>λ_ _ _ _ _ h=>h.elim|n+1=>λf args s t k h=>by
  unfold dG at h;split at h
  ·rename_i fn i;split at h
   ·rename_i c j;obtain⟨l,h⟩:=HB h;split at h
    ·rename_i sub m a;obtain⟨e,u,b,o,d⟩:=oC (OH g N n) _ _ _ _ h;split at d
     ·rename_i r p;refine⟨r,m,b,oT (LY o) g i j (Nat.le_of_ble_eq_true l) a ?_,d⟩;unfold SM JO;simp only[and_self,if_true];exact p
     exact d.elim
    exact h.elim
   exact h.elim
  exact h.elim
def LoopIs.of_round(g:kG ev P){n N a c:Nat}{b:Code}{s d:IS}{f:Di}{j k:Kp}{e:AE}(h:Oe ev P n N a c b s f j k e d):LoopIs ev P a c b s e d:=by
 obtain⟨c,a,a,f,a⟩:=oC (OH g N n) _ _ _ _ h
 cases c with
 |normal=>
  obtain⟨c,a⟩:=HB a;obtain⟨a,d⟩:=jH a;exact .round (f.keep (eJ c d)) a
 |exit i=>
  obtain⟨rfl,a⟩:=a;obtain⟨c,a⟩:=HB a;obtain⟨a,d⟩:=jH a;exact a▸.last (by simp) (f.keep (eJ c d))
 |ret=>
  obtain⟨rfl,a⟩:=a;obtain⟨c,a⟩:=HB a;obtain⟨a,d⟩:=jH a;exact a▸.last (by simp) (f.keep (eJ c d))
theorem AC.wO{f:Nat}{args:List V}{p:PV}{b a:List (Nat×Ob)}(n:Nat)(h:AC P ev.gl f args b (.ret (.pv p)) a):AC P ev.gl f args b (.ret (.pv (p.w n))) a:=h.leO λH v=>GT n p v
def MY(d:kG ev P){N n f:Nat}{args:List PV}{a:Di}{x:PV}(h:EY ev P N n f args a x):AC P ev.gl f (args.map .pv) [] (.ret (.pv x)) []:=by
 obtain⟨⟨y,a,a,a⟩,a,a,⟨ro,b,a⟩,c⟩:=OH d N n _ _ _ _ _ h;unfold Pe at c;split at c
 ·have c:ro=[]:=by
   cases ro with|nil=>rfl|cons p r=>have:=a.subs p (by simp);cases this
  have c:b=[]:=by
   cases b with|nil=>rfl|cons p r=>have:=a.subs p (by simp);cases this
  have:=a.ac
  grind[AC.wO]
 simp_all
end
def getO_iff{l:List (Nat×Ob)}{n:Nat}:n∈jA l↔(zA l n).isSome=true:=by
 constructor
 ·intro h
  cases e:zA l n with
  |some o=>rfl|none=>
   induction l with
   |nil=>cases h
   |cons p r b=>
    obtain⟨k,q⟩:=p;unfold zA at e;by_cases a:k=n
    ·rw[if_pos a]at e;cases e
    rw[if_neg a]at e;rcases List.mem_cons.1 h with h|h
    ·simp_all
    exact b h e
 intro h;obtain⟨o,a⟩:=Option.isSome_iff_exists.1 h;exact keysO_mem.2 ⟨o,tJ a⟩
def AC.cong{P:Program}{k:Nat->Option (List PV)}{f:Nat}{args:List V}{a b c d:List (Nat×Ob)}{out:Out}(h:AC P k f args a out c)(g:∀n,zA a n=zA b n)(i:∀n,zA c n=zA d n)(j:∀n,n∈KC a->n∈KC b):AC P k f args b out d:=by
 have j:∀n,n∈jA a↔n∈jA b:=λn=>by rw[getO_iff,getO_iff,g]
 have j:∀n,n∈jA c↔n∈jA d:=λn=>by rw[getO_iff,getO_iff,i]
 have l:∀n,(n∈jA a\/n∈jA c\/n∈VE args a)->(n∈jA b\/n∈jA d\/n∈VE args b):=by
  grind[VE,id]
 refine⟨h.direct,λn c=>l n (h.names n c),λm o j n c=>l n (h.namesO m o (by rw[i];exact j) n c),λE w p d r s=>?_⟩;have l:uI k E w a:=⟨d.heap,d.glob,λn o c=>d.obs n o (by rw[<-g];exact c),λn m o k c j=>d.apart n m o k (by rw[<-g];exact c) (by rw[<-g];exact j)⟩;refine(h.calls E w p l r s).mono ?_
 rintro e d ⟨l,d,p⟩
 refine⟨l,⟨d.heap,λn o c=>d.obs n o (by rw[i];exact c),λn m o k c j=>d.apart n m o k (by rw[i];exact c) (by rw[i];exact j),d.hle,d.size,d.rest,λb j l=>d.same b j (λn o c=>l n o (by rw[<-g];exact c)),λn o b c j=>?_,λn o c=>d.ext n o (by rw[g];exact c),λn c l=>d.other n (by rw[g];exact c) (by rw[i];exact l)⟩,p⟩;rcases d.own n o b (by rw[i];exact c) j with h|⟨m,k,h,c⟩
 ·omega
 grind
def KO:∀(l:List (Nat×Ob))(t:Tr Ob),(jA l).Nodup->∀n,(KB l t).get n=match zA l n with|some o=>some o|none=>t.get n
 |[],t,_,n=>rfl|(k,q)::r,t,a,n=>by
  obtain⟨b,c⟩:=List.nodup_cons.1 a;simp only[KB];rw[KO r _ c,Tr.get_put];by_cases e:k=n
  ·subst e;have:zA r k=none:=by
    cases e:zA r k with|none=>rfl|some o=>exact absurd (getO_iff.2 (by rw[e];rfl)) b
   rw[this];simp[zA]
  rw[if_neg (Ne.symm e)];simp only[zA,if_neg e]
theorem SQ:∀(a:List (Nat×Ob))(n:Nat)(o:Ob),QQ n o a=match zA a n with|some a=>a|none=>o
 |[],n,o=>rfl|(m,q)::r,n,o=>by
  unfold QQ;by_cases e:n=m
  ·subst e;simp[zA]
  rw[JK e,cond_false,SQ r n o];simp only[zA,if_neg (Ne.symm e)]
def NY(a:List (Nat×Ob)):∀(l:List (Nat×Ob))(n:Nat),zA (GO a l) n=(zA l n).map λo=>QQ n o a
 |[],n=>rfl|(k,q)::r,n=>by
  simp only[GO,zA];by_cases e:k=n
  ·simp_all
  rw[if_neg e,if_neg e,NY a r n]
def QT(a b:List (Nat×Ob))(n:Nat):zA (a++b) n=match zA a n with|some o=>some o|none=>zA b n:=by
 induction a with
 |nil=>rfl|cons p r c=>
  grind[zA]
def yr{s:LA}{P:Program}(B:kG s P){N n f m:Nat}{args:List V}{a b:List (Nat×Ob)}{C:Di}{x:V}(h:Re s P N n f args a m C x b):AC P s.gl f args a (.ret x) b:=by
 obtain⟨t,h⟩:=HB h;obtain⟨⟨y,u,H,I⟩,J,D,⟨ro,v,i⟩,r⟩:=OH B N n _ _ _ _ _ h;have t:=HO t;rw[fG]at t;unfold Qe at r;split at r
 ·rename_i e;cases e;obtain⟨E,r⟩:=HB r;obtain⟨j,K⟩:=zH E;have j:=qN j;rw[fG]at j;cases r;have w:∀k,(KB a .nil).get k=zA a k:=λk=>by
   rw[KO a _ t];cases zA a k<;>rfl
  have d:∀p∈ro++v,zA a p.1=some p.2:=λp z=>by rw[<-w];exact i.subs p z
  have g:∀k,zA (ro++v) k=zA a k:=by
   intro k
   cases e:zA (ro++v) k with
   |some o=>exact(d (k,o) (tJ e)).symm|none=>
    cases l:zA a k with
    |none=>rfl|some o=>
     have c:=i.all k (j k (getO_iff.2 (by rw[l];rfl)));rw[getO_iff,e]at c;cases c
  have key:AC P s.gl f args a (.ret y) (GO u a):=by
   refine AC.cong i.ac g (λk=>?_) (λk j=>?_)
   ·rw[NY,<-g,List.append_nil,QT,QT]
    cases e:zA ro k with
    |some o=>
     have c:=(i.apart k (getO_iff.2 (by rw[e];rfl))).2;have L:zA u k=none:=by
      cases l:zA u k with|none=>rfl|some o=>exact absurd (by simpa using getO_iff.2 (by rw[l];rfl)) c
     grind[SQ]
    |none=>
     cases l:zA v k with
     |some o=>
      have c:=i.inch k (getO_iff.2 (by rw[l];rfl));obtain⟨M,F⟩:=Option.isSome_iff_exists.1 (getO_iff.1 c)
      grind[SQ]
     |none=>
      cases G:zA u k with
      |none=>rfl|some o=>
       have c:=(i.chs k (getO_iff.2 (by rw[G];rfl))).2.2;rw[getO_iff,l]at c;cases c
   obtain⟨p,z,A⟩:=mem_mentO.1 j;exact mem_mentO.2 ⟨p,tJ (d p z),A⟩
  cases y with|pv p=>exact AC.wO 4 key|_=>exact key
 simp_all
section
variable{ev:LA}{P:Program}
def sf{X:Env1}{b:Code}{Q g:yB->St->Prop}(l:∀c σ',Q c σ'->(∃σ'',XM X σ' σ''/\g c σ'')/\(∀p,c≠.panic p)/\c≠.normal):∀(m:Nat)(σ:St),fI X b Q m σ->fI X b g m σ
 |0,_,h=>h|m+1,σ,h=>by
  intro C E a w n d;refine wp_mono (h C E a w n d) ?_
  rintro e o r ⟨s,σ',c,f,t,d⟩
  have key:c≠.normal->Q c σ'->fJ C (GK (fI X b g m) g) e o r:=by
   intro g g;obtain⟨⟨σ'',u,j⟩,k,_⟩:=l c σ' g;obtain⟨k,g⟩:=u C s o r n f;refine⟨k,σ'',c,g,?_,?_⟩
   ·cases c with|panic p=>simp_all|_=>exact t
   cases c with|normal=>simp_all|_=>exact j
  cases c with|normal=>exact⟨s,σ',.normal,f,t,sf l m σ' d⟩|exit i=>exact key (by simp) d|ret=>exact key (by simp) d|panic p=>exact key (by simp) d
def LoopIs.post{d c:Nat}{b:Code}{s f a:IS}{e:AE}(g:e≠.normal)(h:LoopIs ev P d c b s e f)(i:∀sub,Inv c sub f->Inv c sub a)(j:∀X,HX X ev P d c->∀σ,Rel f σ->∃τ,XM X σ τ/\Rel a τ):LoopIs ev P d c b s e a:=by
 obtain⟨a,m,d⟩:=h;refine⟨λsub c=>i sub (a sub c),m,λX c σ a=>sf ?_ m σ (d X c σ a)⟩
 rintro a σ' ⟨rfl,a⟩
 obtain⟨τ,d,f⟩:=j X c σ' a;exact⟨⟨τ,d,rfl,f⟩,AE.x_np e,by cases e<;>simp[AE.x]at g⊢⟩
def LoopIs.keep{c a:Nat}{b:Code}{s s':IS}{e:AE}{k:Kp}(g:e≠.normal)(h:LoopIs ev P c a b s e s')(d:cJ k a s'=true)(f:iF s'.ob k.on True):LoopIs ev P c a b s e (yG k s'):=
 h.post g (λ_ a=>(eJ d (jH f).2).inv a) (λ_ a _ c=>(eJ d (jH f).2).wk a c)
def xF(n a:Nat)(b:List (List PV)):List (Nat×V)->List (Nat×V)|[]=>[]|(t,x)::r=>(t,PC n a b x)::xF n a b r
def NE(n a:Nat)(b:List (List PV)):List (Nat×Ob)->List (Nat×Ob)|[]=>[]|(m,o)::r=>if m=n then NE n a b r else(m,MD n a b o)::NE n a b r
def af(n a:Nat)(b:List (List PV)):∀(l:List (Nat×V))(t c:Tr V)(i:Nat),c.get i=(t.get i).map (PC n a b)->(pI (xF n a b l) c).get i=((pI l t).get i).map (PC n a b)
 |[],t,c,i,h=>h|(k,x)::r,t,c,i,h=>by
  refine af n a b r _ _ i ?_;rw[Tr.get_put,Tr.get_put];by_cases e:i=k
  ·rw[if_pos e,if_pos e];rfl
  rw[if_neg e,if_neg e];exact h
def OY(n a:Nat)(c:List (List PV)):∀(l:List (Nat×Ob))(t d:Tr Ob)(i:Nat),(i≠n->d.get i=(t.get i).map (MD n a c))->(i=n->d.get i=none)->(KB (NE n a c l) d).get i=if i=n then none else((KB l t).get i).map (MD n a c)
 |[],t,d,i,h,f=>by
  split
  ·rename_i e;exact f e
  rename_i e;exact h e
 |(k,x)::r,t,d,i,h,f=>by
  simp only[NE,KB];split
  ·rename_i e;refine OY n a c r _ _ i (λb=>?_) f;rw[Tr.get_put,if_neg (λh=>b (h.trans e))];exact h b
  rename_i e;refine OY n a c r _ _ i (λb=>?_) (λb=>?_)
  ·rw[Tr.get_put,Tr.get_put];by_cases g:i=k
   ·rw[if_pos g,if_pos g];rfl
   rw[if_neg g,if_neg g];exact h b
  rw[Tr.get_put,if_neg (λh=>e (h.symm.trans b))];exact f b
def LoopIs.fz{k f:Nat}{b:Code}{s:IS}{e:AE}{d:List (Nat×V)}{c:List (Nat×Ob)}{g:Nat}{j:List Nat}(l:e≠.normal)(h:LoopIs ev P k f b s e ⟨pI d .nil,KB c .nil,g,j⟩)(n:Nat){ver sz ty:Nat}{ps:List (List PV)}(o:Nat.blt n f=false)
  (p:(KB c .nil).get n=some (.arr ver sz ty (kA ps))):LoopIs ev P k f b s e ⟨pI (xF n ver ps d) .nil,KB (NE n ver ps c) .nil,g,j⟩:=by
 have k:nJ f ⟨pI d .nil,KB c .nil,g,j⟩ n=⟨(pI d .nil).map (PC n ver ps),((KB c .nil).put n none).map (MD n ver ps),g,j⟩:=by
  unfold nJ;rw[o,p];simp[cond_false,cK]
 have g:∀i,(pI (xF n ver ps d) .nil).get i=((pI d .nil).map (PC n ver ps)).get i:=λi=>by rw[Tr.get_map];exact af n ver ps d .nil .nil i rfl
 have d:∀i,(KB (NE n ver ps c) .nil).get i=(((KB c .nil).put n none).map (MD n ver ps)).get i:=λi=>by
  rw[Tr.get_map,Tr.get_put,OY n ver ps c .nil .nil i (λ_=>rfl) (λ_=>rfl)];split<;>rfl
 refine h.post l (λ_ c=>?_) (λX _ σ j=>?_)
 ·have:=WX c n;rw[k]at this;exact⟨this.le,λi c l=>(d i).trans (this.same i c l),λi c l=>this.old i c ((d i)▸l),this.names,this.dts⟩
 obtain⟨τ,l,c⟩:=YX (bs:=f) j n;rw[k]at c;exact⟨τ,λC E a w _ f=>l C E a w f,⟨λt=>(c.sl t).trans (by rw[g]),λm=>(c.ob m).trans (d m).symm,c.us⟩⟩
end
section
variable{ev:LA}{P:Program}
structure Reach2(ev:LA)(P:Program)(nt bs:Nat)(c:Code)(s:IS)(k:KT):Prop where
 syn:∃e s' tp,(∀sub,Inv bs sub s->Inv bs sub s')/\k e s' tp
 awp:∀X,HX X ev P nt bs->∀σ,Rel s σ->AWP X c σ λae σ'=>∃e s' tp,ae=AE.x e/\Rel s' σ'/\(∀sub,Inv bs sub s->Inv bs sub s')/\k e s' tp
theorem Reach2.of{d f:Nat}{c:Code}{s a:IS}{e:AE}{b:Di}{k:KT}(h:Reach ev P d f c s e a)(g:k e a b):Reach2 ev P d f c s k:=
 ⟨⟨e,a,b,h.inv,g⟩,λX d σ f=>AWP.mono (h.awp X d σ f) (by rintro d σ' ⟨rfl,d⟩;exact⟨e,a,b,rfl,d,h.inv,g⟩)⟩
def iJ{call:XB}(p:oF ev P call){N nt bs:Nat}:∀(c:Code)(s:IS)(j:Di)(k:KT),qH ev P call N nt bs c s j k->Reach2 ev P nt bs c s k
 |.seq a b,s,j,k,h=>by
  have E:=iJ p a s j _ h;have t:∀m f,qH ev P call N nt bs b m f k->Reach2 ev P nt bs b m k:=λm f g=>iJ p b m f k g
  refine⟨?_,λX n σ r=>AWP.seq (AWP.mono (E.awp X n σ r) ?_)⟩
  ·obtain⟨e,m,f,z,g⟩:=E.syn
   cases e with
   |normal=>
    obtain⟨e,I,G,H,o⟩:=(t m f g).syn
    grind
   |exit i=>exact⟨.exit i,m,f,z,g⟩|ret=>exact⟨.ret,m,f,z,g⟩
  rintro J σ' ⟨e,m,f,rfl,u,z,g⟩
  cases e with
  |normal=>
   refine AWP.mono ((t m f g).awp X n σ' u) ?_
   grind
  |exit i=>exact⟨.exit i,m,f,rfl,u,z,g⟩|ret=>exact⟨.ret,m,f,rfl,u,z,g⟩
 |.block id b,s,j,k,h=>by
  have t:=iJ p b s j _ h;have key:∀e m f,PQ id k e m f->∃B,k B m f/\∀(Q:yB->St->Prop)σ',Q (AE.x B) σ'->FH id Q (AE.x e) σ':=by
   intro e m f g
   cases e with
   |normal=>exact⟨.normal,g,λQ σ' v=>v⟩|ret=>exact⟨.ret,g,λQ σ' v=>v⟩|exit i=>
    simp only[PQ]at g;split at g
    ·rename_i e;have e:=Nat.eq_of_beq_eq_true e;refine⟨.normal,g,λQ σ' v=>?_⟩;simp only[AE.x,FH,if_pos e];exact v
    rename_i e;have C:¬i=id:=λB=>by rw[JE B]at e;cases e
    refine⟨.exit i,g,λQ σ' v=>?_⟩;simp only[AE.x,FH,if_neg C];exact v
  refine⟨?_,λX n σ r=>AWP.block (AWP.mono (t.awp X n σ r) ?_)⟩
  ·obtain⟨e,m,f,z,g⟩:=t.syn
   grind
  grind
 |.scope b,s,j,k,h=>by
  have t:=iJ p b s j _ h;exact⟨t.syn,λX n σ r=>AWP.scopeT (t.awp X n σ r)⟩
 |.cond c x y,s,j,k,h=>by
  unfold qH at h;split at h
  ·rename_i b t;obtain⟨A,w⟩:=h;have w:=iJ p y s j k w;have A:b=true->Reach2 ev P nt bs x s k:=λe=>iJ p x s j k (A e)
   refine⟨w.syn,λX n σ r=>Ro (v:=.pv (.flg b)) (by rw[r.val,n.gl];exact t) ⟨λe=>(A e).awp X n σ r,w.awp X n σ r⟩⟩
  ·rename_i b t;have F:∀X,HX X ev P nt bs->∀σ,Rel s σ->σ.val X.gl c=.pv (.bool b):=λX n σ r=>by rw[r.val,n.gl];exact t
   split at h
   ·have A:=iJ p x s j k h;exact⟨A.syn,λX n σ r=>AWP.condT (F X n σ r) (λ_=>A.awp X n σ r) (nofun)⟩
   have w:=iJ p y s j k h;exact⟨w.syn,λX n σ r=>AWP.condT (F X n σ r) (nofun) (λ_=>w.awp X n σ r)⟩
  exact h.elim
 |.skip,s,j,k,h=>by obtain⟨e,m,f,g,o⟩:=oC p .skip s j k h;exact .of g o|.exit id,s,j,k,h=>by obtain⟨e,m,f,g,o⟩:=oC p (.exit id) s j k h;exact .of g o|.ret,s,j,k,h=>by obtain⟨e,m,f,g,o⟩:=oC p .ret s j k h;exact .of g o|.region id D d,s,j,k,h=>by obtain⟨e,m,f,g,o⟩:=oC p (.region id D d) s j k h;exact .of g o|.loop b,s,j,k,h=>by obtain⟨e,m,f,g,o⟩:=oC p (.loop b) s j k h;exact .of g o|.label l,s,j,k,h=>by obtain⟨e,m,f,g,o⟩:=oC p (.label l) s j k h;exact .of g o|.rangeFunc a b c d,s,j,k,h=>by obtain⟨e,m,f,g,o⟩:=oC p (.rangeFunc a b c d) s j k h;exact .of g o|.goto l,s,j,k,h=>by obtain⟨e,m,f,g,o⟩:=oC p (.goto l) s j k h;exact .of g o|.refuse l,s,j,k,h=>by obtain⟨e,m,f,g,o⟩:=oC p (.refuse l) s j k h;exact .of g o
def PY:∀args:List PV,BA (args.map V.pv)=[]|[]=>rfl|a::l=>by show []++BA (l.map V.pv)=[];rw[PY l];rfl
open Classical in
noncomputable def TQ (nt bs:Nat)(c:Code)(s:IS)(K:AE->IS->Option GB)(r:GB):oO:=λ nt' bs' c' s1 k=>if nt'=nt/\bs'=bs/\c'=c/\s1=s/\k=K then some r else none
def ur(I:kG ev P){N n f:Nat}{args:List PV}{J:Di}{d:Kp}{x:PV}(h:FY ev P N n f args J d x):AC P ev.gl f (args.map .pv) [] (.ret (.pv x)) []:=by
 unfold FY at h;split at h
 ·rename_i fn Q;split at h
  ·rename_i c R;obtain⟨hl,h⟩:=HB h;let o:IS:=⟨yE 0 (args.map .pv) .nil,.nil,0,[]⟩;let K:=iO ev.T 0 .nil fn.results.toList;let r:GB:=⟨.pv x,[],[],d.nx⟩;have L:=iJ (OH I N n) (nt:=fn.ntmps) (bs:=0) c o J _ h;have b:∀e g,gd (cJ d 0 g) (iF g.ob d.on (K e (yG d g)=some r))->KpOK d 0 g/\K e (yG d g)=some r:=by
    grind[HB,jH,eJ]
   have S:Good ev P (TQ fn.ntmps 0 c o K r):=by
    refine⟨λs t T g k U a sub u=>?_,λs t T g k U a X W v w y z sub σ i u=>?_⟩
    ·unfold TQ at a;split at a
     ·rename_i A;obtain⟨rfl,rfl,rfl,rfl,rfl⟩:=A;cases a;obtain⟨e,B,C,D,j⟩:=L.syn;obtain⟨m,E⟩:=b e B j;exact⟨e,_,m.inv (D sub u),E⟩
     cases a
    unfold TQ at a;split at a
    ·rename_i A;obtain⟨rfl,rfl,rfl,rfl,rfl⟩:=A;cases a;have M:HX X ev P fn.ntmps 0:=⟨W,v,w,y,z⟩;refine AWP.postX (L.awp X M σ i) ?_
     rintro ae σ' ⟨e,B,C,rfl,F,D,j⟩
     obtain⟨m,E⟩:=b e B j;obtain⟨τ,Y,Z⟩:=m.wk M F;exact⟨⟨τ,Y,e,_,rfl,Z,m.inv (D sub u),E⟩,AE.x_np e⟩
    cases a
   have l:SM ev (TQ fn.ntmps 0 c o K r) fn c (args.map .pv) 0 .nil=some r:=by
    unfold SM TQ
    grind
   have hn:BA (args.map V.pv)=[]:=by
    simp[PY]
   have G:reach 0 .nil 1000000 (BA (args.map V.pv)) .nil []=some (.nil,[]):=by rw[hn];rfl
   obtain⟨ro,O,H⟩:=oT (s:=⟨.nil,.nil,0,[]⟩) S I Q R (by simp_all) G l;have h1:ro=[]:=by
    cases ro with|nil=>rfl|cons p r=>have:=H.subs p (by simp);cases this
   have j:O=[]:=by
    cases O with|nil=>rfl|cons p r=>have:=H.subs p (by simp);cases this
   have:=H.ac;rw[h1,j]at this;exact this
  simp_all
 simp_all
end
def cf(a:Nat)(o:Oper):Bool:=match o.op with
 |.panic _=>Nat.beq 99999 a|_=>match o.dst with|some d=>Nat.beq d a|none=>false
def br:PV->Bool|.iface _ _=>true|_=>false
def RT(a:LA)(P:Program)(b:Nat)(o:Oper)(s:IS)(c:Di)(p:PV)(k:List Nat->Prop):Prop:=match o.guard with
 |some _=>False|none=>gd (xO b o.dst) (match NC (s.val a.gl) o.op with
  |some (f,args)=>match WK (DT o.dst) c with|some (.r _,_)=>AC P a.gl f (wA args) [] (.panic p) []/\k []|some (.o ro _ _,_)=>gd (uG ro) (DO s.ob ro λl=>AC P a.gl f (wA args) l (.panic p) []/\k ro)|_=>False
  |none=>match o.op with|.panic x=>s.val a.gl x=.pv p/\gd (br p) (k [])|_=>False)
def UQ(b:LA)(P:Program)(call:XB)(c d:Nat)(all:List Oper)(e:Nat)(p:PV):List Oper->IS->Di->(IS->List Nat->Prop)->Prop
 |[],_,_,_=>False|o::r,s,a,k=>match cf e o with|true=>RT b P c o s a p (k s)|false=>ET b P call c d all o s a λf _ a=>UQ b P call c d all e p r f a k
def jN(a:Nat):List Oper->Nat->Nat|[],i=>i|o::r,i=>bif cf a o then i else jN a r (i+1)
def xf(a:List Oper)(jp:Nat)(b:List Bool):Bool:=(List.range a.length).all λi=>match a[i]? with|some o=>(b.getD i false)==(!(Nat.beq i jp)&&(eF o).all λd=>b.getD d false)|none=>false
def ST(jp:Nat):List Oper->Nat->List Bool->List Bool|[],_,a=>a|o::r,i,a=>ST jp r (i+1) (a++[!(Nat.beq i jp)&&(eF o).all λd=>a.getD d false])
def LO(a:LA)(P:Program)(call:XB)(c e:Nat)(all:List Oper)(jp:Nat)(p:PV)(f:List Bool):Nat->List Oper->IS->List Tc->Di->(List Tc->Prop)->Prop
 |_,[],_,d,_,k=>k d|i,o::r,s,d,b,k=>match Nat.beq i jp with
  |true=>match NC (s.val a.gl) o.op with|some _=>RT a P c o s b p λro=>LO a P call c e all jp p f (i+1) r s (⟨[],ro⟩::d) b k|none=>False
  |false=>match f.getD i false with|true=>ET a P call c e all o s b λg h b=>LO a P call c e all jp p f (i+1) r g (h::d) b k|false=>LO a P call c e all jp p f (i+1) r s (⟨[],[]⟩::d) b k
def Af(e:LA)(P:Program)(call:XB)(f d:Nat)(a:List Oper)(c:Bool)(b:Nat)(p:PV)(s:IS)(g:Di):Prop:=match c with
 |false=>UQ e P call f d a b p a (sJ d (NH a) s) g λ_ _=>True|true=>gd (JQ a) (gd (Nat.blt (jN b a 0) a.length) (gd (xf a (jN b a 0) (ST (jN b a 0) a 0 []))
   (LO e P call f d a (jN b a 0) p (ST (jN b a 0) a 0 []) 0 a (sJ d (NH a) s) [] g λb=>match rJ b with|true=>True|false=>gd (TM a b.reverse) True)))
def oJ(r:Nat):Code->Bool|.region id _ _=>Nat.beq id r|.seq a b=>bif oJ r a then true else oJ r b|.block _ b=>oJ r b|.scope b=>oJ r b|.cond _ a b=>bif oJ r a then true else oJ r b|_=>false
def sI(g:LA)(P:Program)(call:XB)(N h i rg j:Nat)(p:PV):Code->IS->Di->Prop
 |.seq a b,s,f=>match oJ rg a with
  |true=>sI g P call N h i rg j p a s f|false=>AD g P call N h i a s f λe s f=>match e with|.normal=>sI g P call N h i rg j p b s f|_=>False
 |.block _ b,s,f=>sI g P call N h i rg j p b s f|.scope b,s,f=>sI g P call N h i rg j p b s f|.cond c x y,s,f=>match s.val g.gl c with
  |.pv (.bool b)=>match b with|true=>sI g P call N h i rg j p x s f|false=>sI g P call N h i rg j p y s f
  |_=>False
 |.region _ k d,s,f=>Af g P call h i k.toList d j p s f|_,_,_=>False
def QY(b:LA)(P:Program)(N n f:Nat)(args:List V)(a:List (Nat×Ob))(m rg d:Nat)(e:Di)(p:PV):Prop:=match b.F f with
 |some fn=>match fn.body with
  |some c=>gd (Nat.ble args.length fn.ntmps) (gd (uG (kC a)) (gd (ZG m (kC a)) (gd (XK (BA args) (kC a)) (gd (XK (lC a) (kC a))
   (sI b P (dG b P N n) N fn.ntmps m rg d p c ⟨yE 0 args .nil,KB a .nil,m,[]⟩ e)))))
  |none=>False
 |none=>False
section
variable{ev:LA}{P:Program}
structure Bf(ev:LA)(P:Program)(o:Oper)(s:IS)(p:PV)(ro:List Nat)(f:Nat)(args:List V)(l:List (Nat×Ob)):Prop where
 g:o.guard=none
 fe:NC (s.val ev.gl) o.op=some (f,args)
 ac:AC P ev.gl f args l (.panic p) []
 ks:jA l=ro
 ob:∀q∈l,s.ob.get q.1=some q.2
def Cf{g:Nat}{o:Oper}{s:IS}{i:Di}{p:PV}{k:List Nat->Prop}(h:RT ev P g o s i p k):xO g o.dst=true/\((∃ro f args l,Bf ev P o s p ro f args l/\k ro)\/(NC (s.val ev.gl) o.op=none/\o.guard=none/\∃x t q,o.op=.panic x/\p=.iface t q/\s.val ev.gl x=.pv p/\k [])):=by
 unfold RT at h;split at h
 ·simp_all
 rename_i b;obtain⟨j,h⟩:=HB h;refine⟨j,?_⟩;split at h
 ·rename_i f args a;refine .inl ?_;split at h
  ·exact⟨[],f,args,[],⟨b,a,h.1.wA,rfl,λq m=>by cases m⟩,h.2⟩
  ·rename_i ro _ _ _ _;obtain⟨_,h⟩:=HB h;obtain⟨l,c,d,e,n⟩:=JT h;exact⟨ro,f,args,l,⟨b,a,e.wA,c,d⟩,n⟩
  exact h.elim
 rename_i a;split at h
 ·rename_i x r;obtain⟨c,h⟩:=h;obtain⟨d,e⟩:=HB h
  cases p with|iface t q=>exact .inr ⟨a,b,x,t,q,r,rfl,c,e⟩|_=>cases d
 exact h.elim
def dr{σ:St}{s:IS}{l:List (Nat×Ob)}(a:Rel s σ):∀n,n∉jA l->zA (σ.eff none (MC .undef l [])).objs n=s.ob.get n:=λn b=>by
 rw[<-a.ob];show zA (aF σ.objs (WG l [])) n=_;rw[bI];simp only[zA,if_neg b]
def RY{call:XB}(D:oF ev P call){b c:Nat}{all:List Oper}{g:Nat}{p:PV}{k:IS->List Nat->Prop}:∀(l:List Oper){s:IS}{m:Di},UQ ev P call b c all g p l s m k->
  ∀X,HX X ev P b c->∀{C:Ctx}{Q:Exit->Act->World->Prop},(∀E τ a w v,Ga C E τ a w->RepP E.H p v->(∃s ro,k s ro/\(∀n,n∉ro->zA τ.objs n=s.ob.get n)/\∀t,IA τ.slots t=(match s.sl.get t with|some v=>v|none=>.undef))->Q (.panic [{v,recovered:=false}]) a w)->
  ∀{E:Env}{σ:St}{a:Act}{w:World},dI X C->Rel s σ->Ga C E σ a w->wpList X.P all.toArray Q l a w
 |[],_,_,h,_,_,_,_,_,_,_,_,_,_,_,_=>h.elim|o::r,s,m,h,X,b,C,Q,i,E,σ,a,w,j,g,y=>by
  unfold UQ at h;split at h
  ·obtain⟨m,h⟩:=Cf h;have c:∀d,o.dst=some d->d<C.nt:=by
    have:=RQ m b.nt;intro d e;rw[j.nt];rw[e]at this;exact this
   have F:BM ((jA ([]:List (Nat×Ob))).filter λn=>(zA ([]:List (Nat×Ob)) n).isNone) σ.used:=by simp[jA,BM]
   have key:∀m:PV->St->Prop,(∀q τ,m q τ->q=p/\∃s ro,k s ro/\(∀n,n∉ro->zA τ.objs n=s.ob.get n)/\∀t,IA τ.slots t=(match s.sl.get t with|some v=>v|none=>.undef))->o.guard=none->dO X false m o σ (λ_=>False)->wpList X.P all.toArray Q (o::r) a w:=λm m z h=>by
    unfold wpList;rw[if_pos (by simp[Region.wanted,z])];exact .inl (Bo X.ok j.glob y c (λ_ _ _ _ h=>h.elim) (λE τ q v a w y c A=>by
     obtain⟨e,u⟩:=m q τ c;exact i E τ a w v y (e▸A) u) h)
   rcases h with ⟨ro,f,args,l,m,B⟩|⟨C,z,x,t,q,G,rfl,A,B⟩
   ·refine key (λq τ=>q=p/\τ=σ.eff none (MC .undef l [])) (λq τ c=>⟨c.1,s,ro,B,c.2▸m.ks▸dr g,c.2▸g.sl⟩) m.g ?_;have u:NC (σ.val X.gl) o.op=some (f,args):=by rw[g.val,b.gl];exact m.fe
    unfold dO;rw[u];exact⟨l,.panic p,[],(by rw[b.P,b.gl];exact m.ac),(VM λq c=>by rw[g.ob];exact m.ob q c),F,rfl,rfl,rfl⟩
   refine key (λm τ=>m=.iface t q/\τ=σ) (λm τ c=>⟨c.1,s,[],B,λn _=>c.2▸g.ob n,c.2▸g.sl⟩) z ?_;have u:NC (σ.val X.gl) o.op=none:=by rw[g.val,b.gl];exact C
   have c:σ.val X.gl x=.pv (.iface t q):=by rw[g.val,b.gl];exact A
   unfold dO;rw[u];simp only[rQ,G,c,vX,and_self]
  obtain⟨m,m,m,u,c⟩:=JY D h;obtain⟨e,m,p,_⟩:=u.ok X b.P b.T b.gl b.nt σ g;exact Ie X.ok j.glob j.nt m y λg g g g=>RY D r c X b i j p g
inductive OpsL(ev:LA)(P:Program)(nt bs:Nat)(all:List Oper)(jp:Nat)(p:PV)(lv:List Bool):Nat->List Oper->IS->List Tc->List Tc->Prop|nil (i:Nat) (s:IS) (tr:List Tc):OpsL ev P nt bs all jp p lv i [] s tr tr|pan {o:Oper} {l:List Oper} {s:IS} {tr tr2:List Tc} {ro:List Nat} {f:Nat} {args:List V} {m:List (Nat×Ob)} (h:Bf ev P o s p ro f args m) (h':OpsL ev P nt bs all jp p lv (jp+1) l s (⟨[],ro⟩::tr) tr2) (hj:lv.getD jp false=false):OpsL ev P nt bs all jp p lv jp (o::l) s tr tr2|live {i:Nat} {o:Oper} {l:List Oper} {s s1:IS} {tc:Tc} {tr tr2:List Tc} (hi:i≠jp) (hl:lv.getD i false=true) (h:NT ev P nt bs all o s s1 tc) (h':OpsL ev P nt bs all jp p lv (i+1) l s1 (tc::tr) tr2):OpsL ev P nt bs all jp p lv i (o::l) s tr tr2|skip {i:Nat} {o:Oper} {l:List Oper} {s:IS} {tr tr2:List Tc} (hi:i≠jp) (hl:lv.getD i false=false) (h':OpsL ev P nt bs all jp p lv (i+1) l s (⟨[],[]⟩::tr) tr2):OpsL ev P nt bs all jp p lv i (o::l) s tr tr2
def UT{call:XB}(g:oF ev P call){x y:Nat}{all:List Oper}{jp:Nat}{p:PV}{t:List Bool}(j:t.getD jp false=false){k:List Tc->Prop}:∀(l:List Oper)(i:Nat){s:IS}{b:List Tc}{u:Di},LO ev P call x y all jp p t i l s b u k->∃a,OpsL ev P x y all jp p t i l s b a/\k a
 |[],i,s,b,u,h=>⟨b,.nil i s b,h⟩|o::r,i,s,b,u,h=>by
  unfold LO at h;split at h
  ·rename_i e;obtain rfl:=Nat.eq_of_beq_eq_true e;split at h
   ·obtain⟨_,⟨ro,f,args,m,n,v⟩|⟨n,_⟩⟩:=Cf h
    ·obtain⟨a,c,d⟩:=UT g j r _ v;exact⟨a,.pan n c j,d⟩
    simp_all
   simp_all
  rename_i e;have z:i≠jp:=λA=>by rw[JE A]at e;cases e
  split at h
  ·rename_i w;obtain⟨C,D,B,n,v⟩:=JY g h;obtain⟨a,c,d⟩:=UT g j r _ v;exact⟨a,.live z w n c,d⟩
  rename_i w;obtain⟨a,c,d⟩:=UT g j r _ h;exact⟨a,.skip z w c,d⟩
abbrev qF(lv:List Bool)(n:Nat):Nat->Bool:=λm=>lv.getD m false&&decide (m<n)
def OpsL.ok{nt bs:Nat}{all:List Oper}{jp:Nat}{p:PV}{lv:List Bool}{X:Env1}(hP:X.P=P)(hXT:X.T=ev.T)(hgl:X.gl=ev.gl)(hnt:X.nt=nt){i:Nat}{l:List Oper}{s:IS}{tr tr2:List Tc}(h:OpsL ev P nt bs all jp p lv i l s tr tr2):∀{σ:St},Rel s σ->
  ∃es tcs,es.length=l.length/\tr2=tcs.reverse++tr/\TcsOK es tcs/\∀j o e,l[j]? =some o->es[j]? =some e->
   (lv.getD (i+j) false=true->dJ X all o (EA (qF lv (i+j)) i (zB l es) σ) e)/\
   (i+j=jp->o.guard=none/\∃f args m,NC ((EA (qF lv jp) i (zB l es) σ).val X.gl) o.op=some (f,args)/\AC P ev.gl f args m (.panic p) []/\lB m (EA (qF lv jp) i (zB l es) σ).objs/\e=⟨.undef,[],[],jA m⟩):=by
 have base:∀(i n:Nat)(l:List (Option Nat×Eff))(σ:St),n<=i->EA (qF lv n) i l σ=σ:=λi n l σ h=>sX l i σ λm hm=>by grind
 have cons:∀{i:Nat}{o:Oper}{l:List Oper}{e:Eff}{tc:Tc}{σ σ1:St}{tr tr2:List Tc},nI e tc->(∀n es,i<n->EA (qF lv n) i (zB (o::l) (e::es)) σ=EA (qF lv n) (i+1) (zB l es) σ1)->
   ((lv.getD i false=true->dJ X all o σ e)/\(i=jp->o.guard=none/\∃f args m,NC (σ.val X.gl) o.op=some (f,args)/\AC P ev.gl f args m (.panic p) []/\lB m σ.objs/\e=⟨.undef,[],[],jA m⟩))->
   (∃es tcs,es.length=l.length/\tr2=tcs.reverse++tc::tr/\TcsOK es tcs/\∀j o e,l[j]? =some o->es[j]? =some e->
    (lv.getD (i+1+j) false=true->dJ X all o (EA (qF lv (i+1+j)) (i+1) (zB l es) σ1) e)/\
    (i+1+j=jp->o.guard=none/\∃f args m,NC ((EA (qF lv jp) (i+1) (zB l es) σ1).val X.gl) o.op=some (f,args)/\AC P ev.gl f args m (.panic p) []/\lB m (EA (qF lv jp) (i+1) (zB l es) σ1).objs/\e=⟨.undef,[],[],jA m⟩))->
   ∃es tcs,es.length=(o::l).length/\tr2=tcs.reverse++tr/\TcsOK es tcs/\∀j o' e,(o::l)[j]? =some o'->es[j]? =some e->
    (lv.getD (i+j) false=true->dJ X all o' (EA (qF lv (i+j)) i (zB (o::l) es) σ) e)/\
    (i+j=jp->o'.guard=none/\∃f args m,NC ((EA (qF lv jp) i (zB (o::l) es) σ).val X.gl) o'.op=some (f,args)/\AC P ev.gl f args m (.panic p) []/\lB m (EA (qF lv jp) i (zB (o::l) es) σ).objs/\e=⟨.undef,[],[],jA m⟩):=by
  rintro i o l e tc σ σ1 tr tr2 ht hf h0 ⟨es,tcs,h1,h2,h3,h4⟩
  refine⟨e::es,tc::tcs,by simp[h1],by simp[h2],h3.cons ht,λj o' e' ho he=>?_⟩
  cases j with
  |zero=>
   simp only[List.getElem?_cons_zero,Option.some.injEq]at ho he;subst ho he;rw[Nat.add_zero,base i i _ _ (Nat.le_refl _)];refine⟨h0.1,λhi=>?_⟩;subst hi;rw[base i i _ _ (Nat.le_refl _)];exact h0.2 rfl
  |succ j=>
   simp only[List.getElem?_cons_succ]at ho he;have:=h4 j o' e' ho he;rw[show i+(j+1)=i+1+j by omega,hf _ _ (by omega)];refine⟨this.1,λhi=>?_⟩;rw[hf _ _ (by omega)];exact this.2 hi
 induction h with
 |nil i s tr=>intro σ _;exact⟨[],[],rfl,rfl,by simp[TcsOK],λj o e h=>by simp at h⟩|@pan o l s tr tr2 ro f args m hp _ hj ih=>
  intro σ hR;have hk:=hp.ks;refine cons (i:=jp) (e:=⟨.undef,[],[],jA m⟩) (tc:=⟨[],ro⟩) (σ1:=σ) ⟨by simp[Eff.wn],by simp[hk]⟩ (λn es hn=>?_) ⟨λh=>(by rw[hj]at h;cases h),λ_=>⟨hp.g,f,args,m,by rw[hR.val,hgl];exact hp.fe,hp.ac,VM λq hq=>by rw[hR.ob];exact hp.ob q hq,rfl⟩⟩ (ih hR);simp only[zB,List.map_cons,List.zip_cons_cons,EA,qF,hj,Bool.false_and,Bool.false_eq_true,if_false]
 |@live i o l s s1 tc tr tr2 hi hl h1 _ ih=>
  intro σ hR;obtain⟨e,h2,h3,h4⟩:=h1.ok X hP hXT hgl hnt σ hR;refine cons (i:=i) (e:=e) (tc:=tc) (σ1:=σ.eff o.dst e) h4 (λn es hn=>?_) ⟨λ_=>h2,λh=>absurd h hi⟩ (ih h3);simp only[zB,List.map_cons,List.zip_cons_cons,EA,qF,hl,Bool.true_and,decide_eq_true hn,if_true]
 |@skip i o l s tr tr2 hi hl _ ih=>
  intro σ hR;refine cons (i:=i) (e:=OC) (tc:=⟨[],[]⟩) (σ1:=σ) ⟨by simp[OC,Eff.wn],by simp[OC]⟩ (λn es hn=>?_) ⟨λh=>(by rw[hl]at h;cases h),λh=>absurd h hi⟩ (ih hR);simp only[zB,List.map_cons,List.zip_cons_cons,EA,qF,hl,Bool.false_and,Bool.false_eq_true,if_false]
def lr{call:XB}(B:oF ev P call){g c id:Nat}{b:Array Oper}{d:Bool}{n:Nat}{p:PV}{s:IS}{j:Di}(h:Af ev P call g c b.toList d n p s j):∀X,HX X ev P g c->∀σ,Rel s σ->AWP X (.region id b d) σ λu _=>u=.panic p:=by
 intro X j σ g;obtain⟨σ0,l,x⟩:=xT (bs:=c) (NH b.toList) g;refine AWP.wk l ?_
 cases d with
 |false=>
  intro C E a w z l;refine wp_region_list ?_;have:=RY B _ h X j (Q:=fJ C λu _=>u=.panic p) (λE τ a w v l A _=>⟨E,τ,.panic p,l,⟨v,rfl,A⟩,rfl⟩) z x l;omega
 |true=>
  obtain⟨I,h⟩:=HB h;obtain⟨g,h⟩:=HB h;obtain⟨c,h⟩:=HB h;generalize t:jN n b.toList 0=jp at g c h;generalize ST jp b.toList 0 []=y at c h;have g:jp<b.toList.length:=by rwa[Nat.blt_eq]at g
  have J:∀i o,b.toList[i]? =some o->(y.getD i false=true↔i≠jp/\∀d∈eF o,y.getD d false=true):=λi o t=>by
   unfold xf at c;have:=List.all_eq_true.1 c i (by have:=(List.getElem?_eq_some_iff.1 t).1;simp_all);rw[t]at this;simp only[beq_iff_eq]at this;have c:Nat.beq i jp=decide (i=jp):=by
    grind[JE,decide_eq_true,JK,decide_eq_false]
   rw[this,c];simp
  have n:y.getD jp false=false:=by
   cases e:y.getD jp false with|false=>rfl|true=>simp_all
  obtain⟨c,H,D⟩:=UT B n _ _ h;obtain⟨D,B,F,B,K,G⟩:=H.ok j.P j.T j.gl j.nt x;have H:rJ c=true\/TM b.toList c.reverse=true:=by
   grind[HB]
  rw[List.append_nil]at B;have x:EK b.toList D=true:=Ke I (by rw[B,List.reverse_reverse]at H;exact H) F K;intro C E a w z l;refine wp_region_any X.mix ?_;have B:Ga C E σ0 a {w with drawn:=w.drawn+1}:=l.drew;have c:∀i,(Array.replicate b.size false).getD i false=false:=by
   intro i;rw[Array.getD_eq_getD_getElem?,Array.getElem?_replicate];split<;>rfl
  have H:∀(r:List (Option Nat×Eff))(k:Nat)(s:St),EA (λm=>(Array.replicate b.size false).getD m false) k r s=s:=λr k s=>sX r k s λi _=>c i
  have:=md (X:=X) (C:=C) (Q:=fJ C λu _=>u=.panic p) X.ok z.glob z.nt F (L:=λm=>y.getD m false) (jp:=jp) J (λi o e u t y=>by
   have:=(G i o e t y).1;rw[Nat.zero_add]at this;exact this u) x (λh=>absurd g (Nat.not_lt_of_le h)) (λop t=>by
   obtain⟨g,f,args,m,u,x,y,z⟩:=(G jp op D[jp] t (List.getElem?_eq_getElem (by omega))).2 (Nat.zero_add _);refine⟨g,f,args,m,p,u,by rw[j.P,j.gl];exact x,y,by rw[<-z];exact List.getElem?_eq_getElem _,λE τ a w v l A=>⟨E,τ,.panic p,l,⟨v,rfl,A⟩,rfl⟩⟩) b.size (Array.replicate b.size false) E a _ (by simp) (by simp) (λj n=>by rw[c]at n;cases n) (λj n=>by rw[c]at n;cases n) (by rw[H];exact B)
  omega
def wN{call:XB}(j:oF ev P call){N n o rg u:Nat}{p:PV}:∀(c:Code)(s:IS)(g:Di),sI ev P call N n o rg u p c s g->∀X,HX X ev P n o->∀σ,Rel s σ->AWP X c σ λk _=>k=.panic p
 |.seq a b,s,g,h,X,f,σ,i=>by
  unfold sI at h;split at h
  ·refine AWP.seq (AWP.mono (wN j a s g h X f σ i) ?_)
   rintro k σ' rfl
   exact rfl
  obtain⟨e,v,l,w,r⟩:=oC j a s g _ h;refine AWP.seq (AWP.mono (w.awp X f σ i) ?_)
  rintro k σ' ⟨rfl,m⟩
  cases e with|normal=>exact wN j b v l r X f σ' m|_=>exact r.elim
 |.block id b,s,g,h,X,f,σ,i=>by
  refine AWP.block (AWP.mono (wN j b s g h X f σ i) ?_)
  rintro k σ' rfl
  exact rfl
 |.scope b,s,g,h,X,f,σ,i=>AWP.scopeT (wN j b s g h X f σ i)|.cond c x y,s,g,h,X,f,σ,i=>by
  unfold sI at h;split at h
  ·rename_i b z;have t:σ.val X.gl c=.pv (.bool b):=by rw[i.val,f.gl];exact z
   split at h
   ·exact AWP.condT t (λ_=>wN j x s g h X f σ i) (nofun)
   exact AWP.condT t (nofun) (λ_=>wN j y s g h X f σ i)
  exact h.elim
 |.region id A d,s,g,h,X,f,σ,i=>lr j h X f σ i|.skip,_,_,h,_,_,_,_=>h.elim|.exit _,_,_,h,_,_,_,_=>h.elim|.ret,_,_,h,_,_,_,_=>h.elim|.loop _,_,_,h,_,_,_,_=>h.elim|.label _,_,_,h,_,_,_,_=>h.elim|.rangeFunc _ _ _ _,_,_,h,_,_,_,_=>h.elim|.goto _,_,_,h,_,_,_,_=>h.elim|.refuse _,_,_,h,_,_,_,_=>h.elim
def SY{args:List V}{objs:List (Nat×Ob)}{m:Nat}(a:(jA objs).Nodup)(b:∀n∈jA objs,n<m):Rel ⟨yE 0 args .nil,KB objs .nil,m,[]⟩ ⟨vE 0 args,objs,jA objs⟩:=by
 refine⟨λt=>?_,λn=>?_,b⟩
 ·rw[aQ,bY];simp only[Nat.zero_le,if_true,Nat.sub_zero,true_and,Nat.zero_add,Tr.get_nil]
  grind
 rw[KO objs _ a];cases zA objs n<;>rfl
def VT(d:kG ev P){N n f m rg o:Nat}{args:List V}{a:List (Nat×Ob)}{l:Di}{p:PV}(h:QY ev P N n f args a m rg o l p):AC P ev.gl f args a (.panic p) []:=by
 unfold QY at h;split at h
 ·rename_i fn r;split at h
  ·rename_i c s;obtain⟨t,h⟩:=HB h;obtain⟨g,h⟩:=HB h;obtain⟨e,h⟩:=HB h;obtain⟨i,h⟩:=HB h;obtain⟨j,h⟩:=HB h;rw[fG]at g e i j;have g:=HO g;have e:=ZM e;have i:=qN i;have j:=qN j;obtain⟨k,b⟩:=d.F f fn r;let X:Env1:=⟨P,ev.T,ev.gl,[],fn.ntmps,jA a,d.T,d.mix⟩;have u:HX X ev P fn.ntmps m:=⟨rfl,rfl,rfl,rfl,e⟩;refine AC.of_body (X:=X) d.T k s b rfl (ms:=[]) (by simp[X]) (Nat.le_of_ble_eq_true t) (UM (by simp)) (by simp) (by simp) (UM λn v=>?_) (UM (by simp[Out.names,lC,jA,KC])) ?_
   ·grind
   rw[List.append_nil];refine AWP.mono (wN (OH d N n) c _ l h X u _ (SY g e)) ?_
   rintro w σ' rfl
   exact⟨rfl,trivial⟩
  simp_all
 simp_all
end
end Go.Lg
