/- The engine that computes runs; no conditions. -/
import Derived.Test.YtjobiknipefjdaaGreatDoorSolB1
import Derived.Test.YtjobiknipefjdaaGreatDoorSolA4
import Derived.Scope
set_option linter.all false
namespace Go.Lg
structure Kp where
 sl:List Nat
 on:List Nat
 nx:Nat
 dt:List Nat
inductive De where|r (x:PV)|d (n:Nat) (o:Ob) (x:V)|c (r:GB) (ks:List Nat)|o (ro:List Nat) (ch:List (Nat×Ob)) (x:V)|i (e:List PV)|ok|z (n:Nat)|y (z:Int)|v (p:PV)|s|fb (n:Nat) (b:Option Bool)|b (v:Bool)|l (k:Kp) (e:AE) (s:IS)|n (tp:List (Nat×De))|f (n:Nat) (ps:List (List PV))|w (r:RB)|g
abbrev De.T:De:=.r (.bool true)
abbrev De.F:De:=.r (.bool false)
abbrev De.G:De:=.b true
abbrev De.H:De:=.b false
abbrev De.U(l:List PV):De:=.r (.tuple l)
abbrev Di:=List (Nat×De)
def oK(n:Nat):Di->Option (De×Di)
 |[]=>none|p::r=>match p with
  |(m,e)=>bif Nat.beq m n then some (e,r)else(match oK n r with
   |some (x,a)=>some (x,(m,e)::a)|none=>none)
def qI:List (Nat×V)->Tr V->Tr V|[],t=>t|(n,x)::r,t=>qI r (t.put n (some x))
def HB:List (Nat×Ob)->Tr Ob->Tr Ob|[],t=>t|(n,x)::r,t=>HB r (t.put n (some x))
def wJ{α:Type}(s:Tr α):List Nat->Tr α->Tr α|[],t=>t|n::r,t=>wJ s r (t.put n (s.get n))
def EG(k:Kp)(s:IS):IS:=⟨wJ s.sl k.sl .nil,wJ s.ob k.on .nil,k.nx,k.dt⟩
def FG(m:Nat):List Nat->Bool|[]=>true|n::r=>bif Nat.blt n m then FG m r else false
def fY(m:Nat)(s:Tr V):List Nat->Bool
 |[]=>true|t::r=>bif (match s.get t with
  |some v=>FG m v.names|none=>true)then fY m s r else false
def gY(m:Nat)(s:Tr Ob):List Nat->Bool
 |[]=>true|n::r=>bif Nat.blt n m then(bif (match s.get n with
  |some (.arr _ _ _ _)=>true|some (.smap _ _)=>true|some o=>FG m o.names|none=>true)then gY m s r else false)else false
def TF(s:Tr Ob):List Nat->Prop->Prop
 |[],R=>R|n::r,R=>match s.get n with|some (.arr _ _ _ a)=>wB a=[]/\TF s r R|some (.smap _ a)=>DC a=[]/\TF s r R|_=>TF s r R
def xK(l m:List Nat):Bool:=match l with|[]=>true|n::r=>bif zD m n then xK r m else false
def yq{α:Type}:Option α->Bool|none=>true|some _=>false
def hY(a:List Nat)(s:Tr Ob):Nat->Bool|0=>true|n+1=>bif (bif zD a n then true else yq (s.get n))then hY a s n else false
def AK(k:Kp)(a:Nat)(s:IS):Bool:=
 bif Nat.ble a k.nx then(bif fY k.nx s.sl k.sl then(bif gY k.nx s.ob k.on then(bif hY k.on s.ob a then(bif xK s.dt k.dt then FG a k.dt else false)else false)else false)else false)else false
def wl(f:PV->PV):List PV->List PV|[]=>[]|c::r=>f c::wl f r
def PV.w:Nat->PV->PV
 |0,p=>p|n+1,p=>match p with|.nils=>.slice []|.agg a=>.agg (wl (PV.w n) a)|.tuple a=>.tuple (wl (PV.w n) a)|p=>p
def wE(n:Nat):List (List PV)->List (List PV)|[]=>[]|e::r=>wl (PV.w n) e::wE n r
def wV:V->V|.pv p=>.pv (PV.w 4 p)|x=>x
def wG:V->V|.gsl _ _ a=>.pv (.slice a)|x=>x
def uq(a:Option Nat)(op:Op)(b:Di):Option Di:=match op with
 |.move _=>match oK (match a with|some d=>d|none=>99999) b with
  |some (.g,a)=>some a|_=>none
 |_=>none
def wA:List V->List V|[]=>[]|x::r=>wV x::wA r
def EQ(op:Op)(r:RB):RB:=match op with
 |.buildSlice _ _ _=>match r with|⟨.pv (.slice a),none,w⟩=>⟨.pv (.slice (wE 3 a)),none,w⟩|r=>r
 |_=>r
def gd(c:Bool)(P:Prop):Prop:=match c with|true=>P|false=>False
def lY(op:BinOp)(x y:V):Option (Bool×RB):=match x with
 |.pv (.int a)=>match y with
  |.pv (.int b)=>match op with|.add=>some (xA (a+b),⟨.pv (.int (a+b)),none,false⟩)|.sub=>some (xA (a-b),⟨.pv (.int (a-b)),none,false⟩)|.mul=>some (xA (a*b),⟨.pv (.int (a*b)),none,false⟩)|.rem=>some (!fB b 0,⟨.pv (.int (a.tmod b)),none,false⟩)|_=>none
  |_=>none
 |.pv (.num j a)=>match y with
  |.pv (.num c b)=>match op with|.or=>some (bif DG j c then xA (LA .or j a b)else false,⟨.pv (.num j (LA .or j a b)),none,false⟩)|.and=>some (bif DG j c then xA (LA .and j a b)else false,⟨.pv (.num j (LA .and j a b)),none,false⟩)|.sub=>some (bif DG j c then xA (j.wrap (a-b))else false,⟨.pv (.num j (j.wrap (a-b))),none,false⟩)|_=>none
  |.pv (.int n)=>match op with|.shl=>some (bif fA n 0 then false else xA (j.wrap (a*2^(min n.toNat j.bits))),⟨.pv (.num j (j.wrap (a*2^(min n.toNat j.bits)))),none,false⟩)|.shr=>some (bif fA n 0 then false else xA (a.fdiv (2^(min n.toNat j.bits))),⟨.pv (.num j (a.fdiv (2^(min n.toNat j.bits)))),none,false⟩)|_=>none
  |_=>none
 |_=>none
def mY(e:Nat)(b:TI)(a:Nat->Option Ob)(h:Nat)(x y:V):Option (Bool×RB):=match x with
 |.arr n c len=>match a n with
  |some (.arr f g i d)=>match bH y with
   |some a=>some (Nat.beq c f&&Nat.ble len d.length&&Nat.beq i e&&Nat.beq g b.size&&Nat.blt 0 g&&KC g a&&lC a&&Nat.ble (len+a.length) maxLen&&Nat.ble ((len+a.length)*b.bytes) 140737488355328,
    ⟨.arr n (c+1) (len+a.length),some (n,.arr (c+1) g i (d.take len++a)),false⟩)
   |none=>none
  |_=>none
 |.fsl d=>match y with
  |.pv (.slice (y::a))=>some (YB b.size d&&YB b.size (y::a)&&Nat.blt 0 b.size&&Nat.ble (d.length+(y::a).length) maxLen&&Nat.ble ((d.length+(y::a).length)*b.bytes) 140737488355328,
    ⟨.pv (.slice (d++y::a)),none,false⟩)
  |_=>none
 |.pv .nils=>match bH y with
  |some a=>some (Nat.blt 0 b.size&&KC b.size a&&lC a&&Nat.ble a.length maxLen&&Nat.ble (a.length*b.bytes) 140737488355328,
    ⟨.arr h 1 a.length,some (h,.arr 1 b.size e a),true⟩)
  |none=>none
 |_=>none
def nY(b:TI)(c:Nat->Option Ob)(x:V)(a d e:Option V):Option (Bool×V):=match x,a,d,e with
 |.pv (.slice a),some (.pv (.int l)),none,none=>match oE l with|some k=>some (Nat.ble k a.length&&YB b.size a,.pv (.slice (a.drop k)))|none=>none
 |.pv (.slice a),none,some (.pv (.int h)),none=>match oE h with|some k=>some (Nat.ble k a.length,.pv (.slice (a.take k)))|none=>none
 |.arr n b len,none,some (.pv (.int h)),none=>match oE h,c n with|some k,some (.arr c _ _ _)=>some (Nat.beq b c&&Nat.ble k len,.arr n b k)|_,_=>none
 |.pv (.slice a),none,some (.pv (.int h)),some (.pv (.int m))=>match oE h,oE m with|some k,some l=>some (Nat.beq k a.length&&Nat.beq l a.length,.fsl a)|_,_=>none
 |_,_,_,_=>none
def pO(T:Nat->Option TI)(g:Nat)(val:Operand->V)(f:Nat->Option Ob)(op:Op):Option (Bool×RB):=match op with
 |.binOp b t x y _=>match T t with|some _=>lY b (val x) (val y)|none=>none
 |.slice t x h i j=>match T t with
  |some ⟨.slice e,_,_,_,_⟩=>match T e with
   |some d=>match nY d f (val x) (h.map val) (i.map val) (j.map val)with|some (c,v)=>some (c,⟨v,none,false⟩)|none=>none
   |none=>none
  |_=>none
 |.call {callee:=.builtin .append,args,argTypes}=>match argTypes.toList,args.toList with
  |[t,h],[x,y]=>bif Nat.beq t h then(match T t with
    |some ⟨.slice e,_,_,_,_⟩=>match T e with|some d=>mY e d f g (val x) (val y)|none=>none
    |_=>none)else none
  |_,_=>none
 |.call {callee:=.builtin .max,args,argTypes:=_}=>match args.toList with
  |[x,y]=>match val x with
   |.pv (.int a)=>match val y with|.pv (.int b)=>some (true,⟨.pv (.int (bif fA a b then b else a)),none,false⟩)|_=>none
   |_=>none
  |_=>none
 |_=>none
def pY(T:Nat->Option TI)(c:Nat)(val:Operand->V)(op:Op):Option (Bool×RB):=match op with
 |.buildSlice t len parts=>match T t with
  |some ⟨.slice e,_,_,_,_⟩=>match T e with
   |some a=>match jT 0 (parts.toList.map λp=>(p.1,val p.2))with|some b=>some (Nat.beq b.length len&&Nat.ble len 16777216&&Nat.ble (len*a.size) 16777216&&KC a.size b,⟨.arr c 0 len,some (c,.arr 0 a.size e b),true⟩)|none=>none
   |none=>none
  |_=>none
 |_=>none
def rY(T:Nat->Option TI)(c:Nat)(val:Operand->V)(op:Op):Option (Bool×RB):=match op with
 |.call {callee:=.builtin .append,args,argTypes}=>match argTypes.toList,args.toList with
  |[t,a],[x,y]=>bif Nat.beq t a then(match T t with
    |some ⟨.slice e,_,_,_,_⟩=>match T e with
     |some b=>match val x with
      |.pv .nils=>match val y with|.pv (.slice (y::a))=>some (Nat.blt 0 b.size&&YB b.size (y::a)&&lC (kA (y::a))&&Nat.ble (y::a).length maxLen&&Nat.ble ((y::a).length*b.bytes) 140737488355328,⟨.gsl c 1 (y::a),some (c,.grow 1 b.size e (y::a)),true⟩)|_=>none
      |_=>none
     |none=>none
    |_=>none)else none
  |_,_=>none
 |_=>none
def sY(T:Nat->Option TI)(val:Operand->V)(op:Op):Option (List (List PV)×Nat×Nat):=match op with
 |.indexAddr t x i=>match val i with
  |.pv (.int z)=>match oE z with
   |some k=>match T t with
    |some ⟨.slice e,_,_,_,_⟩=>match T e with
     |some a=>match val x with|.pv (.slice b)=>some (b,k,a.size)|_=>none
     |none=>none
    |_=>none
   |none=>none
  |_=>none
 |_=>none
def Ke(q:PV)(y:V):Option Bool:=match q with
 |.nptr a=>match a with
  |c::_=>match c with
   |.flg p=>match y with
    |.pv z=>match z with|.bool b=>some (bif b then p else true)|_=>none
    |_=>none
   |_=>none
  |[]=>none
 |_=>none
def tY(T:Nat->Option TI)(val:Operand->V)(a:Option Nat)(op:Op):Option Bool:=match op with
 |.store t x y=>match a with
  |none=>match T t with
   |some a=>match val x with|.pv q=>bif Nat.beq 1 a.size then Ke q (val y)else none|_=>none
   |none=>none
  |some _=>none
 |_=>none
def eT(b:Bool):List PV->Option (List PV)
 |[]=>none|c::r=>match r with
  |[]=>match c with
   |.bool x=>match x with|false=>some [.flg b]|true=>none
   |_=>none
  |_::_=>match c with
   |.flg _=>none|c=>match eT b r with|some l=>some (c::l)|none=>none
def CM(K:List PV->PV)(n:Nat)(a:List PV)(s:IS):IS:=⟨s.sl.map (VH K n a),(s.ob.put n none).map (YI K n a),s.nx,s.dt⟩
def GQ(a n:Nat)(b:Option Bool)(s:IS):Option IS:=bif Nat.blt n a then none else(match s.ob.get n with
 |some (.box a)=>match tQ a with
  |some a=>match b with
   |none=>some (CM .ptr n (wl (PV.w 4) a) s)|some b=>match eT b a with|some a=>some (CM .nptr n a s)|none=>none
  |none=>none
 |_=>none)
def iT(r:RB)(k:RB->Prop):Prop:=match r with
 |⟨.pv (.bool c),none,w⟩=>match c with|true=>k ⟨.pv (.bool true),none,w⟩|false=>k ⟨.pv (.bool false),none,w⟩
 |r=>k r
def aY(r:RB)(v:Bool)(k:RB->Prop):Prop:=match r with|⟨.pv (.bool c),none,w⟩=>c=v/\k ⟨.pv (.bool v),none,w⟩|_=>False
def oT:Option Nat->Nat|some d=>d|none=>99999
def cY(a:MA)(s:IS)(d:Option Nat)(op:Op)(b:Di)(k:RB->Di->Prop):Prop:=match oK (oT d) b with
 |none=>match jD a.T s.nx (s.val a.gl) s.ob.get d op with
  |some r=>match op with|.binOp _ _ _ _ _=>iT r λr=>k r b|.unOp _ _ _=>iT r λr=>k r b|_=>k r b
  |none=>False
 |some (e,b)=>match e with
  |.ok=>match pO a.T s.nx (s.val a.gl) s.ob.get op with
   |some (c,r)=>c=true/\k r b|none=>match pY a.T s.nx (s.val a.gl) op with|some (c,r)=>c=true/\k r b|none=>False
  |.z n=>match pO a.T s.nx (s.val a.gl) s.ob.get op with
   |some (c,r)=>match r with|⟨.pv (.int z),none,false⟩=>(c=true/\z=.ofNat n)/\k ⟨.pv (.int (.ofNat n)),none,false⟩ b|_=>False
   |none=>False
  |.y y=>match pO a.T s.nx (s.val a.gl) s.ob.get op with
   |some (c,r)=>match r with|⟨.pv (.int z),none,false⟩=>(c=true/\z=y)/\k ⟨.pv (.int y),none,false⟩ b|_=>False
   |none=>False
  |.v p=>match pO a.T s.nx (s.val a.gl) s.ob.get op with
   |some (c,r)=>match r with|⟨.pv q,none,false⟩=>(c=true/\q=p)/\k ⟨.pv p,none,false⟩ b|_=>False
   |none=>False
  |.i x=>match sY a.T (s.val a.gl) op with|some (f,n,z)=>(TB f n=some x/\YB z f=true)/\k ⟨.pv (.ptr x),none,false⟩ b|none=>False
  |.s=>match tY a.T (s.val a.gl) d op with|some c=>c=true/\k ⟨.undef,none,false⟩ b|none=>False
  |.b v=>match jD a.T s.nx (s.val a.gl) s.ob.get d op with|some r=>aY r v λr=>k r b|none=>False
  |.w r=>jD a.T s.nx (s.val a.gl) s.ob.get d op=some r/\k r b|.g=>match rY a.T s.nx (s.val a.gl) op with|some (c,r)=>c=true/\k r b|none=>False
  |_=>False
def jC:List (Nat×Ob)->List Nat|[]=>[]|(n,_)::r=>n::jC r
def UF:List Nat->Bool|[]=>true|n::r=>bif zD r n then false else UF r
def rO(m:List Nat):List Nat->Bool|[]=>true|n::r=>bif zD m n then false else rO m r
def sO{α:Type}:List α->List α->List α|[],l=>l|x::r,l=>x::sO r l
def aO(s:Tr Ob):List Nat->(List (Nat×Ob)->Prop)->Prop
 |[],k=>k []|n::r,k=>match s.get n with|some o=>aO s r λl=>k ((n,o)::l)|none=>False
abbrev VB:=Nat->List V->IS->Di->(GB->List Nat->Di->Prop)->Prop
def eY(d:MA)(P:Program)(call:VB)(f:Nat)(args:List V)(s:IS)(a:Option Nat)(b:Di)(k:GB->List Nat->Di->Prop):Prop:=match oK (oT a) b with
 |none=>call f args s [] λr c _=>k r c b|some (e,a)=>match e with
  |.r x=>AC P d.gl f (wA args) [] (.ret (.pv x)) []/\k ⟨.pv x,[],[],s.nx⟩ [] a|.d n g x=>gd (Nat.blt n s.nx) (match s.ob.get n with
   |some o=>AC P d.gl f (wA args) [(n,o)] (.ret x) [(n,g)]/\k ⟨x,[(n,g)],[],s.nx⟩ [n] a|none=>False)
  |.n b=>call f args s b λr c _=>k r c a|.o ro b x=>gd (bif UF (jC b)then(bif rO (jC b) ro then(bif FG s.nx (jC b)then true else false)else false)else false) (aO s.ob ro λl=>aO s.ob (jC b) λg=>
   AC P d.gl f (wA args) (sO l g) (.ret x) (sO l b)/\k ⟨x,b,[],s.nx⟩ (sO ro (jC b)) a)
  |.c r c=>(∃ro b,Called P d.gl s f args r c ro b)/\k r c a|_=>False
def cO(b:MA)(P:Program)(call:VB)(c:Nat)(o:Oper)(s:IS)(a:Di)(k:IS->Tc->Di->Prop):Prop:=match JC (s.val b.gl) o.op with
 |some (f,args)=>eY b P call f args s o.dst a λr d a=>k (pT c s o.dst r) ⟨r.ch.map (·.1)++r.nw.map (·.1),d⟩ a|none=>match uq o.dst o.op a with
  |some a=>match jD b.T s.nx (s.val b.gl) s.ob.get o.dst o.op with|some r=>k (s.app c o.dst ⟨wG r.x,r.wr,r.new⟩) ⟨match r.wr with|some (n,_)=>[n]|none=>[],aE (s.val b.gl) o.op⟩ a|none=>False
  |none=>cY b s o.dst o.op a λr a=>k (s.app c o.dst (EQ o.op r)) ⟨match r.wr with|some (n,_)=>[n]|none=>[],aE (s.val b.gl) o.op⟩ a
def xT(d:MA)(P:Program)(call:VB)(a e:Nat)(all:List Oper)(o:Oper)(s:IS)(c:Di)(k:IS->Tc->Di->Prop):Prop:=
 gd (BQ a o.dst) (match o.guard with
  |none=>cO d P call e o s c k|some (j,a)=>match NX all s j with
   |.pv (.bool b)=>match b with
    |true=>match a with|true=>cO d P call e o s c k|false=>k ⟨gD s.sl o.dst mO,s.ob,s.nx,s.dt⟩ ⟨[],[]⟩ c
    |false=>match a with|false=>cO d P call e o s c k|true=>k ⟨gD s.sl o.dst mO,s.ob,s.nx,s.dt⟩ ⟨[],[]⟩ c
   |.pv (.tuple [])=>k ⟨gD s.sl o.dst mO,s.ob,s.nx,s.dt⟩ ⟨[],[]⟩ c|_=>False)
def iY(d:MA)(P:Program)(call:VB)(e f:Nat)(all:List Oper):List Oper->IS->List Tc->Di->(IS->List Tc->Di->Prop)->Prop|[],s,c,a,k=>k s c a|o::b,s,c,a,k=>xT d P call e f all o s a λg h a=>iY d P call e f all b g (h::c) a k
def Le(e:MA)(P:Program)(call:VB)(f d:Nat)(a:List Oper)(b:Bool)(s:IS)(c:Di)(k:IS->Di->Prop):Prop:=
 iY e P call f d a a (iK d (YH a) s) [] c λd e c=>match b with
  |true=>gd (rT a) (match eK e with
   |true=>k d c|false=>gd (nO a e.reverse) (k d c))
  |false=>k d c
abbrev KT:=AE->IS->Di->Prop
def oY(f:IS->Di->Prop)(k:KT):KT|.normal,s,a=>f s a|.exit i,s,a=>k (.exit i) s a|.ret,s,a=>k .ret s a
def HQ(id:Nat)(k:KT):KT
 |.normal,s,a=>k .normal s a|.exit i,s,a=>match Nat.beq i id with|true=>k .normal s a|false=>k (.exit i) s a
 |.ret,s,a=>k .ret s a
def xY(b:IS->Di->KT->Prop)(k:KT):Nat->IS->Di->Prop|0,_,_=>False|m+1,s,a=>b s a (oY (xY b k m) k)
def BK:Code->Option Nat
 |.region id _ _=>some id|.seq a b=>match BK a with|some n=>some n|none=>BK b
 |.block _ b=>BK b|.scope b=>BK b|.cond _ a b=>match BK a with|some n=>some n|none=>BK b
 |.loop b=>BK b|_=>none
def bq(c:Code):Nat:=match BK c with|some n=>n+100000|none=>99998
def DM(X:Env1)(σ σ':St):Prop:=∀C E a w,TH X C->Ga C E σ a w->∃b,Ga C b σ' a w
structure HX(X:Env1)(ev:MA)(P:Program)(nt bs:Nat):Prop where
 P:X.P=P
 T:X.T=ev.T
 gl:X.gl=ev.gl
 nt:X.nt=nt
 given:∀n∈X.given,n<bs
def EM(e:AE)(a:IS):EB->St->Prop:=λb σ'=>b=AE.x e/\Rel a σ'
structure Reach(ev:MA)(P:Program)(nt bs:Nat)(c:Code)(s:IS)(e:AE)(s':IS):Prop where
 inv:∀sub,Inv bs sub s->Inv bs sub s'
 awp:∀X,HX X ev P nt bs->∀σ,Rel s σ->AWP X c σ (EM e s')
structure LoopIs(ev:MA)(P:Program)(nt bs:Nat)(b:Code)(s:IS)(e:AE)(s':IS):Prop where
 inv:∀sub,Inv bs sub s->Inv bs sub s'
 awp:∃m,∀X,HX X ev P nt bs->∀σ,Rel s σ->UH X b (EM e s') m σ
def lD(i:MA)(P:Program)(call:VB)(N j h:Nat):Code->IS->Di->KT->Prop
 |.skip,s,f,k=>k .normal s f|.seq a b,s,f,k=>lD i P call N j h a s f (oY (λs f=>lD i P call N j h b s f k) k)|.cond c x y,s,f,k=>match s.val i.gl c with
  |.pv (.bool b)=>match b with|true=>lD i P call N j h x s f k|false=>lD i P call N j h y s f k
  |_=>False
 |.block id b,s,f,k=>lD i P call N j h b s f (HQ id k)|.exit id,s,f,k=>k (.exit id) s f|.ret,s,f,k=>k .ret s f|.region id g d,s,f,k=>Le i P call j h g.toList d s f λs f=>match oK (id+300000) f with
  |some (.f n m,g)=>match s.ob.get n with|some (.arr l _ _ o)=>gd (!Nat.blt n h) (o=kA m/\k .normal ⟨s.sl.map (RC n l m),(s.ob.put n none).map (UD n l m),s.nx,s.dt⟩ g)|_=>False
  |some (.fb n b,g)=>match GQ h n b s with|some l=>k .normal l g|none=>False
  |some (.ok,g)=>k .normal s g|_=>k .normal s f
 |.loop b,s,f,k=>match oK (bq b) f with|some (.l m e l,g)=>gd (AK m h s) (TF s.ob m.on (LoopIs i P j h b (EG m s) e l/\k e l g))|_=>xY (lD i P call N j h b) k N s f
 |.scope b,s,f,k=>lD i P call N j h b s f k|.label _,s,f,k=>k .normal s f|_,_,_,_=>False
def GG(e:MA)(P:Program)(call:VB)(N f g:Nat):Code->IS->Di->KT->Prop
 |.seq a b,s,d,k=>GG e P call N f g a s d (oY (λs d=>GG e P call N f g b s d k) k)|.block id b,s,d,k=>GG e P call N f g b s d (HQ id k)|.scope b,s,d,k=>GG e P call N f g b s d k|.cond c x y,s,d,k=>match s.val e.gl c with
  |.pv (.flg b)=>(b=true->GG e P call N f g x s d k)/\GG e P call N f g y s d k|.pv (.bool b)=>match b with|true=>GG e P call N f g x s d k|false=>GG e P call N f g y s d k
  |_=>False
 |c,s,d,k=>lD e P call N f g c s d k
def dq(d:MA)(P:Program)(call:VB)(N:Nat)(fn:Func)(c:Code)(args:List V)(a:Nat)(sub:Tr Ob)(b:Di)(k:GB->Di->Prop):Prop:=
 lD d P call N fn.ntmps a c ⟨VD 0 args .nil,sub,a,[]⟩ b λe s b=>match gO d.T a sub fn.results.toList e s with|some r=>k r b|none=>False
def VF(a:MA)(P:Program)(N:Nat):Nat->VB
 |0=>λ_ _ _ _ _=>False|n+1=>λf args s b k=>match a.F f with
  |some fn=>match fn.body with
   |some c=>gd (Nat.ble args.length fn.ntmps) (match reach s.nx s.ob 1000000 (CA args) .nil []with
    |some (sub,d)=>dq a P (VF a P N n) N fn c args s.nx sub b λr b=>k r d b|none=>False)
   |none=>False
  |none=>False
def Me(d:MA)(P:Program)(n N i c:Nat)(b:Code)(s:IS)(a:Di)(f g:Kp)(e:AE)(j:IS):Prop:=
 lD d P (VF d P N n) N i c b s a λh a _=>match h with|.normal=>gd (AK f c a) (TF a.ob f.on (LoopIs d P i c b (EG f a) e j))|h=>h=e/\gd (AK g c a) (TF a.ob g.on (EG g a=j))
def Oe(r:GB)(x:PV):Prop:=match r with|⟨.pv y,[],[],_⟩=>y.w 4=x|_=>False
def AY(a:MA)(P:Program)(N n f:Nat)(args:List PV)(b:Di)(x:PV):Prop:=VF a P N n f (args.map .pv) ⟨.nil,.nil,0,[]⟩ b λr _ _=>Oe r x
def IQ(n:Nat)(o:Ob):List (Nat×Ob)->Ob|[]=>o|(m,a)::r=>bif Nat.beq n m then a else IQ n o r
def eO(a:List (Nat×Ob)):List (Nat×Ob)->List (Nat×Ob)|[]=>[]|(n,o)::r=>(n,IQ n o a)::eO a r
def Pe(a:List (Nat×Ob))(r:GB)(d:List Nat)(x:V)(b:List (Nat×Ob)):Prop:=match r with|⟨y,c,[],_⟩=>gd (bif xK (jC a) d then UF (jC c)else false) ((wV y,eO c a)=(x,b))|_=>False
def Qe(c:MA)(P:Program)(N n f:Nat)(args:List V)(a:List (Nat×Ob))(m:Nat)(d:Di)(x:V)(b:List (Nat×Ob)):Prop:=
 gd (UF (jC a)) (VF c P N n f args ⟨.nil,HB a .nil,m,[]⟩ d λr c _=>Pe a r c x b)
def BY(a:MA)(P:Program)(N n f:Nat)(args:List PV)(d:Di)(b:Kp)(x:PV):Prop:=match a.F f with
 |some fn=>match fn.body with
  |some c=>gd (Nat.ble args.length fn.ntmps) (GG a P (VF a P N n) N fn.ntmps 0 c ⟨VD 0 (args.map .pv) .nil,.nil,0,[]⟩ d λe s _=>
    gd (AK b 0 s) (TF s.ob b.on (gO a.T 0 .nil fn.results.toList e (EG b s)=some ⟨.pv x,[],[],b.nx⟩)))
  |none=>False
 |none=>False
theorem CB{c:Bool}{P:Prop}(h:gd c P):c=true/\P:=by
 unfold gd at h
 grind
theorem fq{k:TK}{op:BinOp}{x y:V}{l:Operand}{c:Bool}{r:RB}(h:lY op x y=some (c,r))(g:c=true):ro (aM k op x y l)=some r:=by
 have m:∀{d:Bool}{j:IntKind}{z:Int},(bif d then xA z else false)=true->d=true/\xE j z=some (.pv (.num j z)):=by
  intro d j z o
  cases d with
  |false=>cases o
  |true=>exact⟨rfl,by unfold xE DX;rw[show xA z=true from o];rfl⟩
 have p:∀{n:Int}{j:IntKind}{z:Int},(bif fA n 0 then false else xA z)=true->fA n 0=false/\xE j z=some (.pv (.num j z)):=by
  simp_all
 unfold lY at h;split at h
 ·rename_i a;split at h
  ·rename_i b;have i:aM k op (.pv (.int a)) (.pv (.int b)) l=nK op a b:=rfl;rw[i];split at h
   ·cases h;simp only[nK,CG,g,cond_true];rfl
   ·cases h;simp only[nK,CG,g,cond_true];rfl
   ·cases h;simp only[nK,CG,g,cond_true];rfl
   ·cases h;have t:fB b 0=false:=by simp_all
    simp only[nK,t,cond_false];rfl
   cases h
  cases h
 ·rename_i j a;split at h
  ·rename_i s b;have i:aM k op (.pv (.num j a)) (.pv (.num s b)) l=(bif DG j s then tM op j a b else none):=rfl;rw[i];split at h
   ·cases h;obtain⟨e,f⟩:=m (j:=j) g;rw[e,cond_true];simp only[tM,f];rfl
   ·cases h;obtain⟨e,f⟩:=m (j:=j) g;rw[e,cond_true];simp only[tM,f];rfl
   ·cases h;obtain⟨e,f⟩:=m (j:=j) g;rw[e,cond_true];simp only[tM,f];rfl
   cases h
  ·rename_i n;have i:aM k op (.pv (.num j a)) (.pv (.int n)) l=yO op j a n:=rfl;rw[i];split at h
   ·cases h;obtain⟨e,f⟩:=p (j:=j) g;simp only[yO,e,f,cond_false];rfl
   ·cases h;obtain⟨e,f⟩:=p (j:=j) g;simp only[yO,e,f,cond_false];rfl
   cases h
  cases h
 cases h
def gq{e:Nat}{a:TI}{b:Nat->Option Ob}{d:Nat}{x y:V}{c:Bool}{r:RB}(h:mY e a b d x y=some (c,r))(f:c=true):sM e a b d x y=some r:=by
 unfold mY at h
 grind[sM]
def lq{a:TI}{b:Nat->Option Ob}{x:V}{d e f:Option V}{c:Bool}{v:V}(h:nY a b x d e f=some (c,v))(g:c=true):iQ a b x d e f=some v:=by
 unfold nY at h
 grind[iQ]
def AT{T:Nat->Option TI}{k:Nat}{val:Operand->V}{l:Nat->Option Ob}{f:Option Nat}{op:Op}{c:Bool}{r:RB}(h:pO T k val l op=some (c,r))(m:c=true):jD T k val l f op=some r:=by
 unfold pO at h;split at h
 ·grind[jD,fq]
 ·split at h
  ·rename_i e a b n d g;split at h
   ·rename_i o i;split at h
    ·rename_i A v p;cases h;simp only[jD,g,i,lq p m];rfl
    cases h
   cases h
  cases h
 ·split at h
  ·rename_i t B x y j s;obtain⟨u,h⟩:=jB h;split at h
   ·rename_i e a b n d g;split at h
    ·rename_i o i;simp only[jD,j,s,u,cond_true,g,i];exact gq h m
    cases h
   cases h
  cases h
 ·split at h
  ·rename_i x y j;split at h
   ·rename_i a w;split at h
    ·rename_i b z;cases h;simp only[jD,j,w,z];rfl
    cases h
   cases h
  cases h
 cases h
def mq{T:Nat->Option TI}{i:Nat}{val:Operand->V}{j:Nat->Option Ob}{f:Option Nat}{op:Op}{g:List (List PV)}{n z:Nat}{x:List PV}(h:sY T val op=some (g,n,z))(l:TB g n=some x)(m:YB z g=true):jD T i val j f op=some ⟨.pv (.ptr x),none,false⟩:=by
 unfold sY at h;split at h
 ·split at h
  ·rename_i v o;split at h
   ·rename_i k p;split at h
    ·rename_i e a b c d r;split at h
     ·rename_i w s;split at h
      ·rename_i t u;cases h;simp only[jD,zT,o,p,r,s,u,l,m,cond_true];rfl
      cases h
     cases h
    cases h
   cases h
  cases h
 cases h
def Re{r:RB}{k:RB->Prop}(h:iT r k):k r:=by
 unfold iT at h
 grind
def nq{r:RB}{v:Bool}{k:RB->Prop}(h:aY r v k):k r:=by
 unfold aY at h
 grind
def pq{T:Nat->Option TI}{e:Nat}{val:Operand->V}{f:Nat->Option Ob}{a:Option Nat}{op:Op}{c:Bool}(h:tY T val a op=some c)(m:c=true):jD T e val f a op=some ⟨.undef,none,false⟩:=by
 unfold tY at h;split at h
 ·rename_i t x y;split at h
  ·split at h
   ·rename_i n g;split at h
    ·rename_i q eq;obtain⟨d,h⟩:=jB h;have d:=Nat.eq_of_beq_eq_true d;have key:∃p l b,q=.nptr (.flg p::l)/\val y=.pv (.bool b)/\(bif b then p else true)=true:=by
      unfold Ke at h;split at h
      ·grind
      cases h
     obtain⟨p,l,b,rfl,i,j⟩:=key;have k:JF (.pv (.bool b))=some [.pv (.bool b)]:=rfl;simp only[jD,g,rM,eq,i,k,List.length_singleton,<-d,eQ,j,cond_true];rfl
    cases h
   cases h
  cases h
 cases h
def rq(b:MA)(s:IS)(a:Option Nat)(op:Op)(r:RB):Prop:=jD b.T s.nx (s.val b.gl) s.ob.get a op=some r\/r.new=true/\(∃o,r.wr=some (s.nx,o))/\∃note,PF (mA b.T note (s.val b.gl) s.ob.get a op) r
def sq{T:Nat->Option TI}{a:Nat}{val:Operand->V}{f:Nat->Option Ob}{b:Option Nat}{op:Op}{c:Bool}{r:RB}(h:pY T a val op=some (c,r))(d:c=true):r.new=true/\(∃o,r.wr=some (a,o))/\∃note,PF (mA T note val f b op) r:=by
 unfold pY at h;split at h
 ·split at h
  ·rename_i e _ _ _ _ g;split at h
   ·rename_i i j;split at h
    ·rename_i s k;cases h;simp only[Bool.and_eq_true]at d;obtain⟨⟨⟨l,m⟩,n⟩,p⟩:=d;refine⟨rfl,⟨_,rfl⟩,.arr a i.size e,?_⟩;simp only[mA,g,j,xX k];exact⟨_,rfl,⟨⟨Nat.eq_of_beq_eq_true l,Nat.le_of_ble_eq_true m,Nat.le_of_ble_eq_true n,pQ p⟩,rfl,rfl⟩,rfl,rfl,rfl⟩
    cases h
   cases h
  cases h
 cases h
def cq{T:Nat->Option TI}{b:Nat}{val:Operand->V}{g:Nat->Option Ob}{d:Option Nat}{op:Op}{c:Bool}{r:RB}(h:rY T b val op=some (c,r))(f:c=true):r.new=true/\(∃o,r.wr=some (b,o))/\∃note,PF (mA T note val g d op) r:=by
 unfold rY at h;split at h
 ·split at h
  ·rename_i t i x y j k
   cases a:Nat.beq t i with
   |false=>rw[a]at h;cases h
   |true=>
    rw[a]at h;have a:=Nat.eq_of_beq_eq_true a;subst a;split at h
    ·rename_i e _ _ _ _ l;split at h
     ·rename_i m n;split at h
      ·rename_i p;split at h
       ·rename_i z C s;cases h;simp only[Bool.and_eq_true]at f;obtain⟨⟨⟨⟨u,v⟩,w⟩,A⟩,B⟩:=f;refine⟨rfl,⟨_,rfl⟩,.grow b m.size e,?_⟩;simp only[mA,j,k,l,n,if_true,PH,p,s];exact⟨_,rfl,⟨⟨by simp,by simp,QF u,by simp⟩,nM v,sQ w,Nat.le_of_ble_eq_true A,Nat.le_of_ble_eq_true B⟩,rfl,rfl,rfl⟩
       cases h
      cases h
     cases h
    cases h
  cases h
 cases h
def xq{j:MA}{s:IS}{b:Option Nat}{op:Op}{g:Di}{k:RB->Di->Prop}(h:cY j s b op g k):∃r i,rq j s b op r/\k r i:=by
 unfold cY at h;split at h
 ·split at h
  ·rename_i r d;split at h
   ·exact⟨r,g,.inl d,Re h⟩
   ·exact⟨r,g,.inl d,Re h⟩
   exact⟨r,g,.inl d,h⟩
  simp_all
 split at h
 ·split at h
  ·rename_i c r a;exact⟨r,_,.inl (AT a h.1),h.2⟩
  split at h
  ·rename_i c r a;exact⟨r,_,.inr (sq a h.1),h.2⟩
  simp_all
 ·split at h
  ·rename_i c r a;split at h
   ·obtain⟨⟨e,rfl⟩,f⟩:=h;exact⟨_,_,.inl (AT a e),f⟩
   simp_all
  simp_all
 ·split at h
  ·rename_i c r a;split at h
   ·obtain⟨⟨e,rfl⟩,f⟩:=h;exact⟨_,_,.inl (AT a e),f⟩
   simp_all
  simp_all
 ·split at h
  ·rename_i c r a;split at h
   ·obtain⟨⟨e,rfl⟩,f⟩:=h;exact⟨_,_,.inl (AT a e),f⟩
   simp_all
  simp_all
 ·split at h
  ·rename_i l n z a;exact⟨_,_,.inl (mq a h.1.1 h.1.2),h.2⟩
  simp_all
 ·split at h
  ·rename_i c a;exact⟨_,_,.inl (pq a h.1),h.2⟩
  simp_all
 ·split at h
  ·rename_i r d;exact⟨r,_,.inl d,nq h⟩
  simp_all
 ·exact⟨_,_,.inl h.1,h.2⟩
 ·split at h
  ·rename_i c r a;exact⟨r,_,.inr (cq a h.1),h.2⟩
  simp_all
 simp_all
def CT{H:Hp}:∀(n:Nat)(p:PV)(v:Value),RepP H p v->RepP H (p.w n) v
 |0,_,_,h=>h|n+1,p,v,h=>by
  have:∀(a:List PV)(b:List Value),RepL H a b->RepL H (wl (PV.w n) a) b:=by
   intro a
   induction a with
   |nil=>simp[wl,RepL]|cons c r d=>
    intro b h
    cases b with|nil=>exact h|cons v b=>exact⟨CT n c v h.1,d b h.2⟩
  have:∀(a:List PV),(wl (PV.w n) a).length=a.length:=by
   intro a
   induction a with|nil=>rfl|cons c r d=>simp[wl,d]
  unfold PV.w
  grind[zp,RepP]
def Se(f:PV->PV):∀(a:List PV),(wl f a).length=a.length|[]=>rfl|c::r=>by simp[wl,Se]
def CY{H:Hp}(n:Nat):∀(b:List PV)(a:List Value),RepL H b a->RepL H (wl (PV.w n) b) a|[],a,_=>by simp[wl,RepL]|c::r,[],h=>h|c::r,v::a,h=>⟨CT n c v h.1,CY n r a h.2⟩
theorem Te(n:Nat):∀(a:List (List PV)),(wE n a).length=a.length|[]=>rfl|c::r=>by simp[wE,Te]
theorem Aq{H:Hp}(n:Nat):∀(a:List (List PV))(b:List Value),RepE H a b->RepE H (wE n a) b
 :=by intro x;induction x<;>simp_all[wE,RepE,CY,Se,Hp]
theorem Bq(n:Nat){a:List (List PV)}(h:a=[]):wE n a=[]:=by subst h;rfl
def Cq(x:V):YN x (wV x):=by
 cases x<;>try exact⟨λ_ _ h=>h,λ_ h=>h⟩
 rename_i p;exact⟨λE v h=>CT 4 p v h,λn h=>by grind[wV,V.names]⟩
def Dq(x:V):YN x (wG x):=by
 cases x<;>try exact⟨λ_ _ h=>h,λ_ h=>h⟩
 exact⟨λE v h=>by grind[wG,RepV],λn h=>by grind[wG,V.names]⟩
def Fq(op:Op)(r:RB):YN r.x (EQ op r).x/\(EQ op r).wr=r.wr/\(EQ op r).new=r.new:=by
 unfold EQ;split
 ·split
  ·refine⟨⟨λE v h=>?_,λn h=>by grind[V.names]⟩,rfl,rfl⟩
   grind[RepV,RepP,Te,Bq,Aq]
  exact⟨⟨λ_ _ h=>h,λ_ h=>h⟩,rfl,rfl⟩
 exact⟨⟨λ_ _ h=>h,λ_ h=>h⟩,rfl,rfl⟩
def Ue:∀(l:List V),(wA l).length=l.length|[]=>rfl|x::r=>by simp[wA,Ue r]
def Gq(x:V):(wV x).names=x.names:=by cases x<;>rfl
def Ve:∀(l:List V),CA (wA l)=CA l|[]=>rfl|x::r=>by simp[wA,CA,Ve,Gq]
def We{E:Env}:∀(l:List V)(a:List Value),RepVL E l a->RepVL E (wA l) a|[],_,h=>by simp[wA,RepVL]|x::r,[],h=>h|x::r,v::a,h=>⟨(Cq x).1 E v h.1,We r a h.2⟩
def AC.wA{P:Program}{c:Nat->Option (List PV)}{f:Nat}{args:List V}{b a:List (Nat×Ob)}{out:Out}(h:AC P c f (wA args) b out a):AC P c f args b out a:=
 h.le (Ue args).symm (by simp[HE,Ve]) (λE a b=>We args a b)
section
variable{ev:MA}{P:Program}
def gF(ev:MA)(P:Program)(call:VB):Prop:=∀(f:Nat)(args:List V)(s:IS)(a:Di)(k:GB->List Nat->Di->Prop),call f args s a k->∃r b a,(∃ro c,Called P ev.gl s f args r b ro c)/\k r b a
theorem WF:∀l:List (Nat×Ob),jC l=jA l|[]=>rfl|(n,o)::r=>by simp only[jC,WF r];rfl
def DT{α:Type}:∀a b:List α,sO a b=a++b|[],b=>rfl|x::r,b=>by simp only[sO,DT r b];rfl
theorem iO:∀{l:List Nat},UF l=true->l.Nodup
 :=by intro x;induction x<;>grind[List.nodup_nil,UF,zD,pH]
def DY{m:List Nat}:∀{l:List Nat},rO m l=true->∀n∈l,n∉m
 |[],_,n,a=>by cases a
 |k::r,h,n,a=>by
  unfold rO at h
  cases e:zD m k with
  |true=>rw[e]at h;cases h
  |false=>
   rw[e]at h;rcases List.mem_cons.1 a with rfl|a
   ·grind[pH]
   exact DY h n a
def ET{s:Tr Ob}:∀{l:List Nat}{k:List (Nat×Ob)->Prop},aO s l k->∃m,jA m=l/\(∀p∈m,s.get p.1=some p.2)/\k m
 |[],k,h=>⟨[],rfl,by simp,h⟩|n::r,k,h=>by
  unfold aO at h;split at h
  ·rename_i o c;obtain⟨m,a,d,b⟩:=ET h;refine⟨(n,o)::m,by rw[<-a];rfl,λp e=>?_,b⟩
   grind
  simp_all
theorem Xe:∀{l:List (Nat×Ob)}{n:Nat}{o:Ob},(jA l).Nodup->(n,o)∈l->zA l n=some o
 :=by intro x;induction x<;>simp_all[jA,zA,if_neg]<;>grind
def Ye{m:Nat}:∀{l:List Nat},FG m l=true->∀n∈l,n<m
 |[],_,n,h=>by cases h
 |k::r,h,n,a=>by
  unfold FG at h
  cases e:Nat.blt k m with
  |false=>rw[e]at h;cases h
  |true=>
   rw[e]at h;rcases List.mem_cons.1 a with rfl|a
   ·simp_all
   exact Ye h n a
def Iq{call:VB}(G:gF ev P call){f:Nat}{args:List V}{s:IS}{B:Option Nat}{H:Di}{k:GB->List Nat->Di->Prop}(h:eY ev P call f args s B H k):∃r C a,(∃ro O,Called P ev.gl s f args r C ro O)/\k r C a:=by
 unfold eY at h
 cases I:oK (oT B) H with
 |none=>
  rw[I]at h;obtain⟨r,C,_,E,J⟩:=G _ _ _ _ _ h
  grind
 |some p=>
  obtain⟨e,a⟩:=p;rw[I]at h
  cases e with
  |r x=>exact⟨⟨.pv x,[],[],s.nx⟩,[],a,⟨[],[],⟨h.1.wA,by simp[jA],by simp,by simp[jA],by simp,⟨λ_=>none,by simp⟩,by simp[jA],by simp[jA],Nat.le_refl _,by simp⟩⟩,h.2⟩|d n K x=>
   obtain⟨j,h⟩:=CB h
   cases A:s.ob.get n with
   |none=>rw[A]at h;simp_all|some o=>
    rw[A]at h;refine⟨⟨x,[(n,K)],[],s.nx⟩,[n],a,⟨[],[(n,o)],⟨h.1.wA,by simp[jA],by simp[A],by simp[jA],by simp[jA],⟨λ_=>some K,by simp⟩,?_,by simp[jA],Nat.le_refl _,by simp[jA]⟩⟩,h.2⟩;intro m L;have L:m=n:=by grind[jA]
    subst L;exact⟨QF j,by rw[A];rfl,by simp[jA]⟩
  |c r C=>grind|o ro u x=>
   obtain⟨S,h⟩:=CB h;have D:UF (jC u)=true/\rO (jC u) ro=true/\FG s.nx (jC u)=true:=by
    simp_all
   obtain⟨l,E,J,h⟩:=ET h;obtain⟨M,N,Q,h⟩:=ET h;rw[DT,DT,DT]at h;have F:jA M=jA u:=by rw[N,WF]
   have:=DY D.2.1;refine⟨⟨x,u,[],s.nx⟩,ro++jC u,a,⟨l,M,⟨by simpa using h.1.wA,λn j=>?_,λp U=>?_,λn j=>?_,λn j=>by rw[<-F];exact j,⟨zA u,λn o j=>?_⟩,λn j=>?_,by simp[jA],Nat.le_refl _,λn j=>?_⟩⟩,h.2⟩
   ·simp_all
   ·grind
   ·rw[E,N]at j;exact j
   ·grind[iO,WF,Xe]
   ·have t:n∈jA u:=j;refine⟨Ye D.2.2 n (by rw[WF];exact t),?_,by rw[F];exact t⟩;rw[<-F]at t;obtain⟨o,A⟩:=keysO_mem.1 t;rw[Q _ A];rfl
   grind[NE]
  |n R=>
   obtain⟨r,C,_,E,J⟩:=G _ _ _ _ _ h
   grind
  |i e=>simp_all|ok=>simp_all|z n=>simp_all|y n=>simp_all|v p=>simp_all|s=>simp_all|fb n b=>simp_all|b v=>simp_all|l k e s=>simp_all|f n W=>simp_all|w r=>simp_all|g=>simp_all
open Classical in
noncomputable def FT (f:Nat)(args:List V)(s:IS)(r:GB)(ks:List Nat):Call:=λ f' args' s'=>if f'=f/\args'=args/\s'=s then some (r,ks) else none
theorem Jq(f:Nat)(args:List V)(s:IS)(r:GB)(a:List Nat):FT f args s r a f args s=some (r,a):=by simp[FT]
def Kq{f:Nat}{args:List V}{s:IS}{r:GB}{ks:List Nat}(h:∃ro a,Called P ev.gl s f args r ks ro a):DQ ev P (FT f args s r ks):=by
 intro a a a a a e
 grind[FT]
def Lq:DQ ev P (λ_ _ _=>none):=λ_ _ _ _ _ e=>by cases e
structure DoFact(ev:MA)(P:Program)(bs:Nat)(o:Oper)(s s1:IS)(tc:Tc):Prop where
 inv:∀sub,Inv bs sub s->Inv bs sub s1
 ok:∀X:Env1,X.P=P->X.T=ev.T->X.gl=ev.gl->∀σ,Rel s σ->∃e,OpW X o σ e/\Rel s1 (σ.eff o.dst e)/\ZH e tc
theorem DoFact.of{call:Call}(b:DQ ev P call){a:Nat}{o:Oper}{s s1:IS}{c:Tc}(h:xM ev call a o s=some (s1,c)):DoFact ev P a o s s1 c:=
 ⟨λsub a=>jq b h a,λX c d a σ e=>vq b h c d a e⟩
def Mq{a:Nat}{s:IS}{d:Option Nat}{r q:RB}(h:q.wr=r.wr)(b:q.new=r.new):s.app a d q=⟨gD s.sl d q.x,(s.app a d r).ob,(s.app a d r).nx,(s.app a d r).dt⟩:=by
 grind[IS.app]
def EY{a:Nat}{s:IS}{d:Option Nat}{r:RB}:(s.app a d r).sl=gD s.sl d r.x:=by
 grind[IS.app]
def DoFact.weak{c:Nat}{o:Oper}{s:IS}{r q:RB}{i:Tc}(h:DoFact ev P c o s (s.app c o.dst r) i)(n:YN r.x q.x)(p:q.wr=r.wr)(u:q.new=r.new):DoFact ev P c o s (s.app c o.dst q) i:=by
 rw[Mq p u];refine⟨λsub v=>(h.inv sub v).slot _,λX w y e σ z=>?_⟩;obtain⟨⟨x,j,k,rd⟩,l,b,m⟩:=h.ok X w y e σ z
 cases f:o.dst with
 |none=>
  refine⟨⟨x,j,k,rd⟩,l,?_,m⟩;have:=b;rw[f]at this;refine⟨λt=>?_,this.ob,this.us⟩;have:=this.sl t;rw[EY]at this;exact this
 |some d=>
  have a:=b.sl d;rw[f,EY]at a;have g:x=r.x:=by
   simp only[St.eff,OS,gD,Tr.get_put,if_true]at a;exact a
  subst g;refine⟨⟨q.x,j,k,rd⟩,.weak _ l n,?_,m⟩;rw[f]at b;refine⟨λt=>?_,b.ob,b.us⟩;have:=b.sl t;rw[EY]at this
  grind[St.eff,OS,gD,Tr.get_put,Option.some.injEq]
def Ze{call:VB}(j:gF ev P call){b:Nat}{o:Oper}{s:IS}{l:Di}{k:IS->Tc->Di->Prop}(h:cO ev P call b o s l k):∃s1 g a,DoFact ev P b o s s1 g/\k s1 g a:=by
 unfold cO at h;split at h
 ·rename_i f args A;obtain⟨r,ks,a,m,d⟩:=Iq j h;refine⟨_,_,a,DoFact.of (Kq (f:=f) (args:=args) (s:=s) (r:=r) (ks:=ks) m) ?_,d⟩
  grind[xM,Jq,Go.Lg.callR]
 have key:∀r,jD ev.T s.nx (s.val ev.gl) s.ob.get o.dst o.op=some r->DoFact ev P b o s (s.app b o.dst r) ⟨match r.wr with|some (n,_)=>[n]|none=>[],aE (s.val ev.gl) o.op⟩:=λr c=>by
  refine DoFact.of Lq (s1:=s.app b o.dst r) ?_
  grind[xM]
 split at h
 ·split at h
  ·rename_i r c;exact⟨_,_,_,DoFact.weak (r:=r) (q:=⟨wG r.x,r.wr,r.new⟩) (key r c) (Dq r.x) rfl rfl,h⟩
  simp_all
 obtain⟨r,a,c,d⟩:=xq h;obtain⟨p,t,u⟩:=Fq o.op r;refine⟨_,_,a,DoFact.weak (r:=r) ?_ p t u,d⟩;rcases c with c|⟨v,i,note,w⟩
 ·grind
 exact⟨λsub x=>Ae x v i _,λX B y e σ z=>Fe w (λ_=>i) y e z⟩
structure GT(ev:MA)(P:Program)(nt bs:Nat)(all:List Oper)(o:Oper)(s s1:IS)(tc:Tc):Prop where
 inv:∀sub,Inv bs sub s->Inv bs sub s1
 ok:∀X:Env1,X.P=P->X.T=ev.T->X.gl=ev.gl->X.nt=nt->∀σ,Rel s σ->∃e,WI X all o σ e/\Rel s1 (σ.eff o.dst e)/\ZH e tc
def JQ{a:Nat}{o:Oper}(h:BQ a o.dst=true){X:Env1}(b:X.nt=a):wX X o.dst:=by
 unfold BQ at h;unfold wX;split at h
 ·simp_all
 simp_all
def FY{call:VB}(D:gF ev P call){z u:Nat}{all:List Oper}{o:Oper}{s:IS}{n:Di}{k:IS->Tc->Di->Prop}(h:xT ev P call z u all o s n k):∃l m c,GT ev P z u all o s l m/\k l m c:=by
 obtain⟨v,h⟩:=CB h;have f:ZH IE ⟨[],[]⟩:=⟨by simp[IE,Eff.wn],by simp[IE]⟩;split at h
 ·rename_i p;obtain⟨l,m,c,w,A⟩:=Ze D h;refine⟨l,m,c,⟨w.inv,λX r t g d σ i=>?_⟩,A⟩;obtain⟨e,E,x,B⟩:=w.ok X r t g σ i;exact⟨e,⟨JQ v d,.inl ⟨p,E⟩⟩,x,B⟩
 rename_i j a p;split at h
 ·rename_i b y;have key:(b=a->cO ev P call u o s n k)->(b≠a->k ⟨gD s.sl o.dst mO,s.ob,s.nx,s.dt⟩ ⟨[],[]⟩ n)->∃l m c,GT ev P z u all o s l m/\k l m c:=by
   intro w A;by_cases e:b=a
   ·obtain⟨l,m,c,x,B⟩:=Ze D (w e);refine⟨l,m,c,⟨x.inv,λX r t g d σ i=>?_⟩,B⟩;obtain⟨q,F,G,H⟩:=x.ok X r t g σ i;exact⟨q,⟨JQ v d,.inr (.inl ⟨j,a,b,p,by rw[<-bY i];exact y,.inl ⟨e,F⟩⟩)⟩,G,H⟩
   exact⟨_,_,n,⟨λsub C=>C.slot _,λX r t g d σ i=>⟨IE,⟨JQ v d,.inr (.inl ⟨j,a,b,p,by rw[<-bY i];exact y,.inr ⟨e,rfl⟩⟩)⟩,Ge i _,f⟩⟩,A e⟩
  grind
 ·rename_i y;exact⟨_,_,n,⟨λsub C=>C.slot _,λX r t g d σ i=>⟨IE,⟨JQ v d,.inr (.inr ⟨j,a,p,by rw[<-bY i];exact y,rfl⟩)⟩,Ge i _,f⟩⟩,h⟩
 simp_all
inductive OpsR(ev:MA)(P:Program)(nt bs:Nat)(all:List Oper):List Oper->IS->List Tc->IS->List Tc->Prop|nil (s:IS) (tr:List Tc):OpsR ev P nt bs all [] s tr s tr|cons {o:Oper} {l:List Oper} {s s1 s2:IS} {tc:Tc} {tr tr2:List Tc} (h:GT ev P nt bs all o s s1 tc) (h':OpsR ev P nt bs all l s1 (tc::tr) s2 tr2):OpsR ev P nt bs all (o::l) s tr s2 tr2
def zf{call:VB}(i:gF ev P call){j m:Nat}{all:List Oper}:∀(l:List Oper){s:IS}{a:List Tc}{d:Di}{k:IS->List Tc->Di->Prop},iY ev P call j m all l s a d k->∃e b c,OpsR ev P j m all l s a e b/\k e b c
 |[],s,a,d,k,h=>⟨s,a,d,.nil s a,h⟩|o::l,s,a,d,k,h=>by
  obtain⟨e,v,c,n,p⟩:=FY i h;obtain⟨r,f,g,t,u⟩:=zf i l p;exact⟨r,f,g,.cons n t,u⟩
def OpsR.inv{e a:Nat}{all l:List Oper}{s c:IS}{f b:List Tc}(h:OpsR ev P e a all l s f c b){sub:Tr Ob}(d:Inv a sub s):Inv a sub c:=by
 induction h with|nil=>exact d|cons h _ g=>exact g (h.inv sub d)
def OpsR.ok{k n:Nat}{all:List Oper}{X:Env1}(o:X.P=P)(d:X.T=ev.T)(f:X.gl=ev.gl)(g:X.nt=k){l:List Oper}{s m:IS}{i c:List Tc}(h:OpsR ev P k n all l s i m c):∀{σ:St},Rel s σ->
  ∃b a,b.length=l.length/\fM X all l b σ/\Rel m (GA (λ_=>true) 0 (zB l b) σ)/\c=a.reverse++i/\TcsOK b a:=by
 induction h with
 |nil s i=>intro σ j;exact⟨[],[],rfl,trivial,j,rfl,rfl,by simp⟩|cons p _ r=>
  intro σ j;obtain⟨e,t,u,v⟩:=p.ok X o d f g σ j;obtain⟨b,a,w,x,y,z,A⟩:=r u;refine⟨e::b,_::a,by simp[w],⟨t,x⟩,?_,by simp[z],A.cons v⟩;simp only[zB,List.map_cons,List.zip_cons_cons,GA,if_true];rw[uY];exact y
def AWP.postX{X:Env1}{c:Code}{σ:St}{Q k:EB->St->Prop}(h:AWP X c σ Q)(m:∀b σ',Q b σ'->(∃σ'',DM X σ' σ''/\k b σ'')/\∀p,b≠.panic p):AWP X c σ k:=by
 intro C E a w l n;refine wp_mono (h C E a w l n) ?_
 rintro e o r ⟨s,σ',b,f,t,g⟩
 obtain⟨⟨σ'',u,i⟩,v⟩:=m b σ' g;obtain⟨j,d⟩:=u C s o r l f;refine⟨j,σ'',b,d,?_,i⟩
 cases b with|panic p=>simp_all|_=>exact t
def AWP.wkX{X:Env1}{c:Code}{σ σ':St}{Q:EB->St->Prop}(d:DM X σ σ')(h:AWP X c σ' Q):AWP X c σ Q:=by
 intro C E a w b e;obtain⟨f,g⟩:=d C E a w b e;exact h C f a w b g
def Nq{call:VB}(w:gF ev P call){t bs id:Nat}{a:Array Oper}{d:Bool}{s:IS}{x:Di}{k:IS->Di->Prop}(h:Le ev P call t bs a.toList d s x k):∃f b,Reach ev P t bs (.region id a d) s .normal f/\k f b:=by
 obtain⟨f,u,b,i,j⟩:=zf w _ h;have e:∀sub,Inv bs sub s->Inv bs sub f:=λsub y=>i.inv (kq (YH a.toList) y)
 cases d with
 |false=>
  refine⟨f,b,⟨e,λX c σ l=>?_⟩,j⟩;obtain⟨σ0,m,g⟩:=aT (bs:=bs) (YH a.toList) l;obtain⟨z,n,o,p,r,A,v⟩:=i.ok c.P c.T c.gl c.nt g;exact AWP.wk m (AWP.seqR p ⟨rfl,r⟩)
 |true=>
  obtain⟨B,j⟩:=CB j;have C:(eK u=true\/nO a.toList u.reverse=true)/\k f b:=by
   grind[CB]
  refine⟨f,b,⟨e,λX c σ l=>?_⟩,C.2⟩;obtain⟨σ0,m,g⟩:=aT (bs:=bs) (YH a.toList) l;obtain⟨z,n,o,p,r,A,v⟩:=i.ok c.P c.T c.gl c.nt g;refine AWP.wk m (AWP.anyR o p (Je B ?_ o v) ⟨rfl,r⟩);simp_all
end
def AWP.condT{X:Env1}{c:Operand}{x y:Code}{σ:St}{Q:EB->St->Prop}{b:Bool}(f:σ.val X.gl c=.pv (.bool b))(g:b=true->AWP X x σ Q)(i:b=false->AWP X y σ Q):AWP X (.cond c x y) σ Q:=by
 intro C E a w d e;have h:=QA e d.glob c;rw[f]at h;exact wp_cond_split (xG h) (λf=>g f C E a w d e) (λf=>i f C E a w d e)
def AWP.scopeT{X:Env1}{c:Code}{σ:St}{Q:EB->St->Prop}(h:AWP X c σ Q):AWP X (.scope c) σ Q:=by
 intro C E a w j k;refine wp_scope_straight (wp_mono (h C E a w j k) ?_)
 rintro e l m ⟨n,σ',g,f,b,o⟩
 have d:XI C Q e l m:=⟨n,σ',g,f,b,o⟩
 cases g with
 |normal=>cases b;exact d
 |exit i=>cases b;exact d
 |ret=>cases b;exact d
 |panic p=>obtain⟨v,rfl,r⟩:=b;exact d
def HG{c d:Bool}(h:(bif c then d else false)=true):c=true/\d=true:=by
 simp_all
def FM{m:Nat}:∀{l:List Nat},FG m l=true->∀n∈l,n<m
 |[],_,_,h=>by cases h
 |k::r,h,n,a=>by
  obtain⟨c,b⟩:=HG h;rcases List.mem_cons.1 a with rfl|a
  ·simp_all
  exact FM b n a
def GM:∀{l m:List Nat},xK l m=true->∀n∈l,n∈m
 |[],_,_,_,h=>by cases h
 |k::r,m,h,n,a=>by
  obtain⟨c,b⟩:=HG h;rcases List.mem_cons.1 a with rfl|a
  ·grind[pH]
  exact GM b n a
def jf{m:Nat}{s:Tr V}:∀{l:List Nat},fY m s l=true->∀t∈l,∀v,s.get t=some v->∀n∈v.names,n<m
 |[],_,_,h=>by cases h
 |k::r,h,t,a=>by
  obtain⟨b,c⟩:=HG h;rcases List.mem_cons.1 a with rfl|a
  ·intro v d;rw[d]at b;exact FM b
  exact jf c t a
def GY{m:Nat}{s:Tr Ob}:∀{l:List Nat},gY m s l=true->∀t∈l,t<m/\∀o,s.get t=some o->(∃a b c d,o=.arr a b c d)\/(∃c d,o=.smap c d)\/∀n∈o.names,n<m
 |[],_,_,h=>by cases h
 |k::r,h,t,e=>by
  obtain⟨g,i⟩:=HG h;obtain⟨f,j⟩:=HG i;rcases List.mem_cons.1 e with rfl|e
  ·refine⟨QF g,?_⟩;intro v p;rw[p]at f;cases v<;>first|exact .inl ⟨_,_,_,_,rfl⟩|exact .inr (.inl ⟨_,_,rfl⟩)|exact .inr (.inr (FM f))
  exact GY j t e
structure KN(s:Tr Ob)(l:List Nat):Prop where
 a:∀t∈l,∀a b c es,s.get t=some (.arr a b c es)->wB es=[]
 m:∀t∈l,∀c es,s.get t=some (.smap c es)->DC es=[]
theorem jI{s:Tr Ob}{R:Prop}:∀{l:List Nat},TF s l R->R/\KN s l
 |[],h=>⟨h,⟨(λt d=>by cases d),(λt d=>by cases d)⟩⟩|k::r,h=>by
  unfold TF at h;split at h
  ·rename_i m j;obtain⟨i,g⟩:=jI h.2;refine⟨i,⟨λt d a b c e f=>?_,λt d c e f=>?_⟩⟩
   ·rcases List.mem_cons.1 d with rfl|d
    ·simp_all
    exact g.a t d a b c e f
   rcases List.mem_cons.1 d with rfl|d
   ·rw[j]at f;cases f
   exact g.m t d c e f
  ·rename_i m j;obtain⟨i,g⟩:=jI h.2;refine⟨i,⟨λt d a b c e f=>?_,λt d c e f=>?_⟩⟩
   ·rcases List.mem_cons.1 d with rfl|d
    ·rw[j]at f;cases f
    exact g.a t d a b c e f
   rcases List.mem_cons.1 d with rfl|d
   ·simp_all
   exact g.m t d c e f
  obtain⟨i,g⟩:=jI h;refine⟨i,⟨λt d a b c e f=>?_,λt d c e f=>?_⟩⟩
  ·rcases List.mem_cons.1 d with rfl|d
   ·grind
   exact g.a t d a b c e f
  rcases List.mem_cons.1 d with rfl|d
  ·simp_all
  exact g.m t d c e f
def vf{a:List Nat}{s:Tr Ob}:∀{k:Nat},hY a s k=true->∀n,n<k->n∈a\/s.get n=none
 |0,_,_,h=>absurd h (Nat.not_lt_zero _)|k+1,h,n,g=>by
  obtain⟨b,c⟩:=HG h;by_cases e:n=k
  ·subst e
   cases d:zD a n with
   |true=>grind[pH]|false=>
    rw[d]at b;refine .inr ?_
    cases f:s.get n with|none=>rfl|some o=>rw[f]at b;cases b
  exact vf c n (by omega)
def IT{α:Type}(s:Tr α):∀(l:List Nat)(t:Tr α)(n:Nat),(wJ s l t).get n=if n∈l then s.get n else t.get n
 :=by intro x;induction x<;>grind[wJ,Tr.get_put]
def JT:Option V->V|some v=>v|none=>.undef
def CK(s:Tr V):List Nat->List (Nat×V)|[]=>[]|t::r=>(t,JT (s.get t))::CK s r
def vI(s:Tr Ob):List Nat->List (Nat×Ob)
 |[]=>[]|n::r=>match s.get n with|some o=>(n,o)::vI s r|none=>vI s r
def Oq(s:Tr V):∀(l:List Nat)(t:Nat),IA (CK s l) t=if t∈l then JT (s.get t)else .undef
 :=by intro x;induction x<;>grind[CK,IA,JT]
def Pq(s:Tr Ob):∀(l:List Nat)(t:Nat),zA (vI s l) t=if t∈l then s.get t else none
 :=by intro x;induction x<;>grind[vI,zA]
def yf{s:Tr V}:∀{l:List Nat}{n:Nat},n∈fF (CK s l)->∃t∈l,∃v,s.get t=some v/\n∈v.names
 |[],n,h=>by cases h
 |k::r,n,h=>by
  simp only[CK,fF,List.mem_append]at h;rcases h with h|h
  ·cases e:s.get k with|none=>rw[e]at h;simp[JT,V.names]at h|some v=>rw[e]at h;exact⟨k,by simp,v,e,h⟩
  obtain⟨t,a,b⟩:=yf h;exact⟨t,by simp[a],b⟩
def Qq{s:Tr Ob}:∀{l:List Nat}{n:Nat},n∈gC (vI s l)->∃t∈l,∃o,s.get t=some o/\(n=t\/n∈o.names)
 :=by intro x;induction x<;>grind[vI,gC]
structure KpOK(k:Kp)(bs:Nat)(s:IS):Prop where
 le:bs<=k.nx
 sl:∀t∈k.sl,∀v,s.sl.get t=some v->∀n∈v.names,n<k.nx
 on:∀t∈k.on,t<k.nx/\∀o,s.ob.get t=some o->∀n∈o.names,n<k.nx
 old:∀n,n<bs->n∈k.on\/s.ob.get n=none
 dt:∀n∈s.dt,n∈k.dt
 db:∀n∈k.dt,n<bs
theorem HM{k:Kp}{g:Nat}{s:IS}(h:AK k g s=true)(i:KN s.ob k.on):KpOK k g s:=by
 obtain⟨m,h⟩:=HG h;obtain⟨p,h⟩:=HG h;obtain⟨j,h⟩:=HG h;obtain⟨r,h⟩:=HG h;obtain⟨u,h⟩:=HG h;refine⟨Nat.le_of_ble_eq_true m,jf p,λt e=>⟨(GY j t e).1,λo f n l=>?_⟩,vf r,GM u,FM h⟩;rcases(GY j t e).2 o f with ⟨a,b,c,d,rfl⟩|⟨c,d,rfl⟩|v
 ·have:n∈wB d:=l;rw[i.a t e a b c d f]at this;cases this
 ·have:n∈DC d:=l;rw[i.m t e c d f]at this;cases this
 simp_all
def KpOK.inv{k:Kp}{c:Nat}{s:IS}(h:KpOK k c s){sub:Tr Ob}(d:Inv c sub s):Inv c sub (EG k s):=by
 refine⟨h.le,λn b i=>?_,λn b a=>?_,d.names,h.db⟩
 ·have:=d.same n b (λe=>i (h.dt n e));show(wJ s.ob k.on .nil).get n=_;rw[IT];rcases h.old n b with f|f
  ·rw[if_pos f];exact this
  by_cases g:n∈k.on
  ·rw[if_pos g];exact this
  rw[if_neg g,<-this,f];rfl
 have a:((wJ s.ob k.on .nil).get n).isSome=true:=a;rw[IT]at a;split at a
 ·exact d.old n b a
 cases a
def KpOK.wk{k:Kp}{f:Nat}{s:IS}(h:KpOK k f s){j:MA}{P:Program}{m:Nat}{X:Env1}(u:HX X j P m f){σ:St}(g:Rel s σ):∃τ,DM X σ τ/\Rel (EG k s) τ:=by
 refine⟨⟨CK s.sl k.sl,vI s.ob k.on,List.range k.nx⟩,λC E a w x y=>⟨E,Weak.ga (X:=X) (σ:=σ) ⟨?_,?_,?_⟩ x y⟩,⟨λt=>?_,λn=>?_,λn b=>?_⟩⟩
 ·have:∀(l:List Nat),RS (CK s.sl l) σ.slots:=by
   intro l
   induction l with|nil=>trivial|cons t r i=>exact⟨by rw[g.sl];cases s.sl.get t<;>rfl,i⟩
  simp_all
 ·refine BM λp z=>?_
  have:∀(l:List Nat),p∈vI s.ob l->s.ob.get p.1=some p.2:=by
   intro l
   induction l with
   |nil=>intro h;cases h
   |cons t r i=>
    grind[vI]
  rw[g.ob]
  grind
 ·refine AM λn b=>?_
  rw[List.mem_append,List.mem_append]at b;refine List.mem_range.2 ?_;rcases b with (b|b)|b
  ·obtain⟨t,c,v,e,d⟩:=yf b;exact h.sl t c v e n d
  ·obtain⟨t,c,o,e,d⟩:=Qq b;rcases d with rfl|d
   ·exact(h.on n c).1
   exact(h.on t c).2 o e n d
  have:=u.given n b;have:=h.le;omega
 ·show IA (CK s.sl k.sl) t=(match (wJ s.sl k.sl .nil).get t with|some v=>v|none=>.undef);rw[Oq,IT];by_cases c:t∈k.sl
  ·rw[if_pos c,if_pos c];cases s.sl.get t<;>rfl
  rw[if_neg c,if_neg c];rfl
 ·show zA (vI s.ob k.on) n=(wJ s.ob k.on .nil).get n;rw[Pq,IT];rfl
 exact List.mem_range.1 b
section
variable{ev:MA}{P:Program}
def AE.x_np(e:AE):∀p,AE.x e≠.panic p:=by cases e<;>simp[AE.x]
def Reach.seq{c d:Nat}{a b:Code}{s f g:IS}{e:AE}(h:Reach ev P c d a s .normal f)(i:Reach ev P c d b f e g):Reach ev P c d (.seq a b) s e g:=by
 refine⟨λsub c=>i.inv sub (h.inv sub c),λX d σ c=>AWP.seq (AWP.mono (h.awp X d σ c) ?_)⟩
 rintro c σ' ⟨rfl,c⟩
 exact i.awp X d σ' c
def Reach.seq'{d f:Nat}{a b:Code}{s g:IS}{e:AE}(l:e≠.normal)(h:Reach ev P d f a s e g):Reach ev P d f (.seq a b) s e g:=by
 refine⟨h.inv,λX j σ k=>AWP.seq (AWP.mono (h.awp X j σ k) ?_)⟩
 rintro m σ' ⟨rfl,c⟩
 cases e with|normal=>simp_all|exit i=>exact⟨rfl,c⟩|ret=>exact⟨rfl,c⟩
def LoopIs.reach{a c:Nat}{b:Code}{s d:IS}{e:AE}(h:LoopIs ev P a c b s e d):Reach ev P a c (.loop b) s e d:=by
 obtain⟨f,m,h⟩:=h;exact⟨f,λX g σ i=>To m (h X g σ i)⟩
def LoopIs.round{a c:Nat}{b:Code}{s g i:IS}{e:AE}(h:Reach ev P a c b s .normal g)(d:LoopIs ev P a c b g e i):LoopIs ev P a c b s e i:=by
 obtain⟨k,m,d⟩:=d;refine⟨λsub l=>k sub (h.inv sub l),m+1,λX j σ n=>TS (AWP.mono (h.awp X j σ n) ?_)⟩
 rintro o σ' ⟨rfl,f⟩
 exact d X j σ' f
def LoopIs.last{c d:Nat}{b:Code}{s f:IS}{e:AE}(k:e≠.normal)(h:Reach ev P c d b s e f):LoopIs ev P c d b s e f:=by
 refine⟨h.inv,1,λX g σ j=>TS (AWP.mono (h.awp X g σ j) ?_)⟩
 rintro l σ' ⟨rfl,a⟩
 cases e with|normal=>simp_all|exit i=>exact⟨rfl,a⟩|ret=>exact⟨rfl,a⟩
def Reach.keep{d a:Nat}{c:Code}{s s':IS}{e:AE}{k:Kp}(f:KpOK k a s')(h:Reach ev P d a c s e s'):Reach ev P d a c s e (EG k s'):=by
 refine⟨λsub i=>f.inv (h.inv sub i),λX g σ j=>AWP.postX (h.awp X g σ j) ?_⟩
 rintro n σ' ⟨rfl,b⟩
 obtain⟨τ,l,m⟩:=f.wk g b;exact⟨⟨τ,l,rfl,m⟩,AE.x_np e⟩
def Reach.kept{b a:Nat}{c:Code}{s d:IS}{e:AE}{k:Kp}(f:KpOK k a s)(h:Reach ev P b a c (EG k s) e d):Reach ev P b a c s e d:=by
 refine⟨λsub i=>h.inv sub (f.inv i),λX g σ j=>?_⟩;obtain⟨τ,l,m⟩:=f.wk g j;exact AWP.wkX l (h.awp X g τ m)
def Rq{K:List PV->PV}{n:Nat}{a:List PV}:∀{x:V},n∉x.names->VH K n a x=x:=by
 intro x h;cases x<;>simp only[VH]
 grind[V.names]
def bf{K:List PV->PV}{n:Nat}{b:List PV}:∀{a:List V},n∉CA a->mH K n b a=a
 |[],_=>rfl|c::a,h=>by
  simp only[CA,List.mem_append,not_or]at h;simp only[mH];rw[Rq h.1,bf h.2]
def Sq{K:List PV->PV}{n:Nat}{a:List PV}{o:Ob}(h:n∉o.names):YI K n a o=o:=by
 cases o with|box b=>simp only[YI];rw[bf h]|_=>rfl
theorem Tq{d:Nat}{sub:Tr Ob}{s:IS}(b:Inv d sub s){n:Nat}(g:¬n<d)(K:List PV->PV)(c:List PV):Inv d sub (CM K n c s):=by
 have a:∀m,((s.ob.put n none).map (YI K n c)).get m=if m=n then none else(s.ob.get m).map (YI K n c):=by
  intro m;rw[Tr.get_map,Tr.get_put];split<;>rfl
 refine⟨b.le,?_,?_,b.names,b.dts⟩
 ·intro m e h;show((s.ob.put n none).map (YI K n c)).get m=_;rw[a m,if_neg (by omega),b.same m e h]
  cases q:sub.get m with
  |none=>rfl|some o=>
   simp only[Option.map_some];rw[Sq];intro i;exact g ((b.names m o q).2 n i)
 intro m e f;have f:(((s.ob.put n none).map (YI K n c)).get m).isSome=true:=f;rw[a m,if_neg (by omega)]at f;exact b.old m e (by simp_all)
theorem Uq{s:IS}{σ:St}(b:Rel s σ){n:Nat}{c d:List PV}{K:List PV->PV}(f:s.ob.get n=some (.box (DA c)))(g:mQ K c d):∃σ',Wk σ σ'/\Rel (CM K n d s) σ':=by
 have e:zA σ.objs n=some (.box (DA c)):=(b.ob n).trans f;refine⟨σ.frb K n d,λC E a w h=>h.frb e g,⟨?_,?_,b.us⟩⟩
 ·intro t;simp only[St.frb,CM,nX,b.sl,Tr.get_map];cases s.sl.get t<;>rfl
 intro m;simp only[St.frb,CM,vO,b.ob,Tr.get_map,Tr.get_put];split<;>rfl
def df{b:Bool}:∀{f a:List PV},eT b f=some a->flgs f a
 |[],_,h=>by cases h
 |[c],a,h=>by
  cases c with
  |bool x=>cases x with
   |false=>
    cases h;exact⟨λe=>(by cases e),trivial⟩
   |true=>cases h
  |_=>cases h
 |c::d::r,a,h=>by
  have key:(∀x,c≠.flg x)->(match eT b (d::r)with|some l=>some (c::l)|none=>none)=some a->flgs (c::d::r) a:=by
   intro g h;split at h
   ·rename_i l i;cases h;rw[flgs.eq_3 _ _ _ _ (λc b _ e=>g b e)];exact⟨⟨rfl,λb e=>g b e⟩,df i⟩
   cases h
  cases c with
  |flg x=>cases h
  |_=>exact key (λx e=>by cases e) h
def Vq(c:List PV):mQ PV.ptr c (wl (PV.w 4) c):=by
 intro H a r;have r:=CY 4 c a r;refine⟨a.map sn,Msk.sn a,λ_ _=>trivial,λb a a e off=>?_⟩;exact⟨b,off,rfl,by rw[e];exact RepL.drop off (RepL.mono a (wl (PV.w 4) c) _ _ List.prefix_rfl r.sn)⟩
def lf{d n:Nat}{b:Option Bool}{s g:IS}(h:GQ d n b s=some g):¬n<d/\∃K a c,s.ob.get n=some (.box (DA a))/\mQ K a c/\g=CM K n c s:=by
 unfold GQ at h
 cases e:Nat.blt n d with
 |true=>rw[e]at h;cases h
 |false=>
  rw[e,cond_false]at h;rw[qJ]at e;refine⟨of_decide_eq_false e,?_⟩;split at h
  ·rename_i l i;split at h
   ·rename_i a j;rw[aX]at j;have f:=QX j;subst f;split at h
    ·cases h;exact⟨_,a,_,i,Vq a,rfl⟩
    split at h
    ·rename_i c k;cases h;exact⟨_,a,c,i,Xo (df k),rfl⟩
    cases h
   cases h
  cases h
def Wq{a n:Nat}{b:Option Bool}{s c:IS}{sub:Tr Ob}(h:GQ a n b s=some c)(d:Inv a sub s):Inv a sub c:=by
 obtain⟨e,K,f,g,_,_,rfl⟩:=lf h
 grind[Tq]
def Xq{c n:Nat}{b:Option Bool}{s a:IS}{σ:St}(h:GQ c n b s=some a)(d:Rel s σ):∃σ',Wk σ σ'/\Rel a σ':=by
 obtain⟨_,K,e,f,g,i,rfl⟩:=lf h
 grind[Uq]
def tC{call:VB}(A:gF ev P call){N H bs:Nat}:∀(c:Code)(s:IS)(r:Di)(k:KT),lD ev P call N H bs c s r k->∃e D u,Reach ev P H bs c s e D/\k e D u
 |.skip,s,r,k,h=>⟨.normal,s,r,⟨λ_ h=>h,λX t σ g C E a w O v=>wp_skip ⟨E,σ,.normal,v,rfl,rfl,g⟩⟩,h⟩|.seq a b,s,r,k,h=>by
  obtain⟨e,p,f,o,j⟩:=tC A a s r _ h
  cases e with
  |normal=>
   obtain⟨e,I,z,J,Q⟩:=tC A b p f _ j;exact⟨e,I,z,o.seq J,Q⟩
  |exit i=>exact⟨_,p,f,o.seq' (by simp),j⟩|ret=>exact⟨_,p,f,o.seq' (by simp),j⟩
 |.cond c x y,s,r,k,h=>by
  unfold lD at h;split at h
  ·rename_i b Y;have U:∀X,HX X ev P H bs->∀σ,Rel s σ->σ.val X.gl c=.pv (.bool b):=λX t σ g=>by rw[g.val,t.gl];exact Y
   split at h
   ·obtain⟨e,p,f,o,j⟩:=tC A x s r _ h;exact⟨e,p,f,⟨o.inv,λX t σ g=>AWP.condT (U X t σ g) (λ_=>o.awp X t σ g) (nofun)⟩,j⟩
   obtain⟨e,p,f,o,j⟩:=tC A y s r _ h;exact⟨e,p,f,⟨o.inv,λX t σ g=>AWP.condT (U X t σ g) (nofun) (λ_=>o.awp X t σ g)⟩,j⟩
  exact h.elim
 |.block id b,s,r,k,h=>by
  obtain⟨e,p,f,o,j⟩:=tC A b s r _ h;have key:∀K,(∀B σ',EM e p B σ'->dK id (EM K p) B σ')->Reach ev P H bs (.block id b) s K p:=λK Z=>⟨o.inv,λX t σ g=>AWP.block (AWP.mono (o.awp X t σ g) Z)⟩
  cases e with
  |normal=>exact⟨.normal,p,f,key _ (by rintro B σ' ⟨rfl,g⟩;exact⟨rfl,g⟩),j⟩|ret=>exact⟨.ret,p,f,key _ (by rintro B σ' ⟨rfl,g⟩;exact⟨rfl,g⟩),j⟩|exit i=>
   simp only[HQ]at j;split at j
   ·rename_i e;have e:=Nat.eq_of_beq_eq_true e;refine⟨.normal,p,f,key _ ?_,j⟩
    rintro B σ' ⟨rfl,g⟩
    simp only[AE.x,dK,if_pos e];exact⟨rfl,g⟩
   rename_i e;refine⟨.exit i,p,f,key _ ?_,j⟩
   rintro B σ' ⟨rfl,g⟩
   have R:¬i=id:=λK=>by rw[iE K]at e;cases e
   simp only[AE.x,dK,if_neg R];exact⟨rfl,g⟩
 |.exit id,s,r,k,h=>⟨.exit id,s,r,⟨λ_ h=>h,λX t σ g C E a w O v=>wp_exit ⟨E,σ,.exit id,v,rfl,rfl,g⟩⟩,h⟩|.ret,s,r,k,h=>⟨.ret,s,r,⟨λ_ h=>h,λX t σ g C E a w O v=>wp_ret ⟨E,σ,.ret,v,rfl,rfl,g⟩⟩,h⟩|.region id ops d,s,r,k,h=>by
  obtain⟨p,u,o,j⟩:=Nq (id:=id) A h;split at j
  ·split at j
   ·rename_i n V z _ _ L sz ty es ho;obtain⟨W,rfl,J⟩:=CB j;have W:Nat.blt n bs=false:=by simp_all
    have M:jJ bs p n=⟨p.sl.map (RC n L V),(p.ob.put n none).map (UD n L V),p.nx,p.dt⟩:=by
     unfold jJ;rw[W,ho];simp[cond_false,zK]
    refine⟨.normal,_,z,?_,J⟩;rw[<-M];refine⟨λsub S=>RX (o.inv sub S) n,λX t σ g=>AWP.postX (o.awp X t σ g) ?_⟩
    rintro B σ' ⟨rfl,F⟩
    obtain⟨τ,T,G⟩:=UX (bs:=bs) F n;exact⟨⟨τ,λC E a w _ v=>T C E a w v,rfl,G⟩,AE.x_np .normal⟩
   simp_all
  ·split at j
   ·rename_i I M;refine⟨.normal,I,_,⟨λsub S=>Wq M (o.inv sub S),λX t σ g=>AWP.postX (o.awp X t σ g) ?_⟩,j⟩
    rintro B σ' ⟨rfl,F⟩
    obtain⟨τ,T,G⟩:=Xq M F;exact⟨⟨τ,λC E a w _ v=>T C E a w v,rfl,G⟩,AE.x_np .normal⟩
   simp_all
  ·grind
  grind
 |.loop b,s,r,k,h=>by
  have hl:∀m s r,xY (lD ev P call N H bs b) k m s r->∃e D u,LoopIs ev P H bs b s e D/\k e D u:=by
   intro m
   induction m with
   |zero=>intro s r h;exact h.elim|succ m ih=>
    intro s r h;obtain⟨e,p,f,o,j⟩:=tC A b s r _ h
    cases e with
    |normal=>
     obtain⟨e,I,z,J,Q⟩:=ih p f j;exact⟨e,I,z,J.round o,Q⟩
    |exit i=>exact⟨_,p,f,.last (by simp) o,j⟩|ret=>exact⟨_,p,f,.last (by simp) o,j⟩
  unfold lD at h;split at h
  ·obtain⟨hk,h0⟩:=CB h;obtain⟨⟨o,j⟩,ha⟩:=jI h0;exact⟨_,_,_,o.reach.kept (HM hk ha),j⟩
  obtain⟨e,D,u,o,j⟩:=hl N s r h;exact⟨e,D,u,o.reach,j⟩
 |.scope b,s,r,k,h=>by
  obtain⟨e,p,f,o,j⟩:=tC A b s r _ h;exact⟨e,p,f,⟨o.inv,λX t σ g=>AWP.scopeT (o.awp X t σ g)⟩,j⟩
 |.label l,s,r,k,h=>⟨.normal,s,r,⟨λ_ h=>h,λX t σ g C E a w O v=>wp_label ⟨E,σ,.normal,v,rfl,rfl,g⟩⟩,h⟩|.rangeFunc _ _ _ _,_,_,_,h=>h.elim|.goto _,_,_,_,h=>h.elim|.refuse _,_,_,_,h=>h.elim
open Classical in
noncomputable def oO (nt bs:Nat)(c:Code)(s:IS)(e:AE)(s':IS):AQ:=λ nt' bs' c' s1 k=>if nt'=nt/\bs'=bs/\c'=c/\s1=s then k e s' else none
def HY{p t:Nat}{c:Code}{s b:IS}{e:AE}(h:Reach ev P p t c s e b):Good ev P (oO p t c s e b):=by
 refine⟨λd f u v k r a sub g=>?_,λd f u v k r a X w i j l m sub σ x g=>?_⟩
 ·unfold oO at a;split at a
  ·rename_i n;obtain⟨rfl,rfl,rfl,rfl⟩:=n;exact⟨e,b,h.inv sub g,a⟩
  cases a
 unfold oO at a;split at a
 ·rename_i n;obtain⟨rfl,rfl,rfl,rfl⟩:=n;refine AWP.mono (h.awp X ⟨w,i,j,l,m⟩ σ x) ?_
  rintro y σ' ⟨rfl,o⟩
  exact⟨e,b,rfl,o,h.inv sub g,a⟩
 cases a
def sH(g:SF ev P)(N:Nat):∀(n:Nat),gF ev P (VF ev P N n)
 |0=>λ_ _ _ _ _ h=>h.elim|n+1=>λf args s t k h=>by
  unfold VF at h;split at h
  ·rename_i fn i;split at h
   ·rename_i c j;obtain⟨l,h⟩:=CB h;split at h
    ·rename_i sub m a;obtain⟨e,u,b,o,d⟩:=tC (sH g N n) _ _ _ _ h;split at d
     ·rename_i r p;refine⟨r,m,b,tT (HY o) g i j (Nat.le_of_ble_eq_true l) a ?_,d⟩;unfold lO oO;simp only[and_self,if_true];exact p
     exact d.elim
    exact h.elim
   exact h.elim
  exact h.elim
def LoopIs.of_round(l:SF ev P){n N g j:Nat}{b:Code}{s k:IS}{m:Di}{o p:Kp}{e:AE}(h:Me ev P n N g j b s m o p e k):LoopIs ev P g j b s e k:=by
 obtain⟨r,u,t,f,a⟩:=tC (sH l N n) _ _ _ _ h
 cases r with
 |normal=>
  obtain⟨c,a⟩:=CB a;obtain⟨a,d⟩:=jI a;exact .round (f.keep (HM c d)) a
 |exit i=>
  obtain⟨rfl,a⟩:=a;obtain⟨c,a⟩:=CB a;obtain⟨a,d⟩:=jI a;exact a▸.last (by simp) (f.keep (HM c d))
 |ret=>
  obtain⟨rfl,a⟩:=a;obtain⟨c,a⟩:=CB a;obtain⟨a,d⟩:=jI a;exact a▸.last (by simp) (f.keep (HM c d))
theorem AC.wO{f:Nat}{args:List V}{p:PV}{b a:List (Nat×Ob)}(n:Nat)(h:AC P ev.gl f args b (.ret (.pv p)) a):AC P ev.gl f args b (.ret (.pv (p.w n))) a:=h.leO λH v=>CT n p v
def IY(d:SF ev P){N n f:Nat}{args:List PV}{e:Di}{x:PV}(h:AY ev P N n f args e x):AC P ev.gl f (args.map .pv) [] (.ret (.pv x)) []:=by
 obtain⟨⟨y,i,j,k⟩,l,g,⟨ro,b,a⟩,c⟩:=sH d N n _ _ _ _ _ h;unfold Oe at c;split at c
 ·have m:ro=[]:=by
   cases ro with|nil=>rfl|cons p r=>have:=a.subs p (by simp);cases this
  have o:b=[]:=by
   cases b with|nil=>rfl|cons p r=>have:=a.subs p (by simp);cases this
  have:=a.ac
  grind[AC.wO]
 simp_all
end
def getO_iff{l:List (Nat×Ob)}{n:Nat}:n∈jA l↔(zA l n).isSome=true:=by
 constructor
 ·intro h
  cases e:zA l n with
  |some o=>rfl|none=>
   induction l with
   |nil=>cases h
   |cons p r b=>
    obtain⟨k,q⟩:=p;unfold zA at e;by_cases a:k=n
    ·rw[if_pos a]at e;cases e
    rw[if_neg a]at e;rcases List.mem_cons.1 h with h|h
    ·simp_all
    exact b h e
 intro h;obtain⟨o,c⟩:=Option.isSome_iff_exists.1 h;exact keysO_mem.2 ⟨o,vJ c⟩
def AC.cong{P:Program}{s:Nat->Option (List PV)}{f:Nat}{args:List V}{a b k l:List (Nat×Ob)}{out:Out}(h:AC P s f args a out k)(g:∀n,zA a n=zA b n)(i:∀n,zA k n=zA l n)(F:∀n,n∈FC a->n∈FC b):AC P s f args b out l:=by
 have:∀n,n∈jA a↔n∈jA b:=λn=>by rw[getO_iff,getO_iff,g]
 have:∀n,n∈jA k↔n∈jA l:=λn=>by rw[getO_iff,getO_iff,i]
 have y:∀n,(n∈jA a\/n∈jA k\/n∈HE args a)->(n∈jA b\/n∈jA l\/n∈HE args b):=by
  grind[HE,id]
 refine⟨h.direct,λn c=>y n (h.names n c),λm o j n c=>y n (h.namesO m o (by rw[i];exact j) n c),λE w z p A B=>?_⟩;have t:RH s E w a:=⟨p.heap,p.glob,λn o c=>p.obs n o (by rw[<-g];exact c),λn m o r c j=>p.apart n m o r (by rw[<-g];exact c) (by rw[<-g];exact j)⟩;refine(h.calls E w z t A B).mono ?_
 rintro e I ⟨C,d,D⟩
 refine⟨C,⟨d.heap,λn o c=>d.obs n o (by rw[i];exact c),λn m o r c j=>d.apart n m o r (by rw[i];exact c) (by rw[i];exact j),d.hle,d.size,d.rest,λb u v=>d.same b u (λn o c=>v n o (by rw[<-g];exact c)),λn o b c u=>?_,λn o c=>d.ext n o (by rw[g];exact c),λn c x=>d.other n (by rw[g];exact c) (by rw[i];exact x)⟩,D⟩;rcases d.own n o b (by rw[i];exact c) u with h|⟨m,r,h,J⟩
 ·omega
 grind
def xO:∀(l:List (Nat×Ob))(t:Tr Ob),(jA l).Nodup->∀n,(HB l t).get n=match zA l n with|some o=>some o|none=>t.get n
 |[],t,_,n=>rfl|(k,q)::r,t,a,n=>by
  obtain⟨b,c⟩:=List.nodup_cons.1 a;simp only[HB];rw[xO r _ c,Tr.get_put];by_cases e:k=n
  ·subst e;have:zA r k=none:=by
    cases e:zA r k with|none=>rfl|some o=>exact absurd (getO_iff.2 (by rw[e];rfl)) b
   rw[this];simp[zA]
  rw[if_neg (Ne.symm e)];simp only[zA,if_neg e]
theorem LQ:∀(a:List (Nat×Ob))(n:Nat)(o:Ob),IQ n o a=match zA a n with|some b=>b|none=>o
 |[],n,o=>rfl|(m,q)::r,n,o=>by
  unfold IQ;by_cases e:n=m
  ·subst e;simp[zA]
  rw[lK e,cond_false,LQ r n o];simp only[zA,if_neg (Ne.symm e)]
def JY(a:List (Nat×Ob)):∀(l:List (Nat×Ob))(n:Nat),zA (eO a l) n=(zA l n).map λo=>IQ n o a
 |[],n=>rfl|(k,q)::r,n=>by
  simp only[eO,zA];by_cases e:k=n
  ·simp_all
  rw[if_neg e,if_neg e,JY a r n]
def MT(a b:List (Nat×Ob))(n:Nat):zA (a++b) n=match zA a n with|some o=>some o|none=>zA b n:=by
 induction a with
 |nil=>rfl|cons p r c=>
  grind[zA]
def Yq{s:MA}{P:Program}(B:SF s P){N n f m:Nat}{args:List V}{a b:List (Nat×Ob)}{C:Di}{x:V}(h:Qe s P N n f args a m C x b):AC P s.gl f args a (.ret x) b:=by
 obtain⟨t,h⟩:=CB h;obtain⟨⟨y,u,H,I⟩,J,D,⟨ro,v,i⟩,r⟩:=sH B N n _ _ _ _ _ h;have t:=iO t;rw[WF]at t;unfold Pe at r;split at r
 ·rename_i e;cases e;obtain⟨E,r⟩:=CB r;obtain⟨j,K⟩:=HG E;have j:=GM j;rw[WF]at j;cases r;have w:∀k,(HB a .nil).get k=zA a k:=λk=>by
   rw[xO a _ t];cases zA a k<;>rfl
  have d:∀p∈ro++v,zA a p.1=some p.2:=λp z=>by rw[<-w];exact i.subs p z
  have g:∀k,zA (ro++v) k=zA a k:=by
   intro k
   cases e:zA (ro++v) k with
   |some o=>exact(d (k,o) (vJ e)).symm|none=>
    cases l:zA a k with
    |none=>rfl|some o=>
     have c:=i.all k (j k (getO_iff.2 (by rw[l];rfl)));rw[getO_iff,e]at c;cases c
  have key:AC P s.gl f args a (.ret y) (eO u a):=by
   refine AC.cong i.ac g (λk=>?_) (λk j=>?_)
   ·rw[JY,<-g,List.append_nil,MT,MT]
    cases e:zA ro k with
    |some o=>
     have c:=(i.apart k (getO_iff.2 (by rw[e];rfl))).2;have L:zA u k=none:=by
      cases l:zA u k with|none=>rfl|some o=>exact absurd (by simpa using getO_iff.2 (by rw[l];rfl)) c
     grind[LQ]
    |none=>
     cases l:zA v k with
     |some o=>
      have c:=i.inch k (getO_iff.2 (by rw[l];rfl));obtain⟨M,F⟩:=Option.isSome_iff_exists.1 (getO_iff.1 c)
      grind[LQ]
     |none=>
      cases G:zA u k with
      |none=>rfl|some o=>
       have c:=(i.chs k (getO_iff.2 (by rw[G];rfl))).2.2;rw[getO_iff,l]at c;cases c
   obtain⟨p,z,A⟩:=mem_mentO.1 j;exact mem_mentO.2 ⟨p,vJ (d p z),A⟩
  cases y with|pv p=>exact AC.wO 4 key|_=>exact key
 simp_all
section
variable{ev:MA}{P:Program}
def mf{X:Env1}{b:Code}{Q j:EB->St->Prop}(n:∀c σ',Q c σ'->(∃σ'',DM X σ' σ''/\j c σ'')/\(∀p,c≠.panic p)/\c≠.normal):∀(m:Nat)(σ:St),UH X b Q m σ->UH X b j m σ
 |0,_,h=>h|m+1,σ,h=>by
  intro C E a w o v;refine wp_mono (h C E a w o v) ?_
  rintro e r s ⟨t,σ',c,f,u,d⟩
  have key:c≠.normal->Q c σ'->XI C (QS (UH X b j m) j) e r s:=by
   intro z x;obtain⟨⟨σ'',y,k⟩,A,_⟩:=n c σ' x;obtain⟨l,g⟩:=y C t r s o f;refine⟨l,σ'',c,g,?_,?_⟩
   ·cases c with|panic p=>simp_all|_=>exact u
   cases c with|normal=>simp_all|_=>exact k
  cases c with|normal=>exact⟨t,σ',.normal,f,u,mf n m σ' d⟩|exit i=>exact key (by simp) d|ret=>exact key (by simp) d|panic p=>exact key (by simp) d
def LoopIs.post{d c:Nat}{b:Code}{s f a:IS}{e:AE}(j:e≠.normal)(h:LoopIs ev P d c b s e f)(k:∀sub,Inv c sub f->Inv c sub a)(l:∀X,HX X ev P d c->∀σ,Rel f σ->∃τ,DM X σ τ/\Rel a τ):LoopIs ev P d c b s e a:=by
 obtain⟨n,m,o⟩:=h;refine⟨λsub p=>k sub (n sub p),m,λX i σ r=>mf ?_ m σ (o X i σ r)⟩
 rintro v σ' ⟨rfl,g⟩
 obtain⟨τ,t,u⟩:=l X i σ' g;exact⟨⟨τ,t,rfl,u⟩,AE.x_np e,by cases e<;>simp[AE.x]at j⊢⟩
def XF(n a:Nat)(b:List (List PV)):List (Nat×V)->List (Nat×V)|[]=>[]|(t,x)::r=>(t,RC n a b x)::XF n a b r
def OE(n a:Nat)(b:List (List PV)):List (Nat×Ob)->List (Nat×Ob)|[]=>[]|(m,o)::r=>if m=n then OE n a b r else(m,UD n a b o)::OE n a b r
def sf(n a:Nat)(b:List (List PV)):∀(l:List (Nat×V))(t c:Tr V)(i:Nat),c.get i=(t.get i).map (RC n a b)->(qI (XF n a b l) c).get i=((qI l t).get i).map (RC n a b)
 |[],t,c,i,h=>h|(k,x)::r,t,c,i,h=>by
  refine sf n a b r _ _ i ?_;rw[Tr.get_put,Tr.get_put];by_cases e:i=k
  ·rw[if_pos e,if_pos e];rfl
  rw[if_neg e,if_neg e];exact h
def KY(n a:Nat)(c:List (List PV)):∀(l:List (Nat×Ob))(t d:Tr Ob)(i:Nat),(i≠n->d.get i=(t.get i).map (UD n a c))->(i=n->d.get i=none)->(HB (OE n a c l) d).get i=if i=n then none else((HB l t).get i).map (UD n a c)
 |[],t,d,i,h,f=>by
  split
  ·rename_i e;exact f e
  rename_i e;exact h e
 |(k,x)::r,t,d,i,h,f=>by
  simp only[OE,HB];split
  ·rename_i e;refine KY n a c r _ _ i (λb=>?_) f;rw[Tr.get_put,if_neg (λh=>b (h.trans e))];exact h b
  rename_i e;refine KY n a c r _ _ i (λb=>?_) (λb=>?_)
  ·rw[Tr.get_put,Tr.get_put];by_cases g:i=k
   ·rw[if_pos g,if_pos g];rfl
   rw[if_neg g,if_neg g];exact h b
  rw[Tr.get_put,if_neg (λh=>e (h.symm.trans b))];exact f b
def LoopIs.fz{o bs:Nat}{b:Code}{s:IS}{e:AE}{f:List (Nat×V)}{d:List (Nat×Ob)}{g:Nat}{j:List Nat}(r:e≠.normal)(h:LoopIs ev P o bs b s e ⟨qI f .nil,HB d .nil,g,j⟩)(n:Nat){ver sz ty:Nat}{ps:List (List PV)}(u:Nat.blt n bs=false)
  (v:(HB d .nil).get n=some (.arr ver sz ty (kA ps))):LoopIs ev P o bs b s e ⟨qI (XF n ver ps f) .nil,HB (OE n ver ps d) .nil,g,j⟩:=by
 have p:jJ bs ⟨qI f .nil,HB d .nil,g,j⟩ n=⟨(qI f .nil).map (RC n ver ps),((HB d .nil).put n none).map (UD n ver ps),g,j⟩:=by
  unfold jJ;rw[u,v];simp[cond_false,zK]
 have x:∀i,(qI (XF n ver ps f) .nil).get i=((qI f .nil).map (RC n ver ps)).get i:=λi=>by rw[Tr.get_map];exact sf n ver ps f .nil .nil i rfl
 have k:∀i,(HB (OE n ver ps d) .nil).get i=(((HB d .nil).put n none).map (UD n ver ps)).get i:=λi=>by
  rw[Tr.get_map,Tr.get_put,KY n ver ps d .nil .nil i (λ_=>rfl) (λ_=>rfl)];split<;>rfl
 refine h.post r (λ_ y=>?_) (λX _ σ z=>?_)
 ·have:=RX y n;rw[p]at this;exact⟨this.le,λi l A=>(k i).trans (this.same i l A),λi l B=>this.old i l ((k i)▸B),this.names,this.dts⟩
 obtain⟨τ,D,c⟩:=UX (bs:=bs) z n;rw[p]at c;exact⟨τ,λC E a w _ F=>D C E a w F,⟨λt=>(c.sl t).trans (by rw[x]),λm=>(c.ob m).trans (k m).symm,c.us⟩⟩
end
section
variable{ev:MA}{P:Program}
structure Reach2(ev:MA)(P:Program)(nt bs:Nat)(c:Code)(s:IS)(k:KT):Prop where
 syn:∃e s' tp,(∀sub,Inv bs sub s->Inv bs sub s')/\k e s' tp
 awp:∀X,HX X ev P nt bs->∀σ,Rel s σ->AWP X c σ λae σ'=>∃e s' tp,ae=AE.x e/\Rel s' σ'/\(∀sub,Inv bs sub s->Inv bs sub s')/\k e s' tp
theorem Reach2.of{d f:Nat}{c:Code}{s a:IS}{e:AE}{b:Di}{k:KT}(h:Reach ev P d f c s e a)(g:k e a b):Reach2 ev P d f c s k:=
 ⟨⟨e,a,b,h.inv,g⟩,λX d σ f=>AWP.mono (h.awp X d σ f) (by rintro d σ' ⟨rfl,d⟩;exact⟨e,a,b,rfl,d,h.inv,g⟩)⟩
def kJ{call:VB}(p:gF ev P call){N nt bs:Nat}:∀(c:Code)(s:IS)(j:Di)(k:KT),GG ev P call N nt bs c s j k->Reach2 ev P nt bs c s k
 |.seq a b,s,j,k,h=>by
  have E:=kJ p a s j _ h;have t:∀m f,GG ev P call N nt bs b m f k->Reach2 ev P nt bs b m k:=λm f g=>kJ p b m f k g
  refine⟨?_,λX n σ r=>AWP.seq (AWP.mono (E.awp X n σ r) ?_)⟩
  ·obtain⟨e,m,f,z,g⟩:=E.syn
   cases e with
   |normal=>
    obtain⟨e,I,G,H,o⟩:=(t m f g).syn
    grind
   |exit i=>exact⟨.exit i,m,f,z,g⟩|ret=>exact⟨.ret,m,f,z,g⟩
  rintro J σ' ⟨e,m,f,rfl,u,z,g⟩
  cases e with
  |normal=>
   refine AWP.mono ((t m f g).awp X n σ' u) ?_
   grind
  |exit i=>exact⟨.exit i,m,f,rfl,u,z,g⟩|ret=>exact⟨.ret,m,f,rfl,u,z,g⟩
 |.block id b,s,j,k,h=>by
  have t:=kJ p b s j _ h;have key:∀e m f,HQ id k e m f->∃B,k B m f/\∀(Q:EB->St->Prop)σ',Q (AE.x B) σ'->dK id Q (AE.x e) σ':=by
   intro e m f g
   cases e with
   |normal=>exact⟨.normal,g,λQ σ' v=>v⟩|ret=>exact⟨.ret,g,λQ σ' v=>v⟩|exit i=>
    simp only[HQ]at g;split at g
    ·rename_i e;have e:=Nat.eq_of_beq_eq_true e;refine⟨.normal,g,λQ σ' v=>?_⟩;simp only[AE.x,dK,if_pos e];exact v
    rename_i e;have C:¬i=id:=λB=>by rw[iE B]at e;cases e
    refine⟨.exit i,g,λQ σ' v=>?_⟩;simp only[AE.x,dK,if_neg C];exact v
  refine⟨?_,λX n σ r=>AWP.block (AWP.mono (t.awp X n σ r) ?_)⟩
  ·obtain⟨e,m,f,z,g⟩:=t.syn
   grind
  grind
 |.scope b,s,j,k,h=>by
  have t:=kJ p b s j _ h;exact⟨t.syn,λX n σ r=>AWP.scopeT (t.awp X n σ r)⟩
 |.cond c x y,s,j,k,h=>by
  unfold GG at h;split at h
  ·rename_i b t;obtain⟨A,w⟩:=h;have w:=kJ p y s j k w;have A:b=true->Reach2 ev P nt bs x s k:=λe=>kJ p x s j k (A e)
   refine⟨w.syn,λX n σ r=>Ro (v:=.pv (.flg b)) (by rw[r.val,n.gl];exact t) ⟨λe=>(A e).awp X n σ r,w.awp X n σ r⟩⟩
  ·rename_i b t;have F:∀X,HX X ev P nt bs->∀σ,Rel s σ->σ.val X.gl c=.pv (.bool b):=λX n σ r=>by rw[r.val,n.gl];exact t
   split at h
   ·have A:=kJ p x s j k h;exact⟨A.syn,λX n σ r=>AWP.condT (F X n σ r) (λ_=>A.awp X n σ r) (nofun)⟩
   have w:=kJ p y s j k h;exact⟨w.syn,λX n σ r=>AWP.condT (F X n σ r) (nofun) (λ_=>w.awp X n σ r)⟩
  exact h.elim
 |.skip,s,j,k,h=>by obtain⟨e,m,f,g,o⟩:=tC p .skip s j k h;exact .of g o|.exit id,s,j,k,h=>by obtain⟨e,m,f,g,o⟩:=tC p (.exit id) s j k h;exact .of g o|.ret,s,j,k,h=>by obtain⟨e,m,f,g,o⟩:=tC p .ret s j k h;exact .of g o|.region id D d,s,j,k,h=>by obtain⟨e,m,f,g,o⟩:=tC p (.region id D d) s j k h;exact .of g o|.loop b,s,j,k,h=>by obtain⟨e,m,f,g,o⟩:=tC p (.loop b) s j k h;exact .of g o|.label l,s,j,k,h=>by obtain⟨e,m,f,g,o⟩:=tC p (.label l) s j k h;exact .of g o|.rangeFunc a b c d,s,j,k,h=>by obtain⟨e,m,f,g,o⟩:=tC p (.rangeFunc a b c d) s j k h;exact .of g o|.goto l,s,j,k,h=>by obtain⟨e,m,f,g,o⟩:=tC p (.goto l) s j k h;exact .of g o|.refuse l,s,j,k,h=>by obtain⟨e,m,f,g,o⟩:=tC p (.refuse l) s j k h;exact .of g o
def LY:∀args:List PV,CA (args.map V.pv)=[]|[]=>rfl|a::l=>by show []++CA (l.map V.pv)=[];rw[LY l];rfl
open Classical in
noncomputable def MQ (nt bs:Nat)(c:Code)(s:IS)(K:AE->IS->Option GB)(r:GB):AQ:=λ nt' bs' c' s1 k=>if nt'=nt/\bs'=bs/\c'=c/\s1=s/\k=K then some r else none
def Zq(I:SF ev P){N n f:Nat}{args:List PV}{J:Di}{d:Kp}{x:PV}(h:BY ev P N n f args J d x):AC P ev.gl f (args.map .pv) [] (.ret (.pv x)) []:=by
 unfold BY at h;split at h
 ·rename_i fn Q;split at h
  ·rename_i c R;obtain⟨hl,h⟩:=CB h;let o:IS:=⟨VD 0 (args.map .pv) .nil,.nil,0,[]⟩;let K:=gO ev.T 0 .nil fn.results.toList;let r:GB:=⟨.pv x,[],[],d.nx⟩;have L:=kJ (sH I N n) (nt:=fn.ntmps) (bs:=0) c o J _ h;have b:∀e g,gd (AK d 0 g) (TF g.ob d.on (K e (EG d g)=some r))->KpOK d 0 g/\K e (EG d g)=some r:=by
    grind[CB,jI,HM]
   have S:Good ev P (MQ fn.ntmps 0 c o K r):=by
    refine⟨λs t T g k U a sub u=>?_,λs t T g k U a X W v w y z sub σ i u=>?_⟩
    ·unfold MQ at a;split at a
     ·rename_i A;obtain⟨rfl,rfl,rfl,rfl,rfl⟩:=A;cases a;obtain⟨e,B,C,D,j⟩:=L.syn;obtain⟨m,E⟩:=b e B j;exact⟨e,_,m.inv (D sub u),E⟩
     cases a
    unfold MQ at a;split at a
    ·rename_i A;obtain⟨rfl,rfl,rfl,rfl,rfl⟩:=A;cases a;have M:HX X ev P fn.ntmps 0:=⟨W,v,w,y,z⟩;refine AWP.postX (L.awp X M σ i) ?_
     rintro ae σ' ⟨e,B,C,rfl,F,D,j⟩
     obtain⟨m,E⟩:=b e B j;obtain⟨τ,Y,Z⟩:=m.wk M F;exact⟨⟨τ,Y,e,_,rfl,Z,m.inv (D sub u),E⟩,AE.x_np e⟩
    cases a
   have l:lO ev (MQ fn.ntmps 0 c o K r) fn c (args.map .pv) 0 .nil=some r:=by
    unfold lO MQ
    grind
   have hn:CA (args.map V.pv)=[]:=by
    simp[LY]
   have G:reach 0 .nil 1000000 (CA (args.map V.pv)) .nil []=some (.nil,[]):=by rw[hn];rfl
   obtain⟨ro,O,H⟩:=tT (s:=⟨.nil,.nil,0,[]⟩) S I Q R (by simp_all) G l;have h1:ro=[]:=by
    cases ro with|nil=>rfl|cons p r=>have:=H.subs p (by simp);cases this
   have j:O=[]:=by
    cases O with|nil=>rfl|cons p r=>have:=H.subs p (by simp);cases this
   have:=H.ac;rw[h1,j]at this;exact this
  simp_all
 simp_all
end
def af(a:Nat)(o:Oper):Bool:=match o.op with
 |.panic _=>Nat.beq 99999 a|_=>match o.dst with|some d=>Nat.beq d a|none=>false
def qr:PV->Bool|.iface _ _=>true|_=>false
def NT(a:MA)(P:Program)(b:Nat)(o:Oper)(s:IS)(c:Di)(p:PV)(k:List Nat->Prop):Prop:=match o.guard with
 |some _=>False|none=>gd (BQ b o.dst) (match JC (s.val a.gl) o.op with
  |some (f,args)=>match oK (oT o.dst) c with|some (.r _,_)=>AC P a.gl f (wA args) [] (.panic p) []/\k []|some (.o ro _ _,_)=>gd (UF ro) (aO s.ob ro λl=>AC P a.gl f (wA args) l (.panic p) []/\k ro)|_=>False
  |none=>match o.op with|.panic x=>s.val a.gl x=.pv p/\gd (qr p) (k [])|_=>False)
def NQ(b:MA)(P:Program)(call:VB)(c d:Nat)(all:List Oper)(e:Nat)(p:PV):List Oper->IS->Di->(IS->List Nat->Prop)->Prop
 |[],_,_,_=>False|o::r,s,a,k=>match af e o with|true=>NT b P c o s a p (k s)|false=>xT b P call c d all o s a λf _ a=>NQ b P call c d all e p r f a k
def IM(a:Nat):List Oper->Nat->Nat|[],i=>i|o::r,i=>bif af a o then i else IM a r (i+1)
def cf(a:List Oper)(jp:Nat)(b:List Bool):Bool:=(List.range a.length).all λi=>match a[i]? with|some o=>(b.getD i false)==(!(Nat.beq i jp)&&(BG o).all λd=>b.getD d false)|none=>false
def OT(jp:Nat):List Oper->Nat->List Bool->List Bool|[],_,a=>a|o::r,i,a=>OT jp r (i+1) (a++[!(Nat.beq i jp)&&(BG o).all λd=>a.getD d false])
def AO(a:MA)(P:Program)(call:VB)(c e:Nat)(all:List Oper)(jp:Nat)(p:PV)(f:List Bool):Nat->List Oper->IS->List Tc->Di->(List Tc->Prop)->Prop
 |_,[],_,d,_,k=>k d|i,o::r,s,d,b,k=>match Nat.beq i jp with
  |true=>match JC (s.val a.gl) o.op with|some _=>NT a P c o s b p λro=>AO a P call c e all jp p f (i+1) r s (⟨[],ro⟩::d) b k|none=>False
  |false=>match f.getD i false with|true=>xT a P call c e all o s b λg h b=>AO a P call c e all jp p f (i+1) r g (h::d) b k|false=>AO a P call c e all jp p f (i+1) r s (⟨[],[]⟩::d) b k
def xf(e:MA)(P:Program)(call:VB)(f d:Nat)(a:List Oper)(c:Bool)(b:Nat)(p:PV)(s:IS)(g:Di):Prop:=match c with
 |false=>NQ e P call f d a b p a (iK d (YH a) s) g λ_ _=>True|true=>gd (rT a) (gd (Nat.blt (IM b a 0) a.length) (gd (cf a (IM b a 0) (OT (IM b a 0) a 0 []))
   (AO e P call f d a (IM b a 0) p (OT (IM b a 0) a 0 []) 0 a (iK d (YH a) s) [] g λb=>match eK b with|true=>True|false=>gd (nO a b.reverse) True)))
def yJ(r:Nat):Code->Bool|.region id _ _=>Nat.beq id r|.seq a b=>bif yJ r a then true else yJ r b|.block _ b=>yJ r b|.scope b=>yJ r b|.cond _ a b=>bif yJ r a then true else yJ r b|_=>false
def wI(g:MA)(P:Program)(call:VB)(N h i rg j:Nat)(p:PV):Code->IS->Di->Prop
 |.seq a b,s,f=>match yJ rg a with
  |true=>wI g P call N h i rg j p a s f|false=>lD g P call N h i a s f λe s f=>match e with|.normal=>wI g P call N h i rg j p b s f|_=>False
 |.block _ b,s,f=>wI g P call N h i rg j p b s f|.scope b,s,f=>wI g P call N h i rg j p b s f|.cond c x y,s,f=>match s.val g.gl c with
  |.pv (.bool b)=>match b with|true=>wI g P call N h i rg j p x s f|false=>wI g P call N h i rg j p y s f
  |_=>False
 |.region _ k d,s,f=>xf g P call h i k.toList d j p s f|_,_,_=>False
def MY(b:MA)(P:Program)(N n f:Nat)(args:List V)(a:List (Nat×Ob))(m rg d:Nat)(e:Di)(p:PV):Prop:=match b.F f with
 |some fn=>match fn.body with
  |some c=>gd (Nat.ble args.length fn.ntmps) (gd (UF (jC a)) (gd (FG m (jC a)) (gd (xK (CA args) (jC a)) (gd (xK (gC a) (jC a))
   (wI b P (VF b P N n) N fn.ntmps m rg d p c ⟨VD 0 args .nil,HB a .nil,m,[]⟩ e)))))
  |none=>False
 |none=>False
section
variable{ev:MA}{P:Program}
structure Af(ev:MA)(P:Program)(o:Oper)(s:IS)(p:PV)(ro:List Nat)(f:Nat)(args:List V)(l:List (Nat×Ob)):Prop where
 g:o.guard=none
 fe:JC (s.val ev.gl) o.op=some (f,args)
 ac:AC P ev.gl f args l (.panic p) []
 ks:jA l=ro
 ob:∀q∈l,s.ob.get q.1=some q.2
def Bf{g:Nat}{o:Oper}{s:IS}{i:Di}{p:PV}{k:List Nat->Prop}(h:NT ev P g o s i p k):BQ g o.dst=true/\((∃ro f args l,Af ev P o s p ro f args l/\k ro)\/(JC (s.val ev.gl) o.op=none/\o.guard=none/\∃x t q,o.op=.panic x/\p=.iface t q/\s.val ev.gl x=.pv p/\k [])):=by
 unfold NT at h;split at h
 ·simp_all
 rename_i b;obtain⟨j,h⟩:=CB h;refine⟨j,?_⟩;split at h
 ·rename_i f args a;refine .inl ?_;split at h
  ·exact⟨[],f,args,[],⟨b,a,h.1.wA,rfl,λq m=>by cases m⟩,h.2⟩
  ·rename_i ro _ _ _ _;obtain⟨_,h⟩:=CB h;obtain⟨l,c,d,e,n⟩:=ET h;exact⟨ro,f,args,l,⟨b,a,e.wA,c,d⟩,n⟩
  exact h.elim
 rename_i a;split at h
 ·rename_i x r;obtain⟨c,h⟩:=h;obtain⟨d,e⟩:=CB h
  cases p with|iface t q=>exact .inr ⟨a,b,x,t,q,r,rfl,c,e⟩|_=>cases d
 exact h.elim
def zr{σ:St}{s:IS}{l:List (Nat×Ob)}(a:Rel s σ):∀n,n∉jA l->zA (σ.eff none (IC .undef l [])).objs n=s.ob.get n:=λn b=>by
 rw[<-a.ob];show zA (dF σ.objs (AG l [])) n=_;rw[SH];simp only[zA,if_neg b]
def NY{call:VB}(J:gF ev P call){K L:Nat}{all:List Oper}{O:Nat}{p:PV}{k:IS->List Nat->Prop}:∀(l:List Oper){s:IS}{M:Di},NQ ev P call K L all O p l s M k->
  ∀X,HX X ev P K L->∀{C:Ctx}{Q:Exit->Act->World->Prop},(∀E τ a w v,Ga C E τ a w->RepP E.H p v->(∃s ro,k s ro/\(∀n,n∉ro->zA τ.objs n=s.ob.get n)/\∀t,IA τ.slots t=(match s.sl.get t with|some v=>v|none=>.undef))->Q (.panic [{v,recovered:=false}]) a w)->
  ∀{E:Env}{σ:St}{a:Act}{w:World},TH X C->Rel s σ->Ga C E σ a w->wpList X.P all.toArray Q l a w
 |[],_,_,h,_,_,_,_,_,_,_,_,_,_,_,_=>h.elim|o::r,s,M,h,X,b,C,Q,i,E,σ,a,w,j,g,y=>by
  unfold NQ at h;split at h
  ·obtain⟨R,h⟩:=Bf h;have z:∀d,o.dst=some d->d<C.nt:=by
    have:=JQ R b.nt;intro d e;rw[j.nt];rw[e]at this;exact this
   have S:XN ((jA ([]:List (Nat×Ob))).filter λn=>(zA ([]:List (Nat×Ob)) n).isNone) σ.used:=by simp[jA,XN]
   have key:∀A:PV->St->Prop,(∀q τ,A q τ->q=p/\∃s ro,k s ro/\(∀n,n∉ro->zA τ.objs n=s.ob.get n)/\∀t,IA τ.slots t=(match s.sl.get t with|some v=>v|none=>.undef))->o.guard=none->gQ X false A o σ (λ_=>False)->wpList X.P all.toArray Q (o::r) a w:=λA T B h=>by
    unfold wpList;rw[if_pos (by simp[Region.wanted,B])];exact .inl (Io X.ok j.glob y z (λ_ _ _ _ h=>h.elim) (λE τ q v a w y c D=>by
     obtain⟨e,U⟩:=T q τ c;exact i E τ a w v y (e▸D) U) h)
   rcases h with ⟨ro,f,args,l,m,F⟩|⟨G,B,x,t,q,V,rfl,D,F⟩
   ·refine key (λq τ=>q=p/\τ=σ.eff none (IC .undef l [])) (λq τ c=>⟨c.1,s,ro,F,c.2▸m.ks▸zr g,c.2▸g.sl⟩) m.g ?_;have u:JC (σ.val X.gl) o.op=some (f,args):=by rw[g.val,b.gl];exact m.fe
    unfold gQ;rw[u];exact⟨l,.panic p,[],(by rw[b.P,b.gl];exact m.ac),(BM λq c=>by rw[g.ob];exact m.ob q c),S,rfl,rfl,rfl⟩
   refine key (λN τ=>N=.iface t q/\τ=σ) (λN τ c=>⟨c.1,s,[],F,λn _=>c.2▸g.ob n,c.2▸g.sl⟩) B ?_;have u:JC (σ.val X.gl) o.op=none:=by rw[g.val,b.gl];exact G
   have H:σ.val X.gl x=.pv (.iface t q):=by rw[g.val,b.gl];exact D
   unfold gQ;rw[u];simp only[kX,V,H,yX,and_self]
  obtain⟨s1,tc,W,u,H⟩:=FY J h;obtain⟨e,Y,Z,_⟩:=u.ok X b.P b.T b.gl b.nt σ g;exact He X.ok j.glob j.nt Y y λE' a' w' I=>NY J r H X b i j Z I
inductive OpsL(ev:MA)(P:Program)(nt bs:Nat)(all:List Oper)(jp:Nat)(p:PV)(lv:List Bool):Nat->List Oper->IS->List Tc->List Tc->Prop|nil (i:Nat) (s:IS) (tr:List Tc):OpsL ev P nt bs all jp p lv i [] s tr tr|pan {o:Oper} {l:List Oper} {s:IS} {tr tr2:List Tc} {ro:List Nat} {f:Nat} {args:List V} {m:List (Nat×Ob)} (h:Af ev P o s p ro f args m) (h':OpsL ev P nt bs all jp p lv (jp+1) l s (⟨[],ro⟩::tr) tr2) (hj:lv.getD jp false=false):OpsL ev P nt bs all jp p lv jp (o::l) s tr tr2|live {i:Nat} {o:Oper} {l:List Oper} {s s1:IS} {tc:Tc} {tr tr2:List Tc} (hi:i≠jp) (hl:lv.getD i false=true) (h:GT ev P nt bs all o s s1 tc) (h':OpsL ev P nt bs all jp p lv (i+1) l s1 (tc::tr) tr2):OpsL ev P nt bs all jp p lv i (o::l) s tr tr2|skip {i:Nat} {o:Oper} {l:List Oper} {s:IS} {tr tr2:List Tc} (hi:i≠jp) (hl:lv.getD i false=false) (h':OpsL ev P nt bs all jp p lv (i+1) l s (⟨[],[]⟩::tr) tr2):OpsL ev P nt bs all jp p lv i (o::l) s tr tr2
def PT{call:VB}(g:gF ev P call){x y:Nat}{all:List Oper}{jp:Nat}{p:PV}{t:List Bool}(j:t.getD jp false=false){k:List Tc->Prop}:∀(l:List Oper)(i:Nat){s:IS}{b:List Tc}{u:Di},AO ev P call x y all jp p t i l s b u k->∃a,OpsL ev P x y all jp p t i l s b a/\k a
 |[],i,s,b,u,h=>⟨b,.nil i s b,h⟩|o::r,i,s,b,u,h=>by
  unfold AO at h;split at h
  ·rename_i e;obtain rfl:=Nat.eq_of_beq_eq_true e;split at h
   ·obtain⟨_,⟨ro,f,args,m,n,v⟩|⟨n,_⟩⟩:=Bf h
    ·obtain⟨a,c,d⟩:=PT g j r _ v;exact⟨a,.pan n c j,d⟩
    simp_all
   simp_all
  rename_i e;have z:i≠jp:=λA=>by rw[iE A]at e;cases e
  split at h
  ·rename_i w;obtain⟨C,D,B,n,v⟩:=FY g h;obtain⟨a,c,d⟩:=PT g j r _ v;exact⟨a,.live z w n c,d⟩
  rename_i w;obtain⟨a,c,d⟩:=PT g j r _ h;exact⟨a,.skip z w c,d⟩
abbrev PE(lv:List Bool)(n:Nat):Nat->Bool:=λm=>lv.getD m false&&decide (m<n)
def OpsL.ok{H M:Nat}{all:List Oper}{jp:Nat}{p:PV}{d:List Bool}{X:Env1}(N:X.P=P)(A:X.T=ev.T)(u:X.gl=ev.gl)(B:X.nt=H){i:Nat}{l:List Oper}{s:IS}{g c:List Tc}(h:OpsL ev P H M all jp p d i l s g c):∀{σ:St},Rel s σ->
  ∃a b,a.length=l.length/\c=b.reverse++g/\TcsOK a b/\∀j o e,l[j]? =some o->a[j]? =some e->
   (d.getD (i+j) false=true->WI X all o (GA (PE d (i+j)) i (zB l a) σ) e)/\
   (i+j=jp->o.guard=none/\∃f args m,JC ((GA (PE d jp) i (zB l a) σ).val X.gl) o.op=some (f,args)/\AC P ev.gl f args m (.panic p) []/\rB m (GA (PE d jp) i (zB l a) σ).objs/\e=⟨.undef,[],[],jA m⟩):=by
 have base:∀(i n:Nat)(l:List (Option Nat×Eff))(σ:St),n<=i->GA (PE d n) i l σ=σ:=λi n l σ h=>mX l i σ λm S=>by grind
 have cons:∀{i:Nat}{o:Oper}{l:List Oper}{e:Eff}{tc:Tc}{σ σ1:St}{g c:List Tc},ZH e tc->(∀n a,i<n->GA (PE d n) i (zB (o::l) (e::a)) σ=GA (PE d n) (i+1) (zB l a) σ1)->
   ((d.getD i false=true->WI X all o σ e)/\(i=jp->o.guard=none/\∃f args m,JC (σ.val X.gl) o.op=some (f,args)/\AC P ev.gl f args m (.panic p) []/\rB m σ.objs/\e=⟨.undef,[],[],jA m⟩))->
   (∃a b,a.length=l.length/\c=b.reverse++tc::g/\TcsOK a b/\∀j o e,l[j]? =some o->a[j]? =some e->
    (d.getD (i+1+j) false=true->WI X all o (GA (PE d (i+1+j)) (i+1) (zB l a) σ1) e)/\
    (i+1+j=jp->o.guard=none/\∃f args m,JC ((GA (PE d jp) (i+1) (zB l a) σ1).val X.gl) o.op=some (f,args)/\AC P ev.gl f args m (.panic p) []/\rB m (GA (PE d jp) (i+1) (zB l a) σ1).objs/\e=⟨.undef,[],[],jA m⟩))->
   ∃a b,a.length=(o::l).length/\c=b.reverse++g/\TcsOK a b/\∀j t e,(o::l)[j]? =some t->a[j]? =some e->
    (d.getD (i+j) false=true->WI X all t (GA (PE d (i+j)) i (zB (o::l) a) σ) e)/\
    (i+j=jp->t.guard=none/\∃f args m,JC ((GA (PE d jp) i (zB (o::l) a) σ).val X.gl) t.op=some (f,args)/\AC P ev.gl f args m (.panic p) []/\rB m (GA (PE d jp) i (zB (o::l) a) σ).objs/\e=⟨.undef,[],[],jA m⟩):=by
  rintro i o l e tc σ σ1 g c L I J ⟨a,b,C,D,E,F⟩
  refine⟨e::a,tc::b,by simp[C],by simp[D],E.cons L,λj t O x y=>?_⟩
  cases j with
  |zero=>
   simp only[List.getElem?_cons_zero,Option.some.injEq]at x y;subst x y;rw[Nat.add_zero,base i i _ _ (Nat.le_refl _)];refine⟨J.1,λk=>?_⟩;subst k;rw[base i i _ _ (Nat.le_refl _)];exact J.2 rfl
  |succ j=>
   simp only[List.getElem?_cons_succ]at x y;have:=F j t O x y;rw[show i+(j+1)=i+1+j by omega,I _ _ (by omega)];refine⟨this.1,λk=>?_⟩;rw[I _ _ (by omega)];exact this.2 k
 induction h with
 |nil i s g=>intro σ _;exact⟨[],[],rfl,rfl,by simp[TcsOK],λj o e h=>by simp at h⟩|@pan o l s g c ro f args m v _ K w=>
  intro σ r;have Q:=v.ks;refine cons (i:=jp) (e:=⟨.undef,[],[],jA m⟩) (tc:=⟨[],ro⟩) (σ1:=σ) ⟨by simp[Eff.wn],by simp[Q]⟩ (λn a G=>?_) ⟨λh=>(by rw[K]at h;cases h),λ_=>⟨v.g,f,args,m,by rw[r.val,u];exact v.fe,v.ac,BM λq R=>by rw[r.ob];exact v.ob q R,rfl⟩⟩ (w r);simp only[zB,List.map_cons,List.zip_cons_cons,GA,PE,K,Bool.false_and,Bool.false_eq_true,if_false]
 |@live i o l s T tc g c k z C _ w=>
  intro σ r;obtain⟨e,D,E,F⟩:=C.ok X N A u B σ r;refine cons (i:=i) (e:=e) (tc:=tc) (σ1:=σ.eff o.dst e) F (λn a G=>?_) ⟨λ_=>D,λh=>absurd h k⟩ (w E);simp only[zB,List.map_cons,List.zip_cons_cons,GA,PE,z,Bool.true_and,decide_eq_true G,if_true]
 |@skip i o l s g c k z _ w=>
  intro σ r;refine cons (i:=i) (e:=IE) (tc:=⟨[],[]⟩) (σ1:=σ) ⟨by simp[IE,Eff.wn],by simp[IE]⟩ (λn a G=>?_) ⟨λh=>(by rw[z]at h;cases h),λh=>absurd h k⟩ (w r);simp only[zB,List.map_cons,List.zip_cons_cons,GA,PE,z,Bool.false_and,Bool.false_eq_true,if_false]
def jr{call:VB}(I:gF ev P call){J bs id:Nat}{b:Array Oper}{d:Bool}{K:Nat}{p:PV}{s:IS}{R:Di}(h:xf ev P call J bs b.toList d K p s R):∀X,HX X ev P J bs->∀σ,Rel s σ->AWP X (.region id b d) σ λy _=>y=.panic p:=by
 intro X n σ S;obtain⟨σ0,T,z⟩:=aT (bs:=bs) (YH b.toList) S;refine AWP.wk T ?_
 cases d with
 |false=>
  intro C E a w D t;refine wp_region_list ?_;have:=NY I _ h X n (Q:=XI C λy _=>y=.panic p) (λE τ a w v t F _=>⟨E,τ,.panic p,t,⟨v,rfl,F⟩,rfl⟩) D z t;omega
 |true=>
  obtain⟨U,h⟩:=CB h;obtain⟨g,h⟩:=CB h;obtain⟨l,h⟩:=CB h;generalize V:IM K b.toList 0=jp at g l h;generalize OT jp b.toList 0 []=A at l h;have g:jp<b.toList.length:=by rwa[Nat.blt_eq]at g
  have W:∀i o,b.toList[i]? =some o->(A.getD i false=true↔i≠jp/\∀d∈BG o,A.getD d false=true):=λi o x=>by
   unfold cf at l;have:=List.all_eq_true.1 l i (by have:=(List.getElem?_eq_some_iff.1 x).1;simp_all);rw[x]at this;simp only[beq_iff_eq]at this;have Y:Nat.beq i jp=decide (i=jp):=by
    grind[iE,decide_eq_true,lK,decide_eq_false]
   rw[this,Y];simp
  have u:A.getD jp false=false:=by
   cases e:A.getD jp false with|false=>rfl|true=>simp_all
  obtain⟨B,Z,h2⟩:=PT I u _ _ h;obtain⟨L,tcs,M,N,h5,O⟩:=Z.ok n.P n.T n.gl n.nt z;have Q:eK B=true\/nO b.toList B.reverse=true:=by
   grind[CB]
  rw[List.append_nil]at N;have G:dM b.toList L=true:=Je U (by rw[N,List.reverse_reverse]at Q;exact Q) M h5;intro C E a w D t;refine wp_region_any X.mix ?_;have H:Ga C E σ0 a {w with drawn:=w.drawn+1}:=t.drew;have c:∀i,(Array.replicate b.size false).getD i false=false:=by
   intro i;rw[Array.getD_eq_getD_getElem?,Array.getElem?_replicate];split<;>rfl
  have hf:∀(r:List (Option Nat×Eff))(k:Nat)(s:St),GA (λm=>(Array.replicate b.size false).getD m false) k r s=s:=λr k s=>mX r k s λi _=>c i
  have:=pd (X:=X) (C:=C) (Q:=XI C λy _=>y=.panic p) X.ok D.glob D.nt M (L:=λm=>A.getD m false) (jp:=jp) W (λi o e hl x he=>by
   have:=(O i o e x he).1;rw[Nat.zero_add]at this;exact this hl) G (λh=>absurd g (Nat.not_lt_of_le h)) (λop x=>by
   obtain⟨g1,f,args,m,g2,g3,g4,g5⟩:=(O jp op L[jp] x (List.getElem?_eq_getElem (by omega))).2 (Nat.zero_add _);refine⟨g1,f,args,m,p,g2,by rw[n.P,n.gl];exact g3,g4,by rw[<-g5];exact List.getElem?_eq_getElem _,λE τ a w v t F=>⟨E,τ,.panic p,t,⟨v,rfl,F⟩,rfl⟩⟩) b.size (Array.replicate b.size false) E a _ (by simp) (by simp) (λj u=>by rw[c]at u;cases u) (λj u=>by rw[c]at u;cases u) (by rw[hf];exact H)
  omega
def JM{call:VB}(j:gF ev P call){N n o rg u:Nat}{p:PV}:∀(c:Code)(s:IS)(g:Di),wI ev P call N n o rg u p c s g->∀X,HX X ev P n o->∀σ,Rel s σ->AWP X c σ λk _=>k=.panic p
 |.seq a b,s,g,h,X,f,σ,i=>by
  unfold wI at h;split at h
  ·refine AWP.seq (AWP.mono (JM j a s g h X f σ i) ?_)
   rintro k σ' rfl
   exact rfl
  obtain⟨e,v,l,w,r⟩:=tC j a s g _ h;refine AWP.seq (AWP.mono (w.awp X f σ i) ?_)
  rintro k σ' ⟨rfl,m⟩
  cases e with|normal=>exact JM j b v l r X f σ' m|_=>exact r.elim
 |.block id b,s,g,h,X,f,σ,i=>by
  refine AWP.block (AWP.mono (JM j b s g h X f σ i) ?_)
  rintro k σ' rfl
  exact rfl
 |.scope b,s,g,h,X,f,σ,i=>AWP.scopeT (JM j b s g h X f σ i)|.cond c x y,s,g,h,X,f,σ,i=>by
  unfold wI at h;split at h
  ·rename_i b z;have t:σ.val X.gl c=.pv (.bool b):=by rw[i.val,f.gl];exact z
   split at h
   ·exact AWP.condT t (λ_=>JM j x s g h X f σ i) (nofun)
   exact AWP.condT t (nofun) (λ_=>JM j y s g h X f σ i)
  exact h.elim
 |.region id A d,s,g,h,X,f,σ,i=>jr j h X f σ i|.skip,_,_,h,_,_,_,_=>h.elim|.exit _,_,_,h,_,_,_,_=>h.elim|.ret,_,_,h,_,_,_,_=>h.elim|.loop _,_,_,h,_,_,_,_=>h.elim|.label _,_,_,h,_,_,_,_=>h.elim|.rangeFunc _ _ _ _,_,_,h,_,_,_,_=>h.elim|.goto _,_,_,h,_,_,_,_=>h.elim|.refuse _,_,_,h,_,_,_,_=>h.elim
def OY{args:List V}{objs:List (Nat×Ob)}{m:Nat}(a:(jA objs).Nodup)(b:∀n∈jA objs,n<m):Rel ⟨VD 0 args .nil,HB objs .nil,m,[]⟩ ⟨TD 0 args,objs,jA objs⟩:=by
 refine⟨λt=>?_,λn=>?_,b⟩
 ·rw[lQ,wY];simp only[Nat.zero_le,if_true,Nat.sub_zero,true_and,Nat.zero_add,Tr.get_nil]
  grind
 rw[xO objs _ a];cases zA objs n<;>rfl
def QT(d:SF ev P){N n f m rg o:Nat}{args:List V}{a:List (Nat×Ob)}{l:Di}{p:PV}(h:MY ev P N n f args a m rg o l p):AC P ev.gl f args a (.panic p) []:=by
 unfold MY at h;split at h
 ·rename_i fn r;split at h
  ·rename_i c s;obtain⟨t,h⟩:=CB h;obtain⟨g,h⟩:=CB h;obtain⟨e,h⟩:=CB h;obtain⟨i,h⟩:=CB h;obtain⟨j,h⟩:=CB h;rw[WF]at g e i j;have g:=iO g;have e:=FM e;have i:=GM i;have j:=GM j;obtain⟨k,b⟩:=d.F f fn r;let X:Env1:=⟨P,ev.T,ev.gl,[],fn.ntmps,jA a,d.T,d.mix⟩;have u:HX X ev P fn.ntmps m:=⟨rfl,rfl,rfl,rfl,e⟩;refine AC.of_body (X:=X) d.T k s b rfl (ms:=[]) (by simp[X]) (Nat.le_of_ble_eq_true t) (AM (by simp)) (by simp) (by simp) (AM λn v=>?_) (AM (by simp[Out.names,gC,jA,FC])) ?_
   ·grind
   rw[List.append_nil];refine AWP.mono (JM (sH d N n) c _ l h X u _ (OY g e)) ?_
   rintro w σ' rfl
   exact⟨rfl,trivial⟩
  simp_all
 simp_all
end
end Go.Lg
