/- The logic of contracts; no conditions. -/
import Derived.Test.YtodjpfpmhjdhbaaGreatDoorTwiceA1
import Derived.Laws.Build
set_option linter.all false
namespace Go.Lg
inductive TK where
 | other|bool|pointer|func
 | struct (fs:List (Nat × Nat))
 | slice (e:Nat)
 | array (n e:Nat)
 | map (k v:Nat)
 | imap (k v len:Nat)
 | iface
def TK.isIface:TK→Bool
 | .iface=>true
 | _=>false
structure TI where
 k:TK
 size:Nat
 bytes:Nat
 zero:Value
 zc:List PV
def KeyOK (P:Program) (k len:Nat):Prop :=
 (∀ (w:World) (a b:List Int),a.length=len→b.length=len→(Op.equal k (keyV a) (keyV b)).run P w = .ok (decide (a=b)) w) ∧
 (∀ (w:World) (e:Bool) (a:List Int),a.length=len→(Instr.checkKey e 10000 k (keyV a)).run P w = .ok () w) ∧
 ∃ d,P.underlying k=some d ∧ ∀ a b:List Int,Instr.sameNow d (keyV a) (keyV b)=none
def TKOK (P:Program) (d:TypeDesc):TK→Prop
 | .other=>match d with | .struct _=>False | .array _ _=>False|_=>True
 | .bool=>d = .bool
 | .pointer => ∃ e,d = .pointer e
 | .func => ∃ p r v,d = .func p r v
 | .struct fs => ∃ f,d = .struct f∧f.toList.map (fun x=>(x.offset,(P.info? x.type).map (·.size)))=fs.map (fun p=>(p.1,some p.2))
 | .slice e=>d = .slice e
 | .array n e=>d = .array n e
 | .map k v=>d = .map k v ∧ ∃ e,P.underlying k=some (.pointer e)∧(P.info? e).map (fun i=>decide (i.size=0))=some false
 | .imap k v len=>d = .map k v∧KeyOK P k len
 | .iface => ∃ ms,d = .interface ms
structure TIOK (P:Program) (t:Nat) (ti:TI):Prop where
 info:∃ i,P.info? t=some i∧i.size=ti.size∧i.bytes=ti.bytes∧i.zero=some ti.zero
 desc:∃ d,P.underlying t=some d∧TKOK P d ti.k
 zlen:ti.zero.cells.size=ti.size
 zcells:RepL (fun _=>[]) ti.zc ti.zero.cells.toList
 zc:ti.zc.length=ti.size
 conc:ti.k.isIface=true∨P.concrete t=true
def TOK (P:Program) (T:Nat→Option TI):Prop:=∀ t ti,T t=some ti→TIOK P t ti
theorem map_elem {P:Program} {e:Nat} (h:(P.info? e).map (fun i=>decide (i.size=0))=some false):∃ i,P.info? e=some i∧i.size≠0:=by
 cases hi:P.info? e with
 | none=>rw [hi] at h;cases h
 | some i=>rw [hi] at h;exact⟨i,rfl,by simpa using h⟩
def TI.isAgg (ti:TI):Bool:=match ti.k with | .struct _=>true | .array _ _=>true|_=>false
inductive Note where
 | none
 | box (n:Nat)
 | arr (n sz ty:Nat)
 | cache (n:Nat) (D:PV→Prop) (F:PV→PV)
 | imap (n:Nat)
 | keep
structure R where
 cond:Prop
 fact:Prop
 out:V
 wr:Option (Nat × Ob)
 new:Bool
def R.of (x:V):R:=⟨True,True,x,.none,false⟩
def R.ofIf (c:Prop) (x:V):R:=⟨c,True,x,.none,false⟩
def cst:Value→V
 | .int .i64 n => .pv (.int n)
 | .bool b => .pv (.bool b)
 | .pointer none => .pv .nil
 | .slice none 0 0 => .pv (.slice [])
 | .nilFunc => .pv .nilfn
 | _ => .undef
def pcells:PV→Option (List PV)
 | .agg cs=>some cs
 | .tuple _=>none
 | p=>some [p]
def vcells:V→Option (List V)
 | .pv (.agg cs)=>some (cs.map .pv)
 | .pv (.tuple _)=>none
 | .agg cs=>some cs
 | .tuple _=>none
 | .undef=>none
 | x=>some [x]
def V.one:V→Bool
 | .pv (.agg _)=>false
 | .pv (.tuple _)=>false
 | .agg _=>false
 | .tuple _=>false
 | .undef=>false
 | _=>true
def V.un:V→Option PV
 | .pv p=>some p
 | _=>none
def unL:List V→Option (List PV)
 | []=>some []
 | c::cs=>match c.un,unL cs with
  | some p,some ps=>some (p::ps)
  | _,_=>none
def unE:List (List V)→Option (List (List PV))
 | []=>some []
 | e::es=>match unL e,unE es with
  | some p,some ps=>some (p::ps)
  | _,_=>none
def pvL (cs:List PV):List V:=cs.map .pv
def pvE (es:List (List PV)):List (List V):=es.map pvL
theorem unL_pvL (cs:List PV):unL (pvL cs)=some cs:=by
 induction cs with
 | nil=>rfl
 | cons c cs ih=>simp only [pvL,List.map_cons,unL,V.un] at ih ⊢;rw [ih]
theorem unE_pvE (es:List (List PV)):unE (pvE es)=some es:=by
 induction es with
 | nil=>rfl
 | cons e es ih=>simp only [pvE,List.map_cons,unE,unL_pvL] at ih ⊢;rw [ih]
def mkAgg (cs:List V):V:=match unL cs with
 | some ps => .pv (.agg ps)
 | none => .agg cs
def rdV (agg:Bool) (n:Nat) (cs:List V):Option V :=
 if agg then (if n≤cs.length then some (mkAgg (cs.take n)) else none)
 else match cs with
  | c::_=>some c
  | []=>none
def rdP (agg:Bool) (n:Nat) (cs:List PV):Option R :=
 if agg then some ⟨n≤cs.length,True,.pv (.agg (cs.take n)),.none,false⟩
 else match cs with
  | c::_=>some (R.of (.pv c))
  | []=>none
def putL (cs:List V) (off:Nat) (ys:List V):List V:=cs.take off++ys++cs.drop (off+ys.length)
def fillV (fs:List (Nat × Nat)) (cells:List V):List (Nat × V)→Option (List V)
 | []=>some cells
 | (i,x)::rest=>match fs[i]?,vcells x with
  | some (off,size),some ys=>if ys.length=size∧off+size≤cells.length then fillV fs (putL cells off ys) rest else none
  | _,_=>none
def placesA (s:Nat):Nat→Nat→List (Nat × Nat)
 | 0,_=>[]
 | n+1,k=>(k * s,s)::placesA s n (k+1)
theorem placesA_get (s:Nat):∀ (n k i:Nat) (p:Nat × Nat),(placesA s n k)[i]? = some p→p=((k+i) * s,s)
 | 0,_,i,p,h=>by simp [placesA] at h
 | n+1,k,0,p,h=>by simp [placesA] at h;simp [← h]
 | n+1,k,i+1,p,h=>by
  have:=placesA_get s n (k+1) i p (by simpa [placesA] using h)
  rw [this,show k+1+i=k+(i+1) by omega]
def sliceParts:Nat→List (Nat × V)→Option (List (List V))
 | _,[]=>some []
 | k,(i,x)::rest=>if i=k then
   match vcells x,sliceParts (k+1) rest with
   | some cs,some es=>some (cs::es)
   | _,_=>none
  else none
def mkSlice (es:List (List V)):V:=match unE es with
 | some ps => .pv (.slice ps)
 | none => .vsl es
def inI (x:Int):Prop:=-9223372036854775808≤x∧x≤9223372036854775807
def boolR (b:Bool):Option R:=some (R.of (.pv (.bool b)))
def stepEq (k:TK) (x y:V) (yo:Operand):Option Bool :=
 match k,x,y with
 | .bool,.pv (.bool a),.pv (.bool b)=>some (a == b)
 | .pointer,.pv .nil,.pv .nil=>some true
 | .pointer,.pv (.ptr _),.pv .nil=>some false
 | .pointer,.loc _ _,.pv .nil=>some false
 | .func,.pv .nilfn,.pv .nilfn=>some true
 | .func,.fn _ _,.pv .nilfn=>some false
 | .func,.bfn _ _,.pv .nilfn=>some false
 | .iface,.pv (.iface _ _),_=>match yo with
  | .const .nilIface=>some false
  | _=>none
 | .slice _,.pv .nils,_=>match yo with
  | .const (.slice none 0 0)=>some true
  | _=>none
 | .slice _,.pv (.slice (_::_)),_=>match yo with
  | .const (.slice none 0 0)=>some false
  | _=>none
 | _,_,_=>none
def stepInt (op:BinOp) (a b:Int):Option R :=
 match op with
 | .add=>some (R.ofIf (inI (a+b)) (.pv (.int (a+b))))
 | .sub=>some (R.ofIf (inI (a-b)) (.pv (.int (a-b))))
 | .mul=>some (R.ofIf (inI (a * b)) (.pv (.int (a * b))))
 | .rem=>some (R.ofIf (b≠0) (.pv (.int (a.tmod b))))
 | .lss=>boolR (decide (a<b))
 | .leq=>boolR (decide (a≤b))
 | .gtr=>boolR (decide (b<a))
 | .geq=>boolR (decide (b≤a))
 | .eql=>boolR (decide (a=b))
 | .neq=>boolR (!decide (a=b))
 | _=>none
def stepBin (k:TK) (op:BinOp) (x y:V) (yo:Operand):Option R :=
 match x,y with
 | .pv (.int a),.pv (.int b)=>stepInt op a b
 | x,y=>match op,stepEq k x y yo with
  | .eql,some b=>boolR b
  | .neq,some b=>boolR (!b)
  | _,_=>none
def addrOff (x:V) (off:Nat):Option V :=
 match x with
 | .pv (.ptr cs)=>some (.pv (.ptr (cs.drop off)))
 | .loc n o=>some (.loc n (o+off))
 | .eloc n ver i o=>some (.eloc n ver i (o+off))
 | _=>none
def stepLoad (ti:TI) (ob:Nat→Option Ob) (x:V):Option R :=
 match x with
 | .pv (.ptr cs)=>rdP ti.isAgg ti.size cs
 | .loc n off=>match ob n with
  | some (.box cs)=>(rdV ti.isAgg ti.size (cs.drop off)).map R.of
  | _=>none
 | .eloc n ver i off=>match ob n with
  | some (.arr ver' _ _ es)=>match es[i]? with
   | some e=>(rdV ti.isAgg ti.size (e.drop off)).map (R.ofIf (ver=ver'))
   | none=>none
  | _=>none
 | _=>none
def stepStore (ti:TI) (ob:Nat→Option Ob) (x y:V):Option R :=
 match vcells y with
 | none=>none
 | some ys=>match x with
  | .loc n off=>match ob n with
   | some (.box cs)=>some ⟨ys.length=ti.size∧off+ys.length≤cs.length∧ys.all V.one=true,True,.undef,some (n,.box (putL cs off ys)),false⟩
   | _=>none
  | .eloc n ver i off=>match ob n with
   | some (.arr ver' sz ty es)=>some ⟨ver=ver'∧i<es.length∧ys.length=ti.size∧off+ys.length≤sz∧ys.all V.one=true,True,.undef,some (n,.arr ver' sz ty (es.set i (putL (es.getD i []) off ys))),false⟩
   | _=>none
  | _=>none
def stepIndex (T:Nat→Option TI) (ob:Nat→Option Ob) (t:Nat) (x i:V):Option R :=
 match i with
 | .pv (.int k)=>match T t with
  | some ⟨.slice e,_,_,_,_⟩=>match T e with
   | some te=>match x with
    | .pv (.slice es)=>some (R.ofIf (0≤k∧k<es.length ∧ ∀ y∈es,y.length=te.size) (.pv (.ptr (es.getD k.toNat []))))
    | .arr n ver len=>match ob n with
     | some (.arr ver' sz _ es)=>some (R.ofIf (ver=ver'∧0≤k∧k<len∧sz=te.size∧len≤es.length) (.eloc n ver k.toNat 0))
     | _=>none
    | _=>none
   | none=>none
  | some ⟨.array m e,_,_,_,_⟩=>match T e with
   | some te=>(addrOff x (k.toNat * te.size)).map (R.ofIf (0≤k∧k<m))
   | none=>none
  | _=>none
 | _=>none
def stepLen (ob:Nat→Option Ob) (x:V):Option R :=
 match x with
 | .pv (.slice es)=>some ⟨True,es.length≤maxLen,.pv (.int es.length),.none,false⟩
 | .pv .nils=>some (R.of (.pv (.int 0)))
 | .arr n ver len=>match ob n with
  | some (.arr ver' _ _ es)=>some ⟨ver=ver',es.length≤maxLen,.pv (.int len),.none,false⟩
  | _=>none
 | _=>none
def srcOf (y:V):Option (List (List V)) :=
 match y with
 | .pv (.slice es)=>some (pvE es)
 | .pv .nils=>some []
 | .vsl es=>some es
 | _=>none
def stepAppend (e:Nat) (te:TI) (ob:Nat→Option Ob) (note:Note) (xo:Operand) (x y:V):Option R :=
 match x with
 | .arr n ver len=>match ob n,srcOf y with
  | some (.arr ver' sz ty es),some ys=>some ⟨ver=ver'∧len≤es.length∧ty=e∧sz=te.size∧0<sz∧(∀ y∈ys,y.length=sz)∧(∀ y∈ys,y.all V.one=true)∧len+ys.length≤maxLen∧(len+ys.length) * te.bytes≤140737488355328,True,
    .arr n (ver+1) (len+ys.length),some (n,.arr (ver+1) sz ty (es.take len++ys)),false⟩
  | _,_=>none
 | .fsl es=>match y with
  | .pv (.slice ys)=>some ⟨(∀ e∈es,e.length=te.size)∧(∀ y∈ys,y.length=te.size)∧0<te.size∧ys≠[]∧es.length+ys.length≤maxLen∧(es.length+ys.length) * te.bytes≤140737488355328,True,.pv (.slice (es++ys)),.none,false⟩
  | _=>none
 | _=>match xo with
  | .const (.slice none 0 0)=>match y,note with
   | .pv (.slice es),.none=>some ⟨(∀ e∈es,e.length=te.size)∧0<te.size∧es.length * te.bytes≤140737488355328,True,.pv (.slice es),.none,false⟩
   | y,.arr n sz ty=>match srcOf y with
    | some ys=>some ⟨ty=e∧sz=te.size∧0<sz∧(∀ y∈ys,y.length=sz)∧(∀ y∈ys,y.all V.one=true)∧ys.length≤maxLen∧ys.length * te.bytes≤140737488355328,True,
     .arr n 1 ys.length,some (n,.arr 1 sz ty ys),true⟩
    | none=>none
   | _,_=>none
  | _=>none
def stepSlice (te:TI) (ob:Nat→Option Ob) (x:V) (lo hi mx:Option V):Option R :=
 match x,lo,hi,mx with
 | .pv (.slice es),some (.pv (.int l)),none,none=>some (R.ofIf (0≤l∧l≤es.length ∧ ∀ y∈es,y.length=te.size) (.pv (.slice (es.drop l.toNat))))
 | .pv (.slice es),none,some (.pv (.int h)),none=>some (R.ofIf (0≤h∧h≤es.length) (.pv (.slice (es.take h.toNat))))
 | .arr n ver len,none,some (.pv (.int h)),none=>match ob n with
  | some (.arr ver' _ _ _)=>some (R.ofIf (ver=ver'∧0≤h∧h≤len) (.arr n ver h.toNat))
  | _=>none
 | .pv (.slice es),none,some (.pv (.int h)),some (.pv (.int m))=>some (R.ofIf (h=es.length∧m=es.length) (.fsl es))
 | _,_,_,_=>none
def stepMove (note:Note) (val:Operand→V) (x:Operand):Option R :=
 match note,x with
 | .arr n sz ty,.const (.slice none 0 0)=>some ⟨True,True,.arr n 0 0,some (n,.arr 0 sz ty []),true⟩
 | _,_=>some (R.of (val x))
def PV.nonint:PV→Bool
 | .bool _=>true
 | .nil=>true
 | .ptr _=>true
 | _=>false
def stepUpdate (ob:Nat→Option Ob) (m k v:V):Option R :=
 match m,k,v with
 | .map n,.pv (.ptr ks),.pv cs=>match ob n with
  | some (.cache D F)=>some ⟨D (.ptr ks)∧cs=F (.ptr ks)∧ks.any PV.nonint=true,True,.undef,some (n,.cache D F),false⟩
  | _=>none
 | _,_,_=>none
def stepRow (e:Nat) (te:TI) (note:Note) (len:Nat) (es:List (List V)):Option R :=
 match note with
 | .arr n sz ty=>some ⟨(es.length=len∧len≤16777216∧len * te.size≤16777216 ∧ ∀ e∈es,e.length=te.size)∧ty=e∧sz=te.size,True,.arr n 0 len,some (n,.arr 0 sz ty es),true⟩
 | _=>some (R.ofIf (es.length=len∧len≤16777216∧len * te.size≤16777216 ∧ ∀ e∈es,e.length=te.size) (mkSlice es))
def intsOf:List PV→Option (List Int)
 | []=>some []
 | .int n::r=>(intsOf r).map (n :: ·)
 | _=>none
def imGet (es:List (List Int × PV)) (k:List Int):Option PV:=match es with
 | []=>none
 | (k',p)::r=>if k=k' then some p else imGet r k
def imSet (es:List (List Int × PV)) (k:List Int) (p:PV):List (List Int × PV):=match es with
 | []=>[(k,p)]
 | (k',q)::r=>if k=k' then (k,p)::r else (k',q)::imSet r k p
def stepUpdateI (len:Nat) (ob:Nat→Option Ob) (m k v:V):Option R :=
 match m,k,v with
 | .map n,.pv (.agg ks),.pv p=>match ob n,intsOf ks with
  | some (.imap es),some is=>some ⟨is.length=len ∧ ∀ e∈es,e.1.length=len,True,.undef,some (n,.imap (imSet es is p)),false⟩
  | _,_=>none
 | _,_,_=>none
def oneZ:Value→Option PV
 | .int .i64 n=>some (.int n)
 | .bool b=>some (.bool b)
 | .pointer none=>some .nil
 | _=>none
def zeroPV (ti:TI):Option PV:=match ti.zero with
 | .agg _=>some (.agg ti.zc)
 | z=>oneZ z
def stepLookI (len:Nat) (z:PV) (ob:Nat→Option Ob) (m k:V):Option R :=
 match m,k with
 | .map n,.pv (.agg ks)=>match ob n,intsOf ks with
  | some (.imap es),some is=>some ⟨is.length=len∧(∀ e∈es,e.1.length=len),True,.pv (match imGet es is with|some p => .tuple [p,.bool true]|none => .tuple [z,.bool false]),.none,false⟩
  | _,_=>none
 | _,_=>none
def stepLenM (ob:Nat→Option Ob) (x:V):Option R :=
 match x with
 | .map n=>match ob n with
  | some (.imap es)=>some (R.of (.pv (.int es.length)))
  | _=>none
 | _=>none
def stepOp (T:Nat→Option TI) (note:Note) (val:Operand→V) (ob:Nat→Option Ob) (dst:Option Nat) (op:Op):Option R :=
 match op with
 | .move x=>stepMove note val x
 | .assign x=>stepMove note val x
 | .pick c a b=>match val c,val a,val b with
  | .pv (.bool c),.pv (.bool a),.pv (.bool b)=>boolR (bif c then a else b)
  | .pv (.bool true),a,_=>some (R.of a)
  | .pv (.bool false),_,b=>some (R.of b)
  | _,_,_=>none
 | .alloc t=>match T t,note,dst with
  | some ti,.box n,_=>some ⟨True,True,.loc n 0,some (n,.box (pvL ti.zc)),true⟩
  | some ti,_,some d=>some ⟨True,True,.loc d 0,some (d,.box (pvL ti.zc)),true⟩
  | _,_,_=>none
 | .box _ x=>match note with
  | .box n=>match vcells (val x) with
   | some cs=>if cs.all V.one=true then some ⟨True,True,.loc n 0,some (n,.box cs),true⟩ else none
   | none=>none
  | _=>match val x with
   | .pv p=>match pcells p with
    | some cs=>some (R.of (.pv (.ptr cs)))
    | none=>none
   | _=>none
 | .build t parts=>match T t with
  | some ⟨.struct fs,_,_,_,zc⟩=>(fillV fs (pvL zc) (parts.toList.map fun p=>(p.1,val p.2))).map (fun cs=>R.of (mkAgg cs))
  | some ⟨.array m e,_,_,_,zc⟩=>match T e with
   | some te=>(fillV (placesA te.size m 0) (pvL zc) (parts.toList.map fun p=>(p.1,val p.2))).map (fun cs=>R.of (mkAgg cs))
   | none=>none
  | _=>none
 | .makeFunc (.func f) first caps=>if first.size=0 then some (R.of (.fn f (caps.toList.map val))) else if caps.size=0 then some (R.of (.bfn f (first.toList.map val))) else none
 | .typeAssert x _ t true=>match val x,T t with
  | .pv (.iface t' p),some ⟨.struct _,_,_,_,_⟩=>if t'=t then some (R.of (.pv (.tuple [p,.bool true]))) else none
  | _,_=>none
 | .makeMap _ none=>match note with
  | .cache n D F=>some ⟨Coh D F,True,.map n,some (n,.cache D F),true⟩
  | .imap n=>some ⟨True,True,.map n,some (n,.imap []),true⟩
  | _=>none
 | .mapUpdate t m k v=>match dst,T t with
  | none,some ⟨.map _ _,_,_,_,_⟩=>stepUpdate ob (val m) (val k) (val v)
  | none,some ⟨.imap _ _ len,_,_,_,_⟩=>stepUpdateI len ob (val m) (val k) (val v)
  | _,_=>none
 | .lookup t m k true=>match T t with
  | some ⟨.imap _ vt len,_,_,_,_⟩=>match T vt with
   | some ⟨_,_,_,z0,_⟩=>match oneZ z0 with
    | some z=>stepLookI len z ob (val m) (val k)
    | none=>none
   | _=>none
  | _=>none
 | .buildSlice t len parts=>match T t with
  | some ⟨.slice e,_,_,_,_⟩=>match T e with
   | some te=>match sliceParts 0 (parts.toList.map fun p=>(p.1,val p.2)) with
    | some es=>stepRow e te note len es
    | none=>none
   | none=>none
  | _=>none
 | .load t x=>match T t with
  | some ti=>stepLoad ti ob (val x)
  | none=>none
 | .store t x y=>match dst,T t with
  | none,some ti=>stepStore ti ob (val x) (val y)
  | _,_=>none
 | .nilCheck x=>match val x with
  | .pv (.ptr cs)=>some (R.of (.pv (.ptr cs)))
  | .loc n off=>some (R.of (.loc n off))
  | .eloc n v i o=>some (R.of (.eloc n v i o))
  | _=>none
 | .binOp b t x y _=>match T t with
  | some ti=>stepBin ti.k b (val x) (val y) y
  | none=>none
 | .unOp .not _ x=>match val x with
  | .pv (.bool b)=>boolR (!b)
  | _=>none
 | .makeInterface t x=>match T t,val x with
  | some ti,.pv p=>bif ti.k.isIface then none else some (R.of (.pv (.iface t p)))
  | _,_=>none
 | .fieldAddr t x f=>match T t with
  | some ⟨.struct fs,_,_,_,_⟩=>match fs[f]? with
   | some (off,size)=>if size=0 then none else (addrOff (val x) off).map R.of
   | none=>none
  | _=>none
 | .indexAddr t x i=>stepIndex T ob t (val x) (val i)
 | .extract x i=>match val x with
  | .pv (.tuple cs)=>(cs[i]?).map (fun c=>R.of (.pv c))
  | .tuple cs=>(cs[i]?).map R.of
  | _=>none
 | .slice t x lo hi mx=>match T t with
  | some ⟨.slice e,_,_,_,_⟩=>match T e with
   | some te=>stepSlice te ob (val x) (lo.map val) (hi.map val) (mx.map val)
   | none=>none
  | _=>none
 | .call { callee:=.builtin .len,args,argTypes } => match argTypes.toList,args.toList with
  | [t],[x]=>match T t with
   | some ⟨.slice _,_,_,_,_⟩=>stepLen ob (val x)
   | some ⟨.imap _ _ _,_,_,_,_⟩=>stepLenM ob (val x)
   | _=>none
  | _,_=>none
 | .call { callee:=.builtin .append,args,argTypes } => match argTypes.toList,args.toList with
  | [t,t'],[x,y]=>if t=t' then
    match T t with
    | some ⟨.slice e,_,_,_,_⟩=>match T e with
     | some te=>stepAppend e te ob note x (val x) (val y)
     | none=>none
    | _=>none
   else none
  | _,_=>none
 | .call { callee:=.builtin .max,args,argTypes:=_ } => match args.toList with
  | [x,y]=>match val x,val y with
   | .pv (.int a),.pv (.int b)=>some (R.of (.pv (.int (if b > a then b else a))))
   | _,_=>none
  | _=>none
 | _=>none
def St.val (gl:Nat→Option (List PV)) (σ:St):Operand→V
 | .tmp t=>getS σ.slots t
 | .const v=>cst v
 | .func f => .fn f []
 | .global g=>match gl g with
  | some cs => .pv (.ptr cs)
  | none => .undef
def GOK (gl:Nat→Option (List PV)) (H:Hp):Prop:=∀ g cs,gl g=some cs→RepL H cs (H g)
theorem GOK.mono {gl:Nat→Option (List PV)} {H H':Hp} (h:GOK gl H) (hH:Hle H H'):GOK gl H' :=
 fun g cs e=>RepL.mono hH cs _ _ (hH g) (h g cs e)
theorem cst_rep (E:Env) (v:Value):RepV E (cst v) v:=by
 unfold cst
 split<;>simp [RepV,RepP,maxLen]
theorem cst_names (v:Value):(cst v).names=[]:=by
 unfold cst
 split<;>simp [V.names]
section
variable {C:Ctx} {E:Env} {σ:St} {a:Act} {w:World} {gl:Nat→Option (List PV)}
theorem val_rep (h:Ga C E σ a w) (hg:GOK gl C.E0.H) (x:Operand):RepV E (σ.val gl x) (a.eval x):=by
 cases x with
 | tmp t=>exact h.slots t
 | const v=>exact cst_rep E v
 | func f=>exact⟨[],by simp [Act.eval],rfl,by simp [RepVL]⟩
 | global g =>
  simp only [St.val,Act.eval]
  split
  ·rename_i cs e
   simp only [RepV,RepP]
   exact⟨g,0,rfl,by simpa using (hg.mono h.hle) g cs e⟩
  ·simp [RepV]
theorem val_names (h:Ga C E σ a w) (x:Operand):∀ n∈(σ.val gl x).names,n∈σ.used:=by
 cases x with
 | tmp t=>exact h.usedS t
 | const v=>intro n hn;simp [St.val,cst_names] at hn
 | func f=>intro n hn;simp [St.val,V.names,namesL] at hn
 | global g =>
  intro n hn
  simp only [St.val] at hn
  split at hn<;>simp [V.names] at hn
end
theorem RepL.take {H:Hp} : ∀ {cs:List PV} {vs:List Value} (n:Nat),RepL H cs vs→RepL H (cs.take n) (vs.take n)
 | cs,vs,0,_=>by simp [RepL]
 | [],vs,n+1,_=>by simp [RepL]
 | c::cs,[],n+1,r=>by simp [RepL] at r
 | c::cs,v::vs,n+1,r=>by
  simp only [RepL] at r
  simp only [List.take_succ_cons,RepL]
  exact⟨r.1,RepL.take n r.2⟩
theorem RepL.drop {H:Hp} : ∀ {cs:List PV} {vs:List Value} (n:Nat),RepL H cs vs→RepL H (cs.drop n) (vs.drop n)
 | cs,vs,0,r=>by simpa using r
 | [],vs,n+1,_=>by simp [RepL]
 | c::cs,[],n+1,r=>by simp [RepL] at r
 | c::cs,v::vs,n+1,r=>by
  simp only [RepL] at r
  simpa using RepL.drop n r.2
theorem RepVL.take {E:Env} : ∀ {cs:List V} {vs:List Value} (n:Nat),RepVL E cs vs→RepVL E (cs.take n) (vs.take n)
 | cs,vs,0,_=>by simp [RepVL]
 | [],vs,n+1,_=>by simp [RepVL]
 | c::cs,[],n+1,r=>by simp [RepVL] at r
 | c::cs,v::vs,n+1,r=>by
  simp only [RepVL] at r
  simp only [List.take_succ_cons,RepVL]
  exact⟨r.1,RepVL.take n r.2⟩
theorem RepVL.drop {E:Env} : ∀ {cs:List V} {vs:List Value} (n:Nat),RepVL E cs vs→RepVL E (cs.drop n) (vs.drop n)
 | cs,vs,0,r=>by simpa using r
 | [],vs,n+1,_=>by simp [RepVL]
 | c::cs,[],n+1,r=>by simp [RepVL] at r
 | c::cs,v::vs,n+1,r=>by
  simp only [RepVL] at r
  simpa using RepVL.drop n r.2
theorem RepVL.append {E:Env} : ∀ {cs ds:List V} {vs us:List Value},cs.length=vs.length→RepVL E cs vs→RepVL E ds us→RepVL E (cs++ds) (vs++us)
 | [],ds,[],us,_,_,r=>by simpa using r
 | [],ds,_::_,us,h,_,_=>by simp at h
 | c::cs,ds,[],us,h,_,_=>by simp at h
 | c::cs,ds,v::vs,us,h,r,r'=>by
  simp only [RepVL] at r
  simp only [List.cons_append,RepVL]
  exact⟨r.1,RepVL.append (by simpa using h) r.2 r'⟩
theorem RepVL.ofPv {E:Env} : ∀ {cs:List PV} {vs:List Value},RepL E.H cs vs→RepVL E (pvL cs) vs
 | [],_,_=>by simp [pvL,RepVL]
 | c::cs,[],r=>by simp [RepL] at r
 | c::cs,v::vs,r=>by
  simp only [RepL] at r
  simp only [pvL,List.map_cons,RepVL,RepV]
  exact⟨r.1,RepVL.ofPv r.2⟩
theorem RepVL.toPv {E:Env} : ∀ {cs:List V} {ps:List PV} {vs:List Value},unL cs=some ps→RepVL E cs vs→RepL E.H ps vs
 | [],ps,_,h,_=>by simp [unL] at h;subst h;simp [RepL]
 | c::cs,ps,[],h,r=>by simp [RepVL] at r
 | c::cs,ps,v::vs,h,r=>by
  simp only [unL] at h
  split at h
  ·rename_i p qs hp hq
   cases h
   simp only [RepVL] at r
   simp only [RepL]
   refine⟨?_,RepVL.toPv hq r.2⟩
   cases c<;>simp [V.un] at hp
   subst hp
   simpa [RepV] using r.1
  ·cases h
theorem unL_len:∀ {cs:List V} {ps:List PV},unL cs=some ps→ps.length=cs.length
 | [],ps,h=>by simp [unL] at h;subst h;rfl
 | c::cs,ps,h=>by
  simp only [unL] at h
  split at h
  ·rename_i p qs hp hq
   cases h
   simp [unL_len hq]
  ·cases h
theorem mkAgg_rep {E:Env} {cs:List V} {vs:List Value} (hl:vs.length=cs.length) (r:RepVL E cs vs):RepV E (mkAgg cs) (.agg vs.toArray):=by
 unfold mkAgg
 split
 ·rename_i ps e
  exact⟨vs,rfl,by rw [hl,unL_len e],RepVL.toPv e r⟩
 ·exact⟨vs,rfl,hl,r⟩
theorem namesL_pvL (cs:List PV):namesL (pvL cs)=[]:=by
 induction cs with
 | nil=>rfl
 | cons c cs ih=>simpa [pvL,namesL,V.names] using ih
theorem namesE_pvE (es:List (List PV)):namesE (pvE es)=[]:=by
 induction es with
 | nil=>rfl
 | cons c cs ih=>simpa [pvE,namesE,namesL_pvL] using ih
theorem RepVE.toPv {E:Env} : ∀ {es:List (List V)} {ps:List (List PV)} {vs:List Value},unE es=some ps→RepVE E es vs→RepE E.H ps vs
 | [],ps,_,h,_=>by simp [unE] at h;subst h;simp [RepE]
 | e::es,ps,vs,h,r=>by
  simp only [unE] at h
  split at h
  ·rename_i p qs hp hq
   cases h
   simp only [RepVE] at r
   simp only [RepE]
   refine⟨RepVL.toPv hp r.1,?_⟩
   rw [unL_len hp]
   exact RepVE.toPv hq r.2
  ·cases h
theorem unE_len:∀ {es:List (List V)} {ps:List (List PV)},unE es=some ps→ps.length=es.length
 | [],ps,h=>by simp [unE] at h;subst h;rfl
 | e::es,ps,h=>by
  simp only [unE] at h
  split at h
  ·rename_i p qs hp hq
   cases h
   simp [unE_len hq]
  ·cases h
theorem mkSlice_rep {E:Env} {es:List (List V)} {b cap:Nat} (h1:es.length≤cap) (h2:es.length≤maxLen) (r:RepVE E es (E.H b)):RepV E (mkSlice es) (.slice (some ⟨b,0,none⟩) es.length cap):=by
 unfold mkSlice
 split
 ·rename_i ps e
  have hl:=unE_len e
  simp only [RepV,RepP]
  exact⟨_,cap,by rw [hl],by omega,by omega,.inr ⟨b,0,rfl,by simpa using RepVE.toPv e r⟩⟩
 ·simp only [RepV]
  exact⟨_,cap,rfl,h1,h2,.inr ⟨b,0,rfl,by simpa using r⟩⟩
theorem mkSlice_names (es:List (List V)):∀ n∈(mkSlice es).names,n∈namesE es:=by
 intro n hn
 unfold mkSlice at hn
 split at hn
 ·simp [V.names] at hn
 ·simpa [V.names] using hn
theorem mkAgg_names (cs:List V):∀ n∈(mkAgg cs).names,n∈namesL cs:=by
 intro n hn
 unfold mkAgg at hn
 split at hn
 ·simp [V.names] at hn
 ·simpa [V.names] using hn
theorem mem_namesL {cs:List V} {n:Nat} : n∈namesL cs ↔ ∃ c∈cs,n∈c.names:=by
 induction cs with
 | nil=>simp [namesL]
 | cons c cs ih=>simp [namesL,ih]
theorem mem_namesE {es:List (List V)} {n:Nat} : n∈namesE es ↔ ∃ e∈es,n∈namesL e:=by
 induction es with
 | nil=>simp [namesE]
 | cons c cs ih=>simp [namesE,ih]
section
variable {P:Program} {t:Nat} {ti:TI}
theorem TIOK.run_size (h:TIOK P t ti) (w:World):(sizeOf t).run P w = .ok ti.size w:=by
 obtain⟨i,hi,hs,_⟩:=h.info
 simp [sizeOf,typeInfo,hi,hs]
theorem TIOK.run_zero (h:TIOK P t ti) (w:World):(zeroValue t).run P w = .ok ti.zero w:=by
 obtain⟨i,hi,_,_,hz⟩:=h.info
 simp [zeroValue,typeInfo,hi,hz]
theorem TIOK.run_agg (h:TIOK P t ti) (w:World):(isAgg t).run P w = .ok ti.isAgg w:=by
 obtain⟨d,hd,hk⟩:=h.desc
 unfold TI.isAgg
 cases hkk:ti.k<;>rw [hkk] at hk<;>simp only [TKOK] at hk
 ·cases d<;>simp_all [isAgg,run_underlying hd]
 ·subst hk;simp [isAgg,run_underlying hd]
 ·obtain⟨e,rfl⟩:=hk;simp [isAgg,run_underlying hd]
 ·obtain⟨p,r,v,rfl⟩:=hk;simp [isAgg,run_underlying hd]
 ·obtain⟨f,rfl,_⟩:=hk;simp [isAgg,run_underlying hd]
 ·subst hk;simp [isAgg,run_underlying hd]
 ·subst hk;simp [isAgg,run_underlying hd]
 ·obtain⟨rfl,_⟩:=hk;simp [isAgg,run_underlying hd]
 ·obtain⟨rfl,_⟩:=hk;simp [isAgg,run_underlying hd]
 ·obtain⟨ms,rfl⟩:=hk;simp [isAgg,run_underlying hd]
theorem cell_at {w:World} {b off:Nat} {c:Array Value} {T:Nat} {fr:Nat × Nat} (h:w.heap[b]? = some (.cells c T fr)) (j:Nat) :
  w.cell? ((⟨b,off,none⟩:Addr).add j)=c[off+j]?:=by
 unfold Addr.add
 split
 ·rename_i e;subst e;simp [World.cell?,h]
 ·simp [World.cell?,h]
theorem run_loadAt_agg (hT:TIOK P t ti) (ha:ti.isAgg=true) {w:World} {b off:Nat} {c:Array Value} {T:Nat} {fr:Nat × Nat}
  (h:w.heap[b]? = some (.cells c T fr)) (hle:off+ti.size≤c.size) :
  (Instr.loadAt t (.pointer (some ⟨b,off,none⟩))).run P w = .ok (.agg ((c.toList.drop off).take ti.size).toArray) w:=by
 have hl:=run_loadCells_list (P:=P) w ⟨b,off,none⟩ ((c.toList.drop off).take ti.size) (by
  intro j v hj
  rw [cell_at h]
  rw [List.getElem?_take] at hj
  split at hj
  ·simpa using hj
  ·cases hj)
 have hlen:((c.toList.drop off).take ti.size).length=ti.size:=by simp;omega
 rw [hlen] at hl
 simp [Instr.loadAt,Instr.sureAddr,loadVar,hT.run_agg,ha,hT.run_size,hl]
theorem run_loadAt_one (hT:TIOK P t ti) (ha:ti.isAgg=false) {w:World} {b off:Nat} {c:Array Value} {T:Nat} {fr:Nat × Nat} {v:Value}
  (h:w.heap[b]? = some (.cells c T fr)) (hv:c[off]? = some v) :
  (Instr.loadAt t (.pointer (some ⟨b,off,none⟩))).run P w = .ok v w:=by
 have hc:w.cell? ⟨b,off,none⟩=some v:=by simp [World.cell?,h,hv]
 simp [Instr.loadAt,Instr.sureAddr,loadVar,hT.run_agg,ha,hc]
end
def OpRes (P:Program) (o:Oper) (a:Act) (w:World) (v:Value) (w':World):Prop :=
 (execOp a.eval o).run P w = .ok (.value v) w'∨((execOp a.eval o).run P w = .ok .skip w'∧v=undef)
theorem OpRes.wp {P:Program} {o:Oper} {a:Act} {w w':World} {v:Value} (h:OpRes P o a w v w') {K:Act→World→Prop} {Q:Exit→Act→World→Prop}
  (hk:K (a.put o.dst v) w'):o.wp P a w K Q:=by
 unfold Oper.wp
 rcases h with h|⟨h,rfl⟩
 ·rw [h];exact hk
 ·rw [h];exact hk
def St.app (σ:St) (dst:Option Nat) (r:R):St :=
 ⟨putS dst r.out σ.slots,
  match r.wr with|some (n,o)=>setO σ.objs n o|none=>σ.objs,
  match r.wr,r.new with|some (n,_),true=>n::σ.used|_,_=>σ.used⟩
def Sound (P:Program) (C:Ctx) (E:Env) (σ:St) (a:Act) (w:World) (o:Oper) (r:R):Prop :=
 ∃ v w' E',OpRes P o a w v w'∧Ga C E' (σ.app o.dst r) (a.put o.dst v) w'∧r.fact
section
variable {P:Program} {C:Ctx} {E:Env} {σ:St} {a:Act} {w:World} {gl:Nat→Option (List PV)} {o:Oper} {T:Nat→Option TI} {note:Note} {ob:Nat→Option Ob}
theorem Sound.pure (h:Ga C E σ a w) {v:Value} {c f:Prop} {x:V} {b:Bool} (hr:OpRes P o a w v w) (hx:RepV E x v) (hn:∀ n∈x.names,n∈σ.used)
  (hd:∀ d,o.dst=some d→d<C.nt) (hf:f):Sound P C E σ a w o ⟨c,f,x,none,b⟩ :=
 ⟨v,w,E,hr,h.pure E.H o.dst x v (Hle.refl _) (Nat.le_refl _) ⟨rfl,rfl,rfl⟩ (fun _ _=>⟨rfl,rfl⟩) h.heap hx hn hd,hf⟩
theorem sound_move (h:Ga C E σ a w) (hg:GOK gl C.E0.H) (hd:∀ d,o.dst=some d→d<C.nt) {x:Operand} (ho:o.op = .move x∨o.op = .assign x) :
  Sound P C E σ a w o (R.of (σ.val gl x)):=by
 refine Sound.pure h (v:=a.eval x) (.inl ?_) (val_rep h hg x) (val_names h x) hd trivial
 rcases ho with ho|ho<;>simp [execOp,ho]
theorem rep_bool {E:Env} {b:Bool} {v:Value} (h:RepV E (.pv (.bool b)) v):v = .bool b:=by simpa [RepV,RepP] using h
theorem rep_int {E:Env} {n:Int} {v:Value} (h:RepV E (.pv (.int n)) v):v = .int .i64 n:=by simpa [RepV,RepP] using h
theorem sound_bool (h:Ga C E σ a w) (hd:∀ d,o.dst=some d→d<C.nt) {b:Bool} (hr:OpRes P o a w (.bool b) w):Sound P C E σ a w o (R.of (.pv (.bool b))) :=
 Sound.pure h hr (by simp [RepV,RepP]) (by simp [V.names]) hd trivial
theorem sound_int (h:Ga C E σ a w) (hd:∀ d,o.dst=some d→d<C.nt) {n:Int} {c f:Prop} {b:Bool} (hr:OpRes P o a w (.int .i64 n) w) (hf:f):Sound P C E σ a w o ⟨c,f,.pv (.int n),none,b⟩ :=
 Sound.pure h hr (by simp [RepV,RepP]) (by simp [V.names]) hd hf
theorem sound_pick (h:Ga C E σ a w) (hg:GOK gl C.E0.H) (hd:∀ d,o.dst=some d→d<C.nt) {c x y:Operand} (ho:o.op = .pick c x y) {r:R}
  (hs:stepOp T note (σ.val gl) ob o.dst (.pick c x y)=some r):Sound P C E σ a w o r:=by
 have hc:=val_rep h hg c
 have hx:=val_rep h hg x
 have hy:=val_rep h hg y
 have nx:=val_names (gl:=gl) h x
 have ny:=val_names (gl:=gl) h y
 simp only [stepOp] at hs
 split at hs
 ·rename_i c' a' b' e1 e2 e3
  rw [e1] at hc;rw [e2] at hx;rw [e3] at hy
  have hc:=rep_bool hc
  have hx:=rep_bool hx
  have hy:=rep_bool hy
  simp only [boolR,Option.some.injEq] at hs
  subst hs
  refine sound_bool h hd (.inl ?_)
  cases c'<;>simp [execOp,ho,hc,hx,hy,asBool]
 ·rename_i e1 _
  rw [e1] at hc
  have hc:=rep_bool hc
  simp only [Option.some.injEq] at hs
  subst hs
  refine Sound.pure h (v:=a.eval x) (.inl ?_) hx nx hd trivial
  simp [execOp,ho,hc,asBool]
 ·rename_i e1 _
  rw [e1] at hc
  have hc:=rep_bool hc
  simp only [Option.some.injEq] at hs
  subst hs
  refine Sound.pure h (v:=a.eval y) (.inl ?_) hy ny hd trivial
  simp [execOp,ho,hc,asBool]
 ·cases hs
theorem sound_not (h:Ga C E σ a w) (hg:GOK gl C.E0.H) (hd:∀ d,o.dst=some d→d<C.nt) {t:Nat} {x:Operand} (ho:o.op = .unOp .not t x) {r:R}
  (hs:stepOp T note (σ.val gl) ob o.dst (.unOp .not t x)=some r):Sound P C E σ a w o r:=by
 have hx:=val_rep h hg x
 simp only [stepOp] at hs
 split at hs
 ·rename_i b e
  rw [e] at hx
  have hx:=rep_bool hx
  simp only [boolR,Option.some.injEq] at hs
  subst hs
  refine sound_bool h hd (.inl ?_)
  simp [execOp,ho,hx,Op.unary]
 ·cases hs
theorem sound_iface (h:Ga C E σ a w) (hg:GOK gl C.E0.H) (hd:∀ d,o.dst=some d→d<C.nt) {t:Nat} {x:Operand} (ho:o.op = .makeInterface t x) {r:R}
  (hT:TOK P T) (hs:stepOp T note (σ.val gl) ob o.dst (.makeInterface t x)=some r):Sound P C E σ a w o r:=by
 have hx:=val_rep h hg x
 simp only [stepOp] at hs
 split at hs
 ·rename_i ti p et e
  rw [e] at hx
  cases hif:ti.k.isIface with
  | true=>rw [hif] at hs;cases hs
  | false =>
  rw [hif] at hs
  simp only [cond_false,Option.some.injEq] at hs
  subst hs
  have hrun:∀ v,(Instr.makeInterface t v).run P w = .ok (.iface t v) w:=fun v=>run_makeInterface (P:=P) w t v ((hT t _ et).conc.resolve_left (by rw [hif];simp))
  refine Sound.pure h (v:=.iface t (a.eval x)) (.inl ?_) ?_ (by simp [V.names]) hd trivial
  ·simp [execOp,ho,hrun]
  ·simp only [RepV,RepP] at hx ⊢
   exact⟨_,rfl,hx⟩
 ·cases hs
theorem sound_assert (h:Ga C E σ a w) (hg:GOK gl C.E0.H) (hd:∀ d,o.dst=some d→d<C.nt) (hT:TOK P T) {x:Operand} {t0 t:Nat} {b:Bool} (ho:o.op = .typeAssert x t0 t b) {r:R}
  (hs:stepOp T note (σ.val gl) ob o.dst (.typeAssert x t0 t b)=some r):Sound P C E σ a w o r:=by
 have hx:=val_rep h hg x
 cases b with
 | false=>simp only [stepOp] at hs;cases hs
 | true =>
  simp only [stepOp] at hs
  split at hs
  ·rename_i t' p fs s1 s2 s3 s4 e et
   rw [e] at hx
   split at hs
   ·rename_i e'
    subst e'
    cases hs
    obtain⟨d,hde,hk⟩:=(hT t' _ et).desc
    simp only [TKOK] at hk
    obtain⟨ff,rfl,_⟩:=hk
    simp only [RepV,RepP] at hx
    obtain⟨u,hv,hu⟩:=hx
    refine Sound.pure h (v:=.tuple #[u,.bool true]) (.inl ?_) ?_ (by simp [R.of,V.names]) hd trivial
    ·simp [execOp,ho,hv,Instr.typeAssert,run_underlying hde]
    ·simp only [RepV]
     rw [RepP]
     exact⟨[u,.bool true],rfl,rfl,by rw [RepL,RepL,RepL];exact⟨hu,by simp [RepP],trivial⟩⟩
   ·cases hs
  ·cases hs
theorem sound_nilCheck (h:Ga C E σ a w) (hg:GOK gl C.E0.H) (hd:∀ d,o.dst=some d→d<C.nt) {x:Operand} (ho:o.op = .nilCheck x) {r:R}
  (hs:stepOp T note (σ.val gl) ob o.dst (.nilCheck x)=some r):Sound P C E σ a w o r:=by
 have hx:=val_rep h hg x
 have nx:=val_names (gl:=gl) h x
 simp only [stepOp] at hs
 have key:∀ ad:Addr,a.eval x = .pointer (some ad)→Sound P C E σ a w o (R.of (σ.val gl x)):=by
  intro ad e
  refine Sound.pure h (v:=a.eval x) (.inl ?_) hx nx hd trivial
  simp [execOp,ho,e]
 split at hs
 ·rename_i cs e
  simp only [Option.some.injEq] at hs
  subst hs
  rw [← e]
  rw [e] at hx
  simp only [RepV,RepP] at hx
  obtain⟨b,off,hv,_⟩:=hx
  exact key _ hv
 ·rename_i n off e
  simp only [Option.some.injEq] at hs
  subst hs
  rw [← e]
  rw [e] at hx
  simp only [RepV] at hx
  obtain⟨b,_,hv⟩:=hx
  exact key _ hv
 ·rename_i n ver i off e
  simp only [Option.some.injEq] at hs
  subst hs
  rw [← e]
  rw [e] at hx
  simp only [RepV] at hx
  obtain⟨_,⟨ad,hv⟩,_⟩:=hx
  exact key _ hv
 ·cases hs
end
end Go.Lg
