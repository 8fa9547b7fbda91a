/- Contracts of functions; no conditions. -/
import Derived.Test.YtbebdmlomjpamaaGreatDoorAccB1
import Derived.Test.YtbebdmlomjpamaaGreatDoorProg
import Derived.KernelRfl
set_option linter.all false
namespace Go.Lg
def GV(k:IntKind):Bool:=match k with|.i16=>false|.i8=>false|_=>true
def Hi{k:IntKind}(h:GV k=true):k≠.i16/\k≠.i8:=by cases k<;>simp[GV]at h⊢
def ub:PV->Value->Bool|.int n,.int .i64 m=>decide (m=n)|.bool a,.bool b=>decide (b=a)|.nil,.pointer none=>true|.nils,.slice none 0 0=>true|.nilfn,.nilFunc=>true|.nilm,.map none=>true|.nilif,.nilIface=>true|.num k n,.int c m=>decide (c=k)&&decide (m=n)&&GV k|.str [],.string ⟨⟨[]⟩⟩=>true|_,_=>false
def Uv{p:PV}{v:Value}(h:ub p v=true):RepP (λ_=>[]) p v:=by
 unfold ub at h;split at h<;>simp_all[RepP];exact Hi h.2
def HV:List PV->List Value->Bool|[],_=>true|_::_,[]=>false|c::a,v::b=>ub c v&&HV a b
def Ii:∀{a:List PV}{b:List Value},HV a b=true->RepL (λ_=>[]) a b
 |[],_,_=>by simp only[RepL]|_::_,[],h=>by cases h
 |c::a,v::b,h=>by
  simp only[HV,hP]at h;simp only[RepL];exact⟨Uv h.1,Ii h.2⟩
def nb(P:Program)(t:Nat)(k:TK):Bool:=match k with
 |.bool=>match P.underlying t with|some .bool=>true|_=>false
 |.pointer=>match P.underlying t with|some (.pointer _)=>true|_=>false
 |.func=>match P.underlying t with|some (.func _ _ _)=>true|_=>false
 |.struct a pl=>match P.underlying t with|some (.struct f)=>decide (f.toList.map (λx=>(x.offset,(P.info? x.type).map (·.size)))=a.map (λp=>(p.1,some p.2)))&&gR P f.toList pl|_=>false
 |.slice e=>match P.underlying t with|some (.slice a)=>decide (a=e)|_=>false
 |.array n e=>match P.underlying t with|some (.array b a)=>decide (b=n)&&decide (a=e)|_=>false
 |.smap k v s=>match P.underlying t with
  |some (.map a b)=>decide (a=k)&&decide (b=v)&&(match s,P.underlying k with
   |true,some .string=>true|false,some (.int .i64)=>true|_,_=>false)
  |_=>false
 |.str=>match P.underlying t with|some .string=>true|_=>false
 |.int=>match P.underlying t with|some (.int .i64)=>true|_=>false
 |.iface=>match P.underlying t with|some (.interface _)=>true|_=>false
 |.num k=>match P.underlying t with|some (.int a)=>decide (a=k)&&GV k|_=>false
 |_=>false
def Vv{P:Program}{t:Nat}{k:TK}(h:nb P t k=true):∃d,P.underlying t=some d/\yD P d k:=by
 unfold nb at h;split at h<;>(try split at h)<;>(try (cases h;done))<;>rename_i e<;>refine⟨_,e,?_⟩<;>simp only[yD,hP,decide_eq_true_eq]at h⊢
 all_goals first|rfl|exact⟨_,rfl⟩|exact⟨_,_,_,rfl⟩|(exact⟨_,rfl,h.1,h.2⟩)|(subst h;rfl)|(obtain⟨rfl,rfl⟩:=h;rfl)|(obtain⟨rfl,a⟩:=h;exact⟨rfl,Hi a⟩)|(obtain⟨⟨rfl,rfl⟩,a⟩:=h;refine⟨rfl,?_⟩;split at a<;>simp_all)
def Ji(P:Program)(t:Nat)(a:TI):Bool:=nb P t a.k&&decide (a.zero.cells.size=a.size)&&HV a.zc a.zero.cells.toList&&decide (a.zc.length=a.size)&&(a.k.isIface||P.concrete t)
def ZN(P:Program):List (Option TI)->Nat->Bool|[],_=>true|none::r,t=>ZN P r (t+1)|some a::r,t=>Ji P t a&&ZN P r (t+1)
def qO(P:Program):List (Option TI)->Nat->List (Option (Nat×Nat×Option Value))|[],_=>[]|none::r,t=>none::qO P r (t+1)|some _::r,t=>((P.info? t).map λi=>(i.size,i.bytes,i.zero))::qO P r (t+1)
def zO:List (Option TI)->List (Option (Nat×Nat×Option Value))|[]=>[]|none::r=>none::zO r|some a::r=>some (a.size,a.bytes,some a.zero)::zO r
def Ki{P:Program}:∀{l:List (Option TI)}{k:Nat},ZN P l k=true->qO P l k=zO l->∀(i:Nat)(f:TI),nB l i=some (some f)->TIOK P (k+i) f
 |[],k,_,_,i,f,h=>by cases i<;>cases h
 |x::r,k,g,m,i,f,h=>by
  have step:∀j,nB r j=some (some f)->TIOK P (k+(j+1)) f:=λj n=>by
   have:ZN P r (k+1)=true/\qO P r (k+1)=zO r:=by
    cases x with|none=>simp only[ZN,qO,zO,abh,true_and]at g m;exact⟨g,m⟩|some y=>simp only[ZN,qO,zO,abh,hP]at g m;exact⟨g.2,m.2⟩
   have:=Ki this.1 this.2 j f n;rwa[show k+1+j=k+(j+1) by omega]at this
  cases i with
  |succ j=>exact step j h|zero=>
   cases x with
   |none=>cases h
   |some y=>
    cases h;simp only[ZN,qO,zO,abh,hP,Ji,decide_eq_true_eq,aax]at g m;obtain⟨⟨⟨⟨⟨a,b⟩,c⟩,d⟩,e⟩,_⟩:=g;have⟨o,u,v⟩:=Vv a;exact TIOK.mk' m.1 u v b (Ii c) d e
end Go.Lg
namespace Go.Proofs.YtbebdmlomjpamaaGreatDoor
open Go.Lg
set_option maxRecDepth 100000
def zV:PV->Value|.int _=>.int .i64 0|.bool _=>.bool false|.nil=>.pointer none|.nils=>.slice none 0 0|.num k _=>.int k 0|.str _=>.string ⟨#[]⟩|.nilm=>.map none|.nilfn=>.nilFunc|_=>.nilIface
def tO(k:TK)(y:Nat)(c:PV):Option TI:=some ⟨k,1,y,zV c,[c]⟩
def tS(f:List (Nat×Nat))(p:List Nat)(n y:Nat)(c:List PV):Option TI:=some ⟨.struct f p,n,y,.agg (c.map zV).toArray,c⟩
def tA(n e m y:Nat)(c:List PV):Option TI:=some ⟨.array n e,m,y,.agg ((List.replicate n (c.map zV)).flatten).toArray,(List.replicate n c).flatten⟩
abbrev zI:PV:=.int 0
abbrev zN:PV:=.nils
def t0:=tO .func 8 .nilfn
def t1:=tO .pointer 8 .nil
def t2:=tO (.num .u8) 1 (.num .u8 0)
def t3:=tS [(0,1)] [0] 1 24 [zN]
def t4:=tO .int 8 zI
def t5:=tO .str 16 (.str [])
def t6:=tO (.num .i32) 4 (.num .i32 0)
def t7:=tS [(0,1),(1,1),(2,1),(3,1)] [0,1,2,3] 4 24 [zI,zI,.bool false,.num .u8 0]
def t8:=tS [(0,1)] [0] 1 8 [.nil]
def t9:=tS [(0,1),(1,1)] [0,1] 2 48 [zN,zN]
def Li:=tS [(0,1),(1,1)] [0,1] 2 32 [zI,zN]
def Mi:=tS [(0,1),(1,1),(2,2),(4,1),(5,1),(6,1)] [0,1,3,4,5] 7 120 [zI,zI,zI,zN,zN,zN,zN]
def Ni:=tS [(0,1),(1,2),(3,1),(4,1)] [0,2,3] 5 88 [zI,zI,zN,zN,zN]
def Oi:=tS [(0,5),(5,1)] [1] 6 112 [zI,zI,zN,zN,zN,zN]
def Pi:=tS [(0,1),(1,1),(2,2),(4,1)] [0,1,3] 5 72 [zI,zI,zI,zN,zN]
def Qi:=tS [(0,1),(1,1)] [0,1] 2 32 [zN,zI]
def Ri:=tS [(0,1),(1,1),(2,1),(3,1)] [0,1,2,3] 4 64 [zI,zI,zN,zN]
def Si:=tS [(0,1),(1,1),(2,1)] [0,1,2] 3 72 [zN,zN,zN]
def Ti:=tS [(0,7),(7,5),(12,1),(13,1),(14,1)] [2,3,4] 15 264 [zI,zI,zI,zN,zN,zN,zN,zI,zI,zN,zN,zN,zN,.bool false,zN]
def Ui:=tS [(0,5),(5,1)] [1] 6 80 [zI,zI,zI,zN,zN,zI]
def Vi:=tS [(0,6),(6,1),(7,1)] [1,2] 8 96 [zI,zI,zI,zN,zN,zI,.bool false,zI]
def Wi:=tS [(0,1),(1,1)] [0,1] 2 16 [zI,.bool false]
def Xi:=tS [(0,2),(2,1)] [1] 3 40 [zI,zN,zI]
def Yi:=tO (.slice 194) 24 zN
def Zi:=tS [(0,1),(1,1),(2,1),(3,1),(4,1)] [0,1,2,3,4] 5 32 [zI,zI,zI,.bool false,.bool false]
def qj:=tS [(0,1),(1,1)] [0,1] 2 32 [zN,.nilm]
def zj:=tO (.num .u32) 4 (.num .u32 0)
def jj:=tS [(0,5),(5,1)] [1] 6 96 [zI,zI,zN,zN,zN,.num .u32 0]
def vj:=tS [(0,1),(1,1)] [0,1] 2 16 [zI,zI]
def wj:=tS [(0,2),(2,1),(3,1)] [1,2] 4 64 [zI,zI,zN,zN]
def kj:=tS [(0,1),(1,1),(2,1)] [0,1,2] 3 56 [zN,zN,.nil]
def yj:=tS [(0,1),(1,1),(2,1),(3,1),(4,1),(5,1),(6,1),(7,1)] [0,1,2,3,4,5,6,7] 8 56 [.bool false,.bool false,zI,zI,zI,zI,zI,zI]
def uj:=tS [(0,1),(1,5),(6,1),(7,5)] [0,2] 12 176 [zI,zI,zI,zI,zN,zN,zN,zI,zI,zI,zN,zN]
def bj:=tS [(0,5),(5,1)] [1] 6 96 [zI,zI,zN,zN,zN,zI]
def dj:=tS [(0,1),(1,1)] [0,1] 2 16 [.nil,zI]
def fj:=tS [(0,1),(1,1),(2,2),(4,1),(5,1),(6,1),(7,1)] [0,1,3,4,5,6] 8 96 [zI,zI,zI,zN,zN,zI,zI,.bool false]
def gj:=tS [(0,1),(1,1),(2,1),(3,1)] [0,1,2,3] 4 40 [.nil,.nil,.nil,.str []]
def lj:=tS [(0,0)] [] 0 0 []
def Wv:=tO .bool 1 (.bool false)
def Xv:=tO .iface 16 .nilif
def Yv:=tO (.slice 3) 24 zN
def Zv:=tO (.slice 36) 24 zN
def qw:=tO (.slice 41) 24 zN
def zw:=tO (.slice 58) 24 zN
def jw:=tO (.slice 39) 24 zN
def ww:=tO (.slice 177) 24 zN
def kw:=tO (.slice 179) 24 zN
def yw:=tO (.slice 75) 24 zN
def uw:=tO (.slice 4) 24 zN
def bw:=tO (.smap 3 283 false) 8 .nilm
def dw:=tO (.slice 326) 24 zN
def fw:=tA 3 194 9 120 [zI,zN,zI]
def lw:=tO (.smap 3 4 false) 8 .nilm
def mw:=tA 21 255 168 1176 [.bool false,.bool false,zI,zI,zI,zI,zI,zI]
def pw:=tA 32 5 32 32 [.num .u8 0]
def tw:=tA 14 3 14 112 [zI]
def aw:=tO (.slice 342) 24 zN
def cw:Option TI:=some ⟨.array 0 16,0,0,(.agg #[]),[]⟩
def tl:List (Option TI):=[none,t0,t4,t4,Wv,t2,t2,t7,t7,t5,t5,t5,none,none,none,t1,t1,t1,t8,t8,Xv,t6,Yv,t0,t0,t1,t0,Zv,qw,t9,t9,t0,t0,zw,t0,Li,Li,jw,Mi,Mi,Ni,Ni,Oi,Oi,none,t0,t4,none,t0,none,t0,t0,none,t0,none,t0,t0,Pi,Pi,t0,t0,Qi,Qi,t0,t0,t0,none,t0,t0,t0,t0,none,t0,t0,t0,t1,ww,kw,Ri,Ri,none,t0,t3,t3,t0,t0,t0,t0,none,t0,none,t0,t0,t0,t0,t0,t0,t0,t0,t0,t0,t0,t0,t0,t0,t0,t0,t0,t0,t0,t0,t0,t0,t0,t0,t0,t0,t0,t0,t0,t0,t0,t0,t0,Si,Si,t0,t0,none,t0,none,t0,t0,t0,yw,Ti,Ti,t0,t0,t0,t0,t0,t0,t0,t0,t0,t0,none,t0,t0,t0,t0,t0,t0,t0,t0,t0,t0,t0,t0,t0,t0,t0,none,t0,none,t0,t0,uw,t0,t0,none,t0,t0,t0,t0,Ui,Ui,Vi,Vi,none,t0,t0,t0,t0,t0,t0,t0,t0,t0,t1,Wi,Wi,Xi,Xi,none,Yi,Yi,t0,t0,t0,t0,t0,t0,t0,t0,t0,t0,t0,t0,t0,t0,t0,t0,t0,t0,t0,Zi,Zi,none,t0,t0,t0,t0,t0,t0,t1,bw,t0,qj,qj,zj,zj,jj,jj,none,t0,vj,vj,dw,wj,wj,t0,t0,kj,kj,t0,t2,t0,t0,t0,t3,t3,t0,yj,yj,none,t0,t0,t0,t0,t0,fw,t0,none,t0,t0,t0,t0,t0,t0,t0,t0,t0,none,t0,lw,t0,t0,t0,t0,t0,t0,t0,t0,t0,t0,t0,t0,t0,t0,t0,t0,t0,t0,t0,none,t0,t0,t0,mw,t0,t0,t0,t0,t0,t0,t0,t0,none,t0,t0,none,t0,t0,t0,t0,t0,t0,t0,uj,uj,t0,t0,t0,bj,bj,pw,none,none,t0,t0,t0,tw,t0,t0,t0,none,t0,t0,t0,t1,t1,t0,dj,dj,t0,t0,aw,t0,none,t0,t0,fj,fj,t0,t0,t0,t0,t0,t0,t0,t0,gj,gj,cw,lj,lj,t2,t2,t0,t1,t6,t6]
def tt(t:Nat):Option TI:=match nB tl t with|some x=>x|none=>none
def bG{p:Prop}(h:p:=by kernel_rfl):=h
def iw:KB Tryz.prog tt:=by
 intro t a h;unfold tt at h;split at h
 ·rename_i x e;subst h;have:=Ki (P:=Tryz.prog) (l:=tl) (k:=0) bG bG t a e;rwa[ia]at this
 cases h
def ow:Tryz.prog.follows .mixedOrders=true:=bG
end Go.Proofs.YtbebdmlomjpamaaGreatDoor
