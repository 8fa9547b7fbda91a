/- Contracts of functions; no conditions. -/
import Derived.Test.YtmihmecnjjmdgaaGreatDoorAgainB1
import Derived.Test.YtmihmecnjjmdgaaGreatDoorProg
import Derived.KernelRfl
set_option linter.all false
namespace Go.Lg
def yU(k:IntKind):Bool:=match k with|.i16=>false|.i8=>false|_=>true
def Tf{k:IntKind}(h:yU k=true):k≠.i16/\k≠.i8:=by cases k<;>simp[yU]at h⊢
def jZ:PV->Value->Bool|.int n,.int .i64 m=>decide (m=n)|.bool a,.bool b=>decide (b=a)|.nil,.pointer none=>true|.nils,.slice none 0 0=>true|.nilfn,.nilFunc=>true|.nilm,.map none=>true|.nilif,.nilIface=>true|.num k n,.int c m=>decide (c=k)&&decide (m=n)&&yU k|.str [],.string ⟨⟨[]⟩⟩=>true|_,_=>false
def Dr{p:PV}{v:Value}(h:jZ p v=true):RepP (λ_=>[]) p v:=by
 unfold jZ at h;split at h<;>simp_all[RepP];exact Tf h.2
def uU:List PV->List Value->Bool|[],_=>true|_::_,[]=>false|c::a,v::b=>jZ c v&&uU a b
def Uf:∀{a:List PV}{b:List Value},uU a b=true->RepL (λ_=>[]) a b
 |[],_,_=>by simp only[RepL]|_::_,[],h=>by cases h
 |c::a,v::b,h=>by
  simp only[uU,Bool.and_eq_true]at h;simp only[RepL];exact⟨Dr h.1,Uf h.2⟩
def vZ(P:Program)(t:Nat)(k:TK):Bool:=match k with
 |.bool=>match P.underlying t with|some .bool=>true|_=>false
 |.pointer=>match P.underlying t with|some (.pointer _)=>true|_=>false
 |.func=>match P.underlying t with|some (.func _ _ _)=>true|_=>false
 |.struct a pl=>match P.underlying t with|some (.struct f)=>decide (f.toList.map (λx=>(x.offset,(P.info? x.type).map (·.size)))=a.map (λp=>(p.1,some p.2)))&&vQ P f.toList pl|_=>false
 |.slice e=>match P.underlying t with|some (.slice a)=>decide (a=e)|_=>false
 |.array n e=>match P.underlying t with|some (.array b a)=>decide (b=n)&&decide (a=e)|_=>false
 |.smap k v s=>match P.underlying t with
  |some (.map a b)=>decide (a=k)&&decide (b=v)&&(match s,P.underlying k with
   |true,some .string=>true|false,some (.int .i64)=>true|_,_=>false)
  |_=>false
 |.str=>match P.underlying t with|some .string=>true|_=>false
 |.int=>match P.underlying t with|some (.int .i64)=>true|_=>false
 |.iface=>match P.underlying t with|some (.interface _)=>true|_=>false
 |.num k=>match P.underlying t with|some (.int a)=>decide (a=k)&&yU k|_=>false
 |_=>false
def Er{P:Program}{t:Nat}{k:TK}(h:vZ P t k=true):∃d,P.underlying t=some d/\KC P d k:=by
 unfold vZ at h;split at h<;>(try split at h)<;>(try (cases h;done))<;>rename_i e<;>refine⟨_,e,?_⟩<;>simp only[KC,Bool.and_eq_true,decide_eq_true_eq]at h⊢
 all_goals first|rfl|exact⟨_,rfl⟩|exact⟨_,_,_,rfl⟩|(exact⟨_,rfl,h.1,h.2⟩)|(subst h;rfl)|(obtain⟨rfl,rfl⟩:=h;rfl)|(obtain⟨rfl,a⟩:=h;exact⟨rfl,Tf a⟩)|(obtain⟨⟨rfl,rfl⟩,a⟩:=h;refine⟨rfl,?_⟩;split at a<;>simp_all)
def Vf(P:Program)(t:Nat)(a:TI):Bool:=vZ P t a.k&&decide (a.zero.cells.size=a.size)&&uU a.zc a.zero.cells.toList&&decide (a.zc.length=a.size)&&(a.k.isIface||P.concrete t)
def bN(P:Program):List (Option TI)->Nat->Bool|[],_=>true|none::r,t=>bN P r (t+1)|some a::r,t=>Vf P t a&&bN P r (t+1)
def dN(P:Program):List (Option TI)->Nat->List (Option (Nat×Nat×Option Value))|[],_=>[]|none::r,t=>none::dN P r (t+1)|some _::r,t=>((P.info? t).map λi=>(i.size,i.bytes,i.zero))::dN P r (t+1)
def fN:List (Option TI)->List (Option (Nat×Nat×Option Value))|[]=>[]|none::r=>none::fN r|some a::r=>some (a.size,a.bytes,some a.zero)::fN r
def Wf{P:Program}:∀{l:List (Option TI)}{k:Nat},bN P l k=true->dN P l k=fN l->∀(i:Nat)(f:TI),VB l i=some (some f)->TIOK P (k+i) f
 |[],k,_,_,i,f,h=>by cases i<;>cases h
 |x::r,k,g,m,i,f,h=>by
  have step:∀j,VB r j=some (some f)->TIOK P (k+(j+1)) f:=λj n=>by
   have:bN P r (k+1)=true/\dN P r (k+1)=fN r:=by
    cases x with|none=>simp only[bN,dN,fN,List.cons.injEq,true_and]at g m;exact⟨g,m⟩|some y=>simp only[bN,dN,fN,List.cons.injEq,Bool.and_eq_true]at g m;exact⟨g.2,m.2⟩
   have:=Wf this.1 this.2 j f n;rwa[show k+1+j=k+(j+1) by omega]at this
  cases i with
  |succ j=>exact step j h|zero=>
   cases x with
   |none=>cases h
   |some y=>
    cases h;simp only[bN,dN,fN,List.cons.injEq,Bool.and_eq_true,Vf,decide_eq_true_eq,Bool.or_eq_true]at g m;obtain⟨⟨⟨⟨⟨a,b⟩,c⟩,d⟩,e⟩,_⟩:=g;obtain⟨o,u,v⟩:=Er a;exact TIOK.mk' m.1 u v b (Uf c) d e
end Go.Lg
namespace Go.Proofs.YtmihmecnjjmdgaaGreatDoor
open Go.Lg
set_option maxRecDepth 100000
def zV:PV->Value|.int _=>.int .i64 0|.bool _=>.bool false|.nil=>.pointer none|.nils=>.slice none 0 0|.num k _=>.int k 0|.str _=>.string ⟨#[]⟩|.nilm=>.map none|.nilfn=>.nilFunc|_=>.nilIface
def tO(k:TK)(y:Nat)(c:PV):Option TI:=some ⟨k,1,y,zV c,[c]⟩
def tS(f:List (Nat×Nat))(p:List Nat)(n y:Nat)(c:List PV):Option TI:=some ⟨.struct f p,n,y,.agg (c.map zV).toArray,c⟩
def tA(n e m y:Nat)(c:List PV):Option TI:=some ⟨.array n e,m,y,.agg ((List.replicate n (c.map zV)).flatten).toArray,(List.replicate n c).flatten⟩
abbrev zI:PV:=.int 0
abbrev zN:PV:=.nils
def t0:=tO .func 8 .nilfn
def t1:=tO .pointer 8 .nil
def t2:=tO (.num .u8) 1 (.num .u8 0)
def t3:=tS [(0,1)] [0] 1 24 [zN]
def t4:=tO .int 8 zI
def t5:=tO .str 16 (.str [])
def t6:=tO (.num .i32) 4 (.num .i32 0)
def t7:=tS [(0,1),(1,1),(2,1),(3,1)] [0,1,2,3] 4 24 [zI,zI,.bool false,.num .u8 0]
def t8:=tS [(0,1)] [0] 1 8 [.nil]
def t9:=tS [(0,1),(1,1)] [0,1] 2 32 [zI,zN]
def Xf:=tS [(0,1),(1,1),(2,2),(4,1),(5,1),(6,1)] [0,1,3,4,5] 7 120 [zI,zI,zI,zN,zN,zN,zN]
def Yf:=tS [(0,1),(1,2),(3,1),(4,1)] [0,2,3] 5 88 [zI,zI,zN,zN,zN]
def Zf:=tS [(0,5),(5,1)] [1] 6 112 [zI,zI,zN,zN,zN,zN]
def qg:=tS [(0,1),(1,1)] [0,1] 2 48 [zN,zN]
def zg:=tS [(0,1),(1,1),(2,2),(4,1)] [0,1,3] 5 72 [zI,zI,zI,zN,zN]
def jg:=tS [(0,1),(1,1)] [0,1] 2 32 [zN,zI]
def vg:=tS [(0,1),(1,1),(2,1),(3,1)] [0,1,2,3] 4 64 [zI,zI,zN,zN]
def wg:=tS [(0,1),(1,1),(2,1)] [0,1,2] 3 72 [zN,zN,zN]
def kg:=tS [(0,7),(7,5),(12,1),(13,1),(14,1)] [2,3,4] 15 264 [zI,zI,zI,zN,zN,zN,zN,zI,zI,zN,zN,zN,zN,.bool false,zN]
def yg:=tS [(0,5),(5,1)] [1] 6 80 [zI,zI,zI,zN,zN,zI]
def ug:=tS [(0,6),(6,1),(7,1)] [1,2] 8 96 [zI,zI,zI,zN,zN,zI,.bool false,zI]
def bg:=tS [(0,1),(1,1)] [0,1] 2 16 [zI,.bool false]
def dg:=tS [(0,1),(1,1),(2,1),(3,1),(4,1)] [0,1,2,3,4] 5 32 [zI,zI,zI,.bool false,.bool false]
def fg:=tS [(0,2),(2,1)] [1] 3 40 [zI,zN,zI]
def gg:=tO (.slice 199) 24 zN
def lg:=tS [(0,1),(1,1)] [0,1] 2 32 [zN,.nilm]
def mg:=tO (.num .u32) 4 (.num .u32 0)
def ng:=tS [(0,5),(5,1)] [1] 6 96 [zI,zI,zN,zN,zN,.num .u32 0]
def pg:=tS [(0,1),(1,1)] [0,1] 2 16 [zI,zI]
def sg:=tS [(0,2),(2,1),(3,1)] [1,2] 4 64 [zI,zI,zN,zN]
def tg:=tS [(0,1),(1,1),(2,1)] [0,1,2] 3 56 [zN,zN,.nil]
def cg:=tS [(0,1),(1,1),(2,1),(3,1),(4,1),(5,1),(6,1),(7,1)] [0,1,2,3,4,5,6,7] 8 56 [.bool false,.bool false,zI,zI,zI,zI,zI,zI]
def eg:=tS [(0,1),(1,5),(6,1),(7,5)] [0,2] 12 176 [zI,zI,zI,zI,zN,zN,zN,zI,zI,zI,zN,zN]
def ig:=tS [(0,5),(5,1)] [1] 6 96 [zI,zI,zN,zN,zN,zI]
def og:=tS [(0,1),(1,1)] [0,1] 2 16 [.nil,zI]
def xg:=tS [(0,1),(1,1),(2,2),(4,1),(5,1),(6,1),(7,1)] [0,1,3,4,5,6] 8 96 [zI,zI,zI,zN,zN,zI,zI,.bool false]
def Ag:=tS [(0,1),(1,1),(2,1),(3,1)] [0,1,2,3] 4 40 [.nil,.nil,.nil,.str []]
def Bg:=tS [(0,0)] [] 0 0 []
def Fr:=tO .bool 1 (.bool false)
def Gr:=tO .iface 16 .nilif
def Hr:=tO (.slice 3) 24 zN
def Ir:=tO (.slice 29) 24 zN
def Jr:=tO (.slice 55) 24 zN
def Kr:=tO (.slice 36) 24 zN
def Lr:=tO (.slice 34) 24 zN
def Mr:=tO (.slice 170) 24 zN
def Nr:=tO (.slice 172) 24 zN
def Pr:=tO (.slice 66) 24 zN
def Qr:=tO (.slice 4) 24 zN
def Rr:=tO (.smap 3 270 false) 8 .nilm
def Sr:=tO (.slice 315) 24 zN
def Ur:=tO (.smap 3 4 false) 8 .nilm
def Vr:=tA 3 199 9 120 [zI,zN,zI]
def Wr:=tA 21 243 168 1176 [.bool false,.bool false,zI,zI,zI,zI,zI,zI]
def Xr:=tA 32 5 32 32 [.num .u8 0]
def Yr:=tA 14 3 14 112 [zI]
def Zr:=tO (.slice 333) 24 zN
def js:Option TI:=some ⟨.array 0 16,0,0,(.agg #[]),[]⟩
def tl:List (Option TI):=[none,t0,t4,t4,Fr,t2,t2,t7,t7,t5,t5,t5,none,none,none,t1,t1,t1,t8,t8,Gr,t6,Hr,t0,t0,t1,t0,Ir,t9,t9,Jr,Kr,Lr,Xf,Xf,Yf,Yf,Zf,Zf,none,t0,qg,qg,t4,none,t0,t0,none,t0,none,t0,none,t0,t0,zg,zg,none,t0,t0,t0,jg,jg,t0,t0,t0,t0,t1,Mr,Nr,vg,vg,none,t0,none,t0,t3,t3,t0,t0,t0,wg,wg,t0,t0,t0,t0,t0,t0,t0,t0,t0,t0,t0,t0,t0,t0,t0,t0,t0,t0,t0,t0,t0,t0,t0,t0,t0,t0,t0,t0,t0,t0,none,t0,t0,none,t0,t0,t0,none,t0,none,t0,t0,t0,Pr,kg,kg,t0,t0,t0,t0,t0,t0,t0,t0,t0,t0,none,t0,t0,t0,none,t0,t0,t0,none,t0,t0,t0,t0,t0,t0,t0,t0,t0,t0,t0,t0,t0,t0,Qr,t0,t0,none,t0,t0,t0,t0,yg,yg,ug,ug,none,t0,t0,t0,t0,t0,t0,t0,t0,t0,t1,bg,bg,t0,dg,dg,none,t0,t0,t0,t0,t0,t0,t0,t0,fg,fg,none,gg,gg,t0,t0,t0,t0,t0,t0,t0,t0,t0,t0,t0,t1,Rr,t0,lg,lg,mg,mg,ng,ng,none,t0,pg,pg,Sr,sg,sg,t0,t0,tg,tg,t0,t2,t0,t0,t0,t3,t3,t0,cg,cg,none,t0,t0,t0,t0,Ur,t0,t0,t0,t0,t0,t0,none,t0,t0,t0,t0,Vr,t0,none,t0,t0,t0,t0,t0,t0,t0,t0,t0,t0,t0,t0,t0,t0,t0,t0,t0,t0,t0,none,t0,t0,t0,Wr,t0,t0,t0,t0,none,t0,t0,t0,t0,t0,t0,t0,t0,none,t0,t0,t0,t0,t0,t0,t0,eg,eg,t0,t0,t0,ig,ig,Xr,none,none,t0,t0,t0,t0,t0,t0,t0,Yr,t0,none,t0,t0,t0,t1,t1,t0,og,og,t0,t0,Zr,t0,none,t0,t0,xg,xg,t0,t0,t0,t0,t0,t0,t0,t0,Ag,Ag,js,Bg,Bg,t2,t2,t0,t1,t6,t6]
def tt(t:Nat):Option TI:=match VB tl t with|some x=>x|none=>none
def ws:EB Tryz.prog tt:=by
 intro t a h;unfold tt at h;split at h
 ·rename_i x e;subst h;have:=Wf (P:=Tryz.prog) (l:=tl) (k:=0) (by kernel_rfl) (by kernel_rfl) t a e;rwa[Nat.zero_add]at this
 cases h
def As:Tryz.prog.follows .mixedOrders=true:=by kernel_rfl
end Go.Proofs.YtmihmecnjjmdgaaGreatDoor
