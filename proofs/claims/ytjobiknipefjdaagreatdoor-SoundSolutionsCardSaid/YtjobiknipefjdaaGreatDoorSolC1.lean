/- Contracts of functions; no conditions. -/
import Derived.Test.YtjobiknipefjdaaGreatDoorSolB1
import Derived.Test.YtjobiknipefjdaaGreatDoorProg
import Derived.KernelRfl
set_option linter.all false
namespace Go.Lg
def XT(k:IntKind):Bool:=match k with|.i16=>false|.i8=>false|_=>true
def Hf{k:IntKind}(h:XT k=true):k≠.i16/\k≠.i8:=by cases k<;>simp[XT]at h⊢
def TY:PV->Value->Bool|.int n,.int .i64 m=>decide (m=n)|.bool a,.bool b=>decide (b=a)|.nil,.pointer none=>true|.nils,.slice none 0 0=>true|.nilfn,.nilFunc=>true|.nilm,.map none=>true|.nilif,.nilIface=>true|.num k n,.int c m=>decide (c=k)&&decide (m=n)&&XT k|.str [],.string ⟨⟨[]⟩⟩=>true|_,_=>false
def yr{p:PV}{v:Value}(h:TY p v=true):RepP (λ_=>[]) p v:=by
 unfold TY at h;split at h<;>simp_all[RepP];exact Hf h.2
def YT:List PV->List Value->Bool|[],_=>true|_::_,[]=>false|c::a,v::b=>TY c v&&YT a b
def If:∀{a:List PV}{b:List Value},YT a b=true->RepL (λ_=>[]) a b
 |[],_,_=>by simp only[RepL]|_::_,[],h=>by cases h
 |c::a,v::b,h=>by
  simp only[YT,Bool.and_eq_true]at h;simp only[RepL];exact⟨yr h.1,If h.2⟩
def UY(P:Program)(t:Nat)(k:TK):Bool:=match k with
 |.bool=>match P.underlying t with|some .bool=>true|_=>false
 |.pointer=>match P.underlying t with|some (.pointer _)=>true|_=>false
 |.func=>match P.underlying t with|some (.func _ _ _)=>true|_=>false
 |.struct a pl=>match P.underlying t with|some (.struct f)=>decide (f.toList.map (λx=>(x.offset,(P.info? x.type).map (·.size)))=a.map (λp=>(p.1,some p.2)))&&VP P f.toList pl|_=>false
 |.slice e=>match P.underlying t with|some (.slice a)=>decide (a=e)|_=>false
 |.array n e=>match P.underlying t with|some (.array b a)=>decide (b=n)&&decide (a=e)|_=>false
 |.smap k v s=>match P.underlying t with
  |some (.map a b)=>decide (a=k)&&decide (b=v)&&(match s,P.underlying k with
   |true,some .string=>true|false,some (.int .i64)=>true|_,_=>false)
  |_=>false
 |.str=>match P.underlying t with|some .string=>true|_=>false
 |.int=>match P.underlying t with|some (.int .i64)=>true|_=>false
 |.iface=>match P.underlying t with|some (.interface _)=>true|_=>false
 |.num k=>match P.underlying t with|some (.int a)=>decide (a=k)&&XT k|_=>false
 |_=>false
def ur{P:Program}{t:Nat}{k:TK}(h:UY P t k=true):∃d,P.underlying t=some d/\EC P d k:=by
 unfold UY at h;split at h<;>(try split at h)<;>(try (cases h;done))<;>rename_i e<;>refine⟨_,e,?_⟩<;>simp only[EC,Bool.and_eq_true,decide_eq_true_eq]at h⊢
 all_goals first|rfl|exact⟨_,rfl⟩|exact⟨_,_,_,rfl⟩|(exact⟨_,rfl,h.1,h.2⟩)|(subst h;rfl)|(obtain⟨rfl,rfl⟩:=h;rfl)|(obtain⟨rfl,a⟩:=h;exact⟨rfl,Hf a⟩)|(obtain⟨⟨rfl,rfl⟩,a⟩:=h;refine⟨rfl,?_⟩;split at a<;>simp_all)
def Jf(P:Program)(t:Nat)(a:TI):Bool:=UY P t a.k&&decide (a.zero.cells.size=a.size)&&YT a.zc a.zero.cells.toList&&decide (a.zc.length=a.size)&&(a.k.isIface||P.concrete t)
def LM(P:Program):List (Option TI)->Nat->Bool|[],_=>true|none::r,t=>LM P r (t+1)|some a::r,t=>Jf P t a&&LM P r (t+1)
def MM(P:Program):List (Option TI)->Nat->List (Option (Nat×Nat×Option Value))|[],_=>[]|none::r,t=>none::MM P r (t+1)|some _::r,t=>((P.info? t).map λi=>(i.size,i.bytes,i.zero))::MM P r (t+1)
def NM:List (Option TI)->List (Option (Nat×Nat×Option Value))|[]=>[]|none::r=>none::NM r|some a::r=>some (a.size,a.bytes,some a.zero)::NM r
def Kf{P:Program}:∀{l:List (Option TI)}{k:Nat},LM P l k=true->MM P l k=NM l->∀(i:Nat)(f:TI),TB l i=some (some f)->TIOK P (k+i) f
 |[],k,_,_,i,f,h=>by cases i<;>cases h
 |x::r,k,g,m,i,f,h=>by
  have step:∀j,TB r j=some (some f)->TIOK P (k+(j+1)) f:=λj n=>by
   have:LM P r (k+1)=true/\MM P r (k+1)=NM r:=by
    cases x with|none=>simp only[LM,MM,NM,List.cons.injEq,true_and]at g m;exact⟨g,m⟩|some y=>simp only[LM,MM,NM,List.cons.injEq,Bool.and_eq_true]at g m;exact⟨g.2,m.2⟩
   have:=Kf this.1 this.2 j f n;rwa[show k+1+j=k+(j+1) by omega]at this
  cases i with
  |succ j=>exact step j h|zero=>
   cases x with
   |none=>cases h
   |some y=>
    cases h;simp only[LM,MM,NM,List.cons.injEq,Bool.and_eq_true,Jf,decide_eq_true_eq,Bool.or_eq_true]at g m;obtain⟨⟨⟨⟨⟨a,b⟩,c⟩,d⟩,e⟩,_⟩:=g;obtain⟨o,u,v⟩:=ur a;exact TIOK.mk' m.1 u v b (If c) d e
end Go.Lg
namespace Go.Proofs.YtjobiknipefjdaaGreatDoor
open Go.Lg
set_option maxRecDepth 100000
def zV:PV->Value|.int _=>.int .i64 0|.bool _=>.bool false|.nil=>.pointer none|.nils=>.slice none 0 0|.num k _=>.int k 0|.str _=>.string ⟨#[]⟩|.nilm=>.map none|.nilfn=>.nilFunc|_=>.nilIface
def tO(k:TK)(y:Nat)(c:PV):Option TI:=some ⟨k,1,y,zV c,[c]⟩
def tS(f:List (Nat×Nat))(p:List Nat)(n y:Nat)(c:List PV):Option TI:=some ⟨.struct f p,n,y,.agg (c.map zV).toArray,c⟩
def tA(n e m y:Nat)(c:List PV):Option TI:=some ⟨.array n e,m,y,.agg ((List.replicate n (c.map zV)).flatten).toArray,(List.replicate n c).flatten⟩
abbrev zI:PV:=.int 0
abbrev zN:PV:=.nils
def t0:=tO .func 8 .nilfn
def t1:=tO .pointer 8 .nil
def t2:=tO (.num .u8) 1 (.num .u8 0)
def t3:=tS [(0,1)] [0] 1 24 [zN]
def t4:=tO .int 8 zI
def t5:=tO .str 16 (.str [])
def t6:=tO (.num .i32) 4 (.num .i32 0)
def t7:=tS [(0,1),(1,1),(2,1),(3,1)] [0,1,2,3] 4 24 [zI,zI,.bool false,.num .u8 0]
def t8:=tS [(0,1)] [0] 1 8 [.nil]
def t9:=tS [(0,1),(1,1)] [0,1] 2 32 [zI,zN]
def Mf:=tS [(0,1),(1,2),(3,1),(4,1)] [0,2,3] 5 88 [zI,zI,zN,zN,zN]
def Nf:=tS [(0,1),(1,1),(2,2),(4,1),(5,1),(6,1)] [0,1,3,4,5] 7 120 [zI,zI,zI,zN,zN,zN,zN]
def Of:=tS [(0,1),(1,1)] [0,1] 2 48 [zN,zN]
def Qf:=tS [(0,1),(1,1),(2,2),(4,1)] [0,1,3] 5 72 [zI,zI,zI,zN,zN]
def Rf:=tS [(0,5),(5,1)] [1] 6 112 [zI,zI,zN,zN,zN,zN]
def Sf:=tS [(0,1),(1,1)] [0,1] 2 32 [zN,zI]
def Tf:=tS [(0,1),(1,1),(2,1),(3,1)] [0,1,2,3] 4 64 [zI,zI,zN,zN]
def Uf:=tS [(0,1),(1,1),(2,1)] [0,1,2] 3 72 [zN,zN,zN]
def Vf:=tS [(0,7),(7,5),(12,1),(13,1),(14,1)] [2,3,4] 15 264 [zI,zI,zI,zN,zN,zN,zN,zI,zI,zN,zN,zN,zN,.bool false,zN]
def Wf:=tS [(0,5),(5,1)] [1] 6 80 [zI,zI,zI,zN,zN,zI]
def Xf:=tS [(0,6),(6,1),(7,1)] [1,2] 8 96 [zI,zI,zI,zN,zN,zI,.bool false,zI]
def Yf:=tS [(0,1),(1,1)] [0,1] 2 16 [zI,.bool false]
def Zf:=tS [(0,2),(2,1)] [1] 3 40 [zI,zN,zI]
def qg:=tO (.slice 196) 24 zN
def zg:=tS [(0,1),(1,1),(2,1),(3,1),(4,1)] [0,1,2,3,4] 5 32 [zI,zI,zI,.bool false,.bool false]
def jg:=tS [(0,1),(1,1)] [0,1] 2 32 [zN,.nilm]
def vg:=tO (.num .u32) 4 (.num .u32 0)
def wg:=tS [(0,5),(5,1)] [1] 6 96 [zI,zI,zN,zN,zN,.num .u32 0]
def kg:=tS [(0,1),(1,1)] [0,1] 2 16 [zI,zI]
def yg:=tS [(0,2),(2,1),(3,1)] [1,2] 4 64 [zI,zI,zN,zN]
def ug:=tS [(0,1),(1,1),(2,1)] [0,1,2] 3 56 [zN,zN,.nil]
def bg:=tS [(0,1),(1,1),(2,1),(3,1),(4,1),(5,1),(6,1),(7,1)] [0,1,2,3,4,5,6,7] 8 56 [.bool false,.bool false,zI,zI,zI,zI,zI,zI]
def dg:=tS [(0,1),(1,5),(6,1),(7,5)] [0,2] 12 176 [zI,zI,zI,zI,zN,zN,zN,zI,zI,zI,zN,zN]
def fg:=tS [(0,5),(5,1)] [1] 6 96 [zI,zI,zN,zN,zN,zI]
def lg:=tS [(0,1),(1,1)] [0,1] 2 16 [.nil,zI]
def mg:=tS [(0,1),(1,1),(2,2),(4,1),(5,1),(6,1),(7,1)] [0,1,3,4,5,6] 8 96 [zI,zI,zI,zN,zN,zI,zI,.bool false]
def ng:=tS [(0,1),(1,1),(2,1),(3,1)] [0,1,2,3] 4 40 [.nil,.nil,.nil,.str []]
def pg:=tS [(0,0)] [] 0 0 []
def br:=tO .bool 1 (.bool false)
def dr:=tO .iface 16 .nilif
def lr:=tO (.slice 3) 24 zN
def mr:=tO (.slice 27) 24 zN
def nr:=tO (.slice 49) 24 zN
def pr:=tO (.slice 31) 24 zN
def rr:=tO (.slice 34) 24 zN
def sr:=tO (.slice 175) 24 zN
def ar:=tO (.slice 177) 24 zN
def cr:=tO (.slice 71) 24 zN
def xr:=tO (.slice 4) 24 zN
def Ar:=tO (.smap 3 275 false) 8 .nilm
def Br:=tO (.slice 321) 24 zN
def Cr:=tA 3 196 9 120 [zI,zN,zI]
def Dr:=tO (.smap 3 4 false) 8 .nilm
def Er:=tA 21 247 168 1176 [.bool false,.bool false,zI,zI,zI,zI,zI,zI]
def Fr:=tA 32 5 32 32 [.num .u8 0]
def Gr:=tA 14 3 14 112 [zI]
def Hr:=tO (.slice 338) 24 zN
def Ir:Option TI:=some ⟨.array 0 16,0,0,(.agg #[]),[]⟩
def tl:List (Option TI):=[none,t0,t4,t4,br,t2,t2,t7,t7,t5,t5,t5,none,none,none,t1,t1,t1,t8,t8,dr,t6,lr,t0,t0,mr,t9,t9,nr,pr,Mf,Mf,rr,Nf,Nf,none,t0,t1,t0,t4,none,t0,Of,Of,none,t0,t0,t0,Qf,Qf,none,t0,t0,t0,t0,none,t0,t0,t0,t0,t0,t0,Rf,Rf,none,t0,t0,t0,t0,Sf,Sf,t1,sr,ar,Tf,Tf,none,t0,none,t0,t3,t3,t0,t0,t0,t0,t0,t0,t0,t0,t0,t0,t0,t0,t0,t0,t0,t0,t0,t0,t0,t0,t0,t0,t0,t0,t0,t0,t0,t0,t0,t0,none,t0,t0,t0,t0,Uf,Uf,t0,t0,none,t0,t0,t0,none,t0,none,t0,t0,t0,cr,Vf,Vf,t0,t0,t0,t0,t0,t0,t0,t0,none,t0,t0,t0,none,t0,t0,t0,t0,t0,t0,t0,t0,t0,t0,t0,t0,none,t0,none,t0,t0,t0,xr,t0,t0,none,t0,t0,t0,t0,t0,Wf,Wf,Xf,Xf,none,t0,t0,t0,t0,t0,t0,t0,t0,t0,t0,t0,t1,Yf,Yf,t0,t0,Zf,Zf,none,qg,qg,t0,t0,t0,t0,t0,t0,t0,zg,zg,none,t0,t0,t0,t0,t0,t0,t0,t0,t1,Ar,t0,jg,jg,vg,vg,wg,wg,none,t0,kg,kg,Br,yg,yg,t0,t0,ug,ug,t0,t2,t0,t0,t0,t3,t3,t0,bg,bg,none,t0,t0,t0,t0,none,t0,t0,t0,t0,Cr,t0,none,t0,t0,t0,t0,t0,Dr,t0,t0,t0,t0,t0,t0,t0,t0,t0,t0,t0,t0,t0,t0,t0,t0,t0,t0,t0,t0,t0,none,t0,t0,t0,Er,t0,t0,none,t0,t0,t0,t0,t0,t0,t0,t0,t0,t0,t0,none,t0,t0,t0,t0,t0,t0,t0,dg,dg,t0,t0,t0,fg,fg,Fr,none,none,t0,t0,t0,Gr,t0,t0,t0,t0,none,t0,t0,t0,t1,t1,t0,lg,lg,t0,t0,Hr,t0,none,t0,t0,mg,mg,t0,t0,t0,t0,t0,t0,t0,t0,ng,ng,Ir,pg,pg,t2,t2,t0,t1,t6,t6]
def tt(t:Nat):Option TI:=match TB tl t with|some x=>x|none=>none
def Jr:BB Tryz.prog tt:=by
 intro t a h;unfold tt at h;split at h
 ·rename_i x e;subst h;have:=Kf (P:=Tryz.prog) (l:=tl) (k:=0) (by kernel_rfl) (by kernel_rfl) t a e;rwa[Nat.zero_add]at this
 cases h
def Kr:Tryz.prog.follows .mixedOrders=true:=by kernel_rfl
end Go.Proofs.YtjobiknipefjdaaGreatDoor
