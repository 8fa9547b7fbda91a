/- Contracts of functions; no conditions. -/
import Derived.Test.YtmkajedkflhbgaaGreatDoorIB2
import Derived.Test.YtmkajedkflhbgaaGreatDoorProg
import Derived.KernelRfl
set_option linter.all false
namespace Go.Lg
def VR (k:IntKind):Bool:=match k with
 | .i16=>false
 | .i8=>false
 | _=>true
theorem Ib {k:IntKind} (h:VR k=true):k ≠ .i16/\k ≠ .i8:=by cases k<;>simp [VR] at h ⊢
def sW:PV->Value->Bool
 | .int n,.int .i64 m=>decide (m=n)
 | .bool a,.bool b=>decide (b=a)
 | .nil,.pointer none=>true
 | .nils,.slice none 0 0=>true
 | .nilfn,.nilFunc=>true
 | .nilm,.map none=>true
 | .nilif,.nilIface=>true
 | .num k n,.int k' m=>decide (k'=k) && decide (m=n) && VR k
 | .str [],.string ⟨⟨[]⟩⟩=>true
 | _,_=>false
theorem Il {p:PV} {v:Value} (h:sW p v=true):RepP (λ _=>[]) p v:=by
 unfold sW at h;split at h<;>simp_all [RepP];exact Ib h.2
def WR:List PV->List Value->Bool
 | [],_=>true
 | _::_,[]=>false
 | c::cs,v::vs=>sW c v && WR cs vs
theorem Jb:∀ {cs:List PV} {vs:List Value},WR cs vs=true->RepL (λ _=>[]) cs vs
 | [],_,_=>by simp only [RepL]
 | _::_,[],h=>by cases h
 | c::cs,v::vs,h=>by
  simp only [WR,Bool.and_eq_true] at h;simp only [RepL];exact⟨Il h.1,Jb h.2⟩
def tW (P:Program) (t:Nat) (k:TK):Bool:=match k with
 | .bool=>match P.underlying t with|some .bool=>true|_=>false
 | .pointer=>match P.underlying t with|some (.pointer _)=>true|_=>false
 | .func=>match P.underlying t with|some (.func _ _ _)=>true|_=>false
 | .struct fs pl=>match P.underlying t with
  | some (.struct f)=>decide (f.toList.map (λ x=>(x.offset,(P.info? x.type).map (·.size)))=fs.map (λ p=>(p.1,some p.2))) && zO P f.toList pl
  | _=>false
 | .slice e=>match P.underlying t with|some (.slice e')=>decide (e'=e)|_=>false
 | .array n e=>match P.underlying t with|some (.array n' e')=>decide (n'=n) && decide (e'=e)|_=>false
 | .smap k v s=>match P.underlying t with
  | some (.map k' v')=>decide (k'=k) && decide (v'=v) && (match s,P.underlying k with
   | true,some .string=>true
   | false,some (.int .i64)=>true
   | _,_=>false)
  | _=>false
 | .str=>match P.underlying t with|some .string=>true|_=>false
 | .int=>match P.underlying t with|some (.int .i64)=>true|_=>false
 | .iface=>match P.underlying t with|some (.interface _)=>true|_=>false
 | .num k=>match P.underlying t with|some (.int k')=>decide (k'=k) && VR k|_=>false
 | _=>false
theorem Jl {P:Program} {t:Nat} {k:TK} (h:tW P t k=true):∃ d,P.underlying t=some d/\IB P d k:=by
 unfold tW at h;split at h<;>(try split at h)<;>(try (cases h;done))<;>rename_i e<;>refine⟨_,e,?_⟩<;>simp only [IB,Bool.and_eq_true,decide_eq_true_eq] at h ⊢
 all_goals first
  | rfl
  | exact⟨_,rfl⟩
  | exact⟨_,_,_,rfl⟩
  | (exact⟨_,rfl,h.1,h.2⟩)
  | (subst h;rfl)
  | (obtain⟨rfl,rfl⟩:=h;rfl)
  | (obtain⟨rfl,h2⟩:=h;exact⟨rfl,Ib h2⟩)
  | (obtain⟨⟨rfl,rfl⟩,h2⟩:=h;refine⟨rfl,?_⟩;split at h2<;>simp_all)
def Kb (P:Program) (t:Nat) (ti:TI):Bool:=tW P t ti.k && decide (ti.zero.cells.size=ti.size) && WR ti.zc ti.zero.cells.toList && decide (ti.zc.length=ti.size) && (ti.k.isIface || P.concrete t)
def DL (P:Program):List (Option TI)->Nat->Bool
 | [],_=>true
 | none::r,t=>DL P r (t+1)
 | some ti::r,t=>Kb P t ti && DL P r (t+1)
def EL (P:Program):List (Option TI)->Nat->List (Option (Nat × Nat × Option Value))
 | [],_=>[]
 | none::r,t=>none::EL P r (t+1)
 | some _::r,t=>((P.info? t).map λ i=>(i.size,i.bytes,i.zero))::EL P r (t+1)
def FL:List (Option TI)->List (Option (Nat × Nat × Option Value))
 | []=>[]
 | none::r=>none::FL r
 | some ti::r=>some (ti.size,ti.bytes,some ti.zero)::FL r
theorem Lb {P:Program} : ∀ {l:List (Option TI)} {k:Nat},DL P l k=true->EL P l k=FL l->∀ (i:Nat) (ti:TI),QB l i=some (some ti)->TIOK P (k+i) ti
 | [],k,_,_,i,ti,h=>by cases i<;>cases h
 | x::r,k,h1,h2,i,ti,h=>by
  have step:∀ j,QB r j=some (some ti)->TIOK P (k+(j+1)) ti:=λ j hj=>by
   have:DL P r (k+1)=true/\EL P r (k+1)=FL r:=by
    cases x with
    | none=>simp only [DL,EL,FL,List.cons.injEq,true_and] at h1 h2;exact⟨h1,h2⟩
    | some y=>simp only [DL,EL,FL,List.cons.injEq,Bool.and_eq_true] at h1 h2;exact⟨h1.2,h2.2⟩
   have:=Lb this.1 this.2 j ti hj;rwa [show k+1+j=k+(j+1) by omega] at this
  cases i with
  | succ j=>exact step j h
  | zero =>
   cases x with
   | none=>cases h
   | some y =>
    cases h;simp only [DL,EL,FL,List.cons.injEq,Bool.and_eq_true,Kb,decide_eq_true_eq,Bool.or_eq_true] at h1 h2;obtain⟨⟨⟨⟨⟨a,b⟩,c⟩,d⟩,e⟩,_⟩:=h1;obtain⟨dd,u,v⟩:=Jl a;exact TIOK.mk' h2.1 u v b (Jb c) d e
end Go.Lg
namespace Go.Proofs.YtmkajedkflhbgaaGreatDoor
open Go.Lg
set_option maxRecDepth 100000
def zV:PV->Value
 | .int _ => .int .i64 0
 | .bool _ => .bool false
 | .nil => .pointer none
 | .nils => .slice none 0 0
 | .num k _ => .int k 0
 | .str _ => .string ⟨#[]⟩
 | .nilm => .map none
 | .nilfn => .nilFunc
 | _ => .nilIface
def tO (k:TK) (y:Nat) (c:PV):Option TI:=some ⟨k,1,y,zV c,[c]⟩
def tS (f:List (Nat × Nat)) (p:List Nat) (n y:Nat) (c:List PV):Option TI:=some ⟨.struct f p,n,y,.agg (c.map zV).toArray,c⟩
def tA (n e m y:Nat) (c:List PV):Option TI:=some ⟨.array n e,m,y,.agg ((List.replicate n (c.map zV)).flatten).toArray,(List.replicate n c).flatten⟩
abbrev zI:PV:=.int 0
abbrev zN:PV:=.nils
def t0:=tO .func 8 .nilfn
def t1:=tO .pointer 8 .nil
def t2:=tO (.num .u8) 1 (.num .u8 0)
def t3:=tS [(0,1)] [0] 1 24 [zN]
def t4:=tO .int 8 zI
def t5:=tO .str 16 (.str [])
def t6:=tO (.num .i32) 4 (.num .i32 0)
def t7:=tS [(0,1),(1,1),(2,1),(3,1)] [0,1,2,3] 4 24 [zI,zI,.bool false,.num .u8 0]
def t8:=tS [(0,1)] [0] 1 8 [.nil]
def t9:=tS [(0,1),(1,1)] [0,1] 2 32 [zI,zN]
def Mb:=tS [(0,1),(1,2),(3,1),(4,1)] [0,2,3] 5 88 [zI,zI,zN,zN,zN]
def Nb:=tS [(0,1),(1,1),(2,2),(4,1),(5,1),(6,1)] [0,1,3,4,5] 7 120 [zI,zI,zI,zN,zN,zN,zN]
def Pb:=tS [(0,1),(1,5),(6,7)] [0] 13 224 [.str [],zI,zI,zN,zN,zN,zI,zI,zI,zN,zN,zN,zN]
def Qb:=tS [(0,1),(1,1),(2,2),(4,1)] [0,1,3] 5 72 [zI,zI,zI,zN,zN]
def Rb:=tS [(0,1),(1,1)] [0,1] 2 48 [zN,zN]
def Sb:=tS [(0,5),(5,1)] [1] 6 112 [zI,zI,zN,zN,zN,zN]
def Tb:=tS [(0,1),(1,1)] [0,1] 2 32 [zN,zI]
def Ub:=tS [(0,7),(7,5),(12,1),(13,1),(14,1)] [2,3,4] 15 264 [zI,zI,zI,zN,zN,zN,zN,zI,zI,zN,zN,zN,zN,.bool false,zN]
def Vb:=tS [(0,1),(1,1),(2,1),(3,1)] [0,1,2,3] 4 64 [zI,zI,zN,zN]
def Wb:=tS [(0,2),(2,1)] [1] 3 40 [zI,zN,zI]
def Xb:=tO (.slice 117) 24 zN
def Yb:=tS [(0,1),(1,1),(2,1)] [0,1,2] 3 72 [zN,zN,zN]
def Zb:=tS [(0,1),(1,1)] [0,1] 2 32 [zN,.nilm]
def jc:=tO (.num .u32) 4 (.num .u32 0)
def vc:=tS [(0,5),(5,1)] [1] 6 96 [zI,zI,zN,zN,zN,.num .u32 0]
def wc:=tS [(0,1),(1,1)] [0,1] 2 16 [zI,zI]
def kc:=tS [(0,2),(2,1),(3,1)] [1,2] 4 64 [zI,zI,zN,zN]
def yc:=tS [(0,1),(1,1),(2,1)] [0,1,2] 3 56 [zN,zN,.nil]
def uc:=tS [(0,5),(5,1)] [1] 6 80 [zI,zI,zI,zN,zN,zI]
def bc:=tS [(0,6),(6,1),(7,1)] [1,2] 8 96 [zI,zI,zI,zN,zN,zI,.bool false,zI]
def dc:=tS [(0,1),(1,1),(2,1),(3,1),(4,1)] [0,1,2,3,4] 5 32 [zI,zI,zI,.bool false,.bool false]
def fc:=tS [(0,1),(1,1)] [0,1] 2 16 [zI,.bool false]
def gc:=tS [(0,1),(1,5),(6,1),(7,5)] [0,2] 12 176 [zI,zI,zI,zI,zN,zN,zN,zI,zI,zI,zN,zN]
def lc:=tS [(0,5),(5,1)] [1] 6 96 [zI,zI,zN,zN,zN,zI]
def mc:=tS [(0,1),(1,1),(2,1),(3,1),(4,1),(5,1),(6,1),(7,1)] [0,1,2,3,4,5,6,7] 8 56 [.bool false,.bool false,zI,zI,zI,zI,zI,zI]
def nc:=tS [(0,1),(1,1)] [0,1] 2 16 [.nil,zI]
def pc:=tS [(0,1),(1,1),(2,2),(4,1),(5,1),(6,1),(7,1)] [0,1,3,4,5,6] 8 96 [zI,zI,zI,zN,zN,zI,zI,.bool false]
def rc:=tS [(0,1),(1,1),(2,1),(3,1)] [0,1,2,3] 4 40 [.nil,.nil,.nil,.str []]
def oc:=tS [(0,0)] [] 0 0 []
def Kl:=tO .bool 1 (.bool false)
def Ll:=tO .iface 16 .nilif
def Ml:=tO (.slice 3) 24 zN
def Nl:=tO (.slice 42) 24 zN
def Ol:=tO (.slice 37) 24 zN
def Pl:=tO (.slice 44) 24 zN
def Ql:=tO (.slice 35) 24 zN
def Rl:=tO (.slice 40) 24 zN
def Sl:=tO (.slice 5) 24 zN
def Tl:=tO (.slice 66) 24 zN
def Ul:=tO (.slice 178) 24 zN
def Vl:=tO (.slice 180) 24 zN
def Wl:=tO (.smap 3 40 false) 8 .nilm
def Xl:=tO (.slice 4) 24 zN
def Yl:=tO (.slice 22) 24 zN
def Zl:=tO (.smap 3 4 false) 8 .nilm
def qm:=tO (.smap 3 210 false) 8 .nilm
def zm:=tO (.slice 270) 24 zN
def jm:=tA 3 117 9 120 [zI,zN,zI]
def vm:=tA 32 5 32 32 [.num .u8 0]
def wm:=tA 14 3 14 112 [zI]
def ym:=tA 21 290 168 1176 [.bool false,.bool false,zI,zI,zI,zI,zI,zI]
def um:=tO (.slice 315) 24 zN
def bm:Option TI:=some ⟨.array 0 16,0,0,(.agg #[]),[]⟩
def tl:List (Option TI):=[none,t0,t4,t4,Kl,t2,t2,t7,t7,t5,t5,t5,none,none,none,t1,t1,t1,t8,t8,Ll,t6,Ml,t0,t0,Nl,t3,t3,t0,t1,t0,Ol,Pl,Ql,t9,t9,Mb,Mb,Rl,Nb,Nb,Pb,Pb,Qb,Qb,t4,none,t0,Rb,Rb,none,t0,t0,t0,t0,t0,t0,Sb,Sb,none,t0,Sl,t0,t0,Tb,Tb,t1,none,t0,Tl,Ub,Ub,t0,Ul,Vl,Vb,Vb,t0,none,t0,Wl,t0,t0,t0,none,t0,t0,t0,t0,none,t0,t0,t0,t0,t0,t0,t3,t3,t0,Xl,none,t0,t0,t0,t0,Yl,none,t0,Zl,t0,t0,t0,none,t0,t0,t0,Wb,Wb,none,Xb,Xb,t0,t0,t0,t0,t0,t0,t0,t0,t0,t0,t0,t0,t0,t0,t0,t0,t0,t0,t0,t0,t0,t0,Yb,Yb,t0,t0,t1,qm,t0,Zb,Zb,jc,jc,vc,vc,none,t0,wc,wc,zm,kc,kc,t0,t0,yc,yc,t0,t0,t0,none,t0,t0,t0,t0,t0,t2,uc,uc,bc,bc,t0,t0,t0,t0,none,t0,t0,t0,t0,t0,t0,jm,t0,t0,t0,t0,t0,t0,t0,t0,t0,t0,t0,t0,t0,none,t0,t0,t0,t0,t0,t0,t0,t0,t0,t0,t0,t0,t0,t0,t0,t0,t0,t0,none,t0,t0,t0,t0,t0,t0,t0,t0,t0,t0,t0,t0,dc,dc,none,t0,t0,t0,t0,t0,t0,t0,t0,t0,t1,fc,fc,none,t0,t0,t0,t0,t0,t0,none,t0,t0,t0,gc,gc,t0,t0,t0,lc,lc,vm,none,t0,t0,t0,t0,t0,none,t0,t0,t0,t0,t0,t0,t0,t0,t0,t0,mc,mc,none,t0,t0,t0,t0,t0,t0,none,t0,t0,none,t0,t0,t0,t0,wm,t0,t0,t0,ym,t0,t0,t0,t1,t1,t0,nc,nc,t0,t0,t0,t0,t0,none,t0,um,t0,none,t0,t0,pc,pc,t0,t0,t0,t0,t0,t0,t0,t0,t0,t0,t0,rc,rc,bm,oc,oc,t2,t2,t0,t1,t6,t6]
def tt (t:Nat):Option TI:=match QB tl t with
 | some x=>x
 | none=>none
theorem dm:xB Tryz.prog tt:=by
 intro t ti h;unfold tt at h;split at h
 ·rename_i x e;subst h;have:=Lb (P:=Tryz.prog) (l:=tl) (k:=0) (by kernel_rfl) (by kernel_rfl) t ti e;rwa [Nat.zero_add] at this
 ·cases h
theorem fm:Tryz.prog.follows .mixedOrders=true:=by kernel_rfl
end Go.Proofs.YtmkajedkflhbgaaGreatDoor
