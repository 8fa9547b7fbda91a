/- Contracts of functions; no conditions. -/
import Derived.Test.YtbbbnbikmbaejaaGreatDoorConB1
import Derived.Test.YtbbbnbikmbaejaaGreatDoorProg
import Derived.KernelRfl
set_option linter.all false
namespace Go.Lg
def kdB (k:IntKind):Bool:=match k with
 | .i16=>false
 | .i8=>false
 | _=>true
theorem qT3 {k:IntKind} (h:kdB k=true):k ≠ .i16∧k ≠ .i8:=by cases k<;>simp [kdB] at h ⊢
def zpB:PV→Value→Bool
 | .int n,.int .i64 m=>decide (m=n)
 | .bool a,.bool b=>decide (b=a)
 | .nil,.pointer none=>true
 | .nils,.slice none 0 0=>true
 | .nilfn,.nilFunc=>true
 | .nilm,.map none=>true
 | .nilif,.nilIface=>true
 | .num k n,.int k' m=>decide (k'=k) && decide (m=n) && kdB k
 | .str [],.string ⟨⟨[]⟩⟩=>true
 | _,_=>false
theorem zWz {p:PV} {v:Value} (h:zpB p v=true):RepP (fun _=>[]) p v:=by
 unfold zpB at h
 split at h<;>simp_all [RepP]
 exact qT3 h.2
def zlB:List PV→List Value→Bool
 | [],_=>true
 | _::_,[]=>false
 | c::cs,v::vs=>zpB c v && zlB cs vs
theorem qT4:∀ {cs:List PV} {vs:List Value},zlB cs vs=true→RepL (fun _=>[]) cs vs
 | [],_,_=>by simp only [RepL]
 | _::_,[],h=>by cases h
 | c::cs,v::vs,h=>by
  simp only [zlB,Bool.and_eq_true] at h
  simp only [RepL]
  exact⟨zWz h.1,qT4 h.2⟩
def tkB (P:Program) (t:Nat) (k:TK):Bool:=match k with
 | .bool=>match P.underlying t with|some .bool=>true|_=>false
 | .pointer=>match P.underlying t with|some (.pointer _)=>true|_=>false
 | .func=>match P.underlying t with|some (.func _ _ _)=>true|_=>false
 | .struct fs pl=>match P.underlying t with
  | some (.struct f)=>decide (f.toList.map (fun x=>(x.offset,(P.info? x.type).map (·.size)))=fs.map (fun p=>(p.1,some p.2))) && qYb P f.toList pl
  | _=>false
 | .slice e=>match P.underlying t with|some (.slice e')=>decide (e'=e)|_=>false
 | .array n e=>match P.underlying t with|some (.array n' e')=>decide (n'=n) && decide (e'=e)|_=>false
 | .map k v=>match P.underlying t with
  | some (.map k' v')=>decide (k'=k) && decide (v'=v) && (match P.underlying k with
   | some (.pointer e)=>decide ((P.info? e).map (fun i=>decide (i.size=0))=some false)
   | _=>false)
  | _=>false
 | .smap k v s=>match P.underlying t with
  | some (.map k' v')=>decide (k'=k) && decide (v'=v) && (match s,P.underlying k with
   | true,some .string=>true
   | false,some (.int .i64)=>true
   | _,_=>false)
  | _=>false
 | .str=>match P.underlying t with|some .string=>true|_=>false
 | .int=>match P.underlying t with|some (.int .i64)=>true|_=>false
 | .iface=>match P.underlying t with|some (.interface _)=>true|_=>false
 | .num k=>match P.underlying t with|some (.int k')=>decide (k'=k) && kdB k|_=>false
 | _=>false
theorem zW0 {P:Program} {t:Nat} {k:TK} (h:tkB P t k=true):∃ d,P.underlying t=some d∧qK9 P d k:=by
 unfold tkB at h
 split at h<;>(try split at h)<;>(try (cases h;done))<;>rename_i e<;>refine⟨_,e,?_⟩<;>simp only [qK9,Bool.and_eq_true,decide_eq_true_eq] at h ⊢
 all_goals first
  | rfl
  | exact⟨_,rfl⟩
  | exact⟨_,_,_,rfl⟩
  | (exact⟨_,rfl,h.1,h.2⟩)
  | (subst h;rfl)
  | (obtain⟨rfl,rfl⟩:=h;rfl)
  | (obtain⟨rfl,h2⟩:=h;exact⟨rfl,qT3 h2⟩)
  | (obtain⟨⟨rfl,rfl⟩,h2⟩:=h;refine⟨rfl,?_⟩;split at h2<;>simp_all)
def tiB (P:Program) (t:Nat) (ti:TI):Bool:=tkB P t ti.k && decide (ti.zero.cells.size=ti.size) && zlB ti.zc ti.zero.cells.toList && decide (ti.zc.length=ti.size) && (ti.k.isIface || P.concrete t)
def tlB (P:Program):List (Option TI)→Nat→Bool
 | [],_=>true
 | none::r,t=>tlB P r (t+1)
 | some ti::r,t=>tiB P t ti && tlB P r (t+1)
def tlI (P:Program):List (Option TI)→Nat→List (Option (Nat × Nat × Option Value))
 | [],_=>[]
 | none::r,t=>none::tlI P r (t+1)
 | some _::r,t=>((P.info? t).map fun i=>(i.size,i.bytes,i.zero))::tlI P r (t+1)
def tlE:List (Option TI)→List (Option (Nat × Nat × Option Value))
 | []=>[]
 | none::r=>none::tlE r
 | some ti::r=>some (ti.size,ti.bytes,some ti.zero)::tlE r
theorem zW1 {P:Program} : ∀ {l:List (Option TI)} {k:Nat},tlB P l k=true→tlI P l k=tlE l→∀ (i:Nat) (ti:TI),qXs l i=some (some ti)→TIOK P (k+i) ti
 | [],k,_,_,i,ti,h=>by cases i<;>cases h
 | x::r,k,h1,h2,i,ti,h=>by
  have step:∀ j,qXs r j=some (some ti)→TIOK P (k+(j+1)) ti:=fun j hj=>by
   have:tlB P r (k+1)=true∧tlI P r (k+1)=tlE r:=by
    cases x with
    | none=>simp only [tlB,tlI,tlE,List.cons.injEq,true_and] at h1 h2;exact⟨h1,h2⟩
    | some y=>simp only [tlB,tlI,tlE,List.cons.injEq,Bool.and_eq_true] at h1 h2;exact⟨h1.2,h2.2⟩
   have:=zW1 this.1 this.2 j ti hj
   rwa [show k+1+j=k+(j+1) by omega] at this
  cases i with
  | succ j=>exact step j h
  | zero =>
   cases x with
   | none=>cases h
   | some y =>
    cases h
    simp only [tlB,tlI,tlE,List.cons.injEq,Bool.and_eq_true,tiB,decide_eq_true_eq,Bool.or_eq_true] at h1 h2
    obtain⟨⟨⟨⟨⟨a,b⟩,c⟩,d⟩,e⟩,_⟩:=h1
    obtain⟨dd,u,v⟩:=zW0 a
    exact TIOK.mk' h2.1 u v b (qT4 c) d e
end Go.Lg
namespace Go.Proofs.YtbbbnbikmbaejaaGreatDoor
open Go.Lg
set_option maxRecDepth 100000
def zV:PV→Value
 | .int _ => .int .i64 0
 | .bool _ => .bool false
 | .nil => .pointer none
 | .nils => .slice none 0 0
 | .num k _ => .int k 0
 | .str _ => .string ⟨#[]⟩
 | .nilm => .map none
 | .nilfn => .nilFunc
 | _ => .nilIface
def tO (k:TK) (y:Nat) (c:PV):Option TI:=some ⟨k,1,y,zV c,[c]⟩
def tS (f:List (Nat × Nat)) (p:List Nat) (n y:Nat) (c:List PV):Option TI:=some ⟨.struct f p,n,y,.agg (c.map zV).toArray,c⟩
def tA (n e m y:Nat) (c:List PV):Option TI:=some ⟨.array n e,m,y,.agg ((List.replicate n (c.map zV)).flatten).toArray,(List.replicate n c).flatten⟩
abbrev zI:PV:=.int 0
abbrev zN:PV:=.nils
def t0:=tO .func 8 .nilfn
def t1:=tO .pointer 8 .nil
def t2:=tO (.num .u8) 1 (.num .u8 0)
def t3:=tS [(0,1),(1,1),(2,1),(3,1)] [0,1,2,3] 4 64 [zI,zI,zN,zN]
def t4:=tS [(0,1),(1,1)] [0,1] 2 32 [zN,.nilm]
def t5:=tS [(0,2),(2,2)] [1000,1001] 4 64 [zI,zN,zI,zN]
def t6:=tO .int 8 zI
def t7:=tO .str 16 (.str [])
def t8:=tO (.num .i32) 4 (.num .i32 0)
def t9:=tS [(0,1),(1,1),(2,1),(3,1)] [0,1,2,3] 4 24 [zI,zI,.bool false,.num .u8 0]
def t10:=tS [(0,1)] [0] 1 8 [.nil]
def t11:=tS [(0,1),(1,1)] [0,1] 2 32 [zI,zN]
def t12:=tS [(0,1),(1,2),(3,1),(4,1)] [0,2,3] 5 88 [zI,zI,zN,zN,zN]
def t13:=tS [(0,1),(1,1),(2,2),(4,1),(5,1),(6,1)] [0,1,3,4,5] 7 120 [zI,zI,zI,zN,zN,zN,zN]
def t14:=tS [(0,1),(1,1),(2,2),(4,1)] [0,1,3] 5 72 [zI,zI,zI,zN,zN]
def t15:=tS [(0,5),(5,1),(6,1)] [1,2] 7 120 [zI,zI,zI,zN,zN,zN,zN]
def t16:=tS [(0,1),(1,1)] [0,1] 2 48 [zN,zN]
def t17:=tS [(0,1),(1,1)] [0,1] 2 32 [zN,zI]
def t18:=tS [(0,5),(5,1)] [1] 6 112 [zI,zI,zN,zN,zN,zN]
def t19:=tS [(0,7),(7,5),(12,1),(13,1),(14,1)] [2,3,4] 15 264 [zI,zI,zI,zN,zN,zN,zN,zI,zI,zN,zN,zN,zN,.bool false,zN]
def t20:=tS [(0,1),(1,1),(2,1)] [0,1,2] 3 24 [zI,zI,.bool false]
def t21:=tS [(0,1),(1,1),(2,1),(3,5),(8,1)] [0,1,2,4] 9 152 [zI,zN,zN,zI,zI,zI,zN,zN,zN]
def t22:=tS [(0,2),(2,1)] [1] 3 40 [zI,zN,zI]
def t23:=tO (.slice 168) 24 zN
def t24:=tO (.num .u32) 4 (.num .u32 0)
def t25:=tS [(0,5),(5,1)] [1] 6 96 [zI,zI,zN,zN,zN,.num .u32 0]
def t26:=tS [(0,1),(1,1)] [0,1] 2 16 [zI,zI]
def t27:=tS [(0,2),(2,1),(3,1)] [1,2] 4 64 [zI,zI,zN,zN]
def t28:=tS [(0,1),(1,1),(2,1)] [0,1,2] 3 56 [zN,zN,.nil]
def t29:=tS [(0,5),(5,1)] [1] 6 80 [zI,zI,zI,zN,zN,zI]
def t30:=tS [(0,6),(6,1),(7,1)] [1,2] 8 96 [zI,zI,zI,zN,zN,zI,.bool false,zI]
def t31:=tS [(0,1),(1,1)] [0,1] 2 16 [zI,.bool false]
def t32:=tS [(0,1),(1,5),(6,1),(7,5)] [0,2] 12 176 [zI,zI,zI,zI,zN,zN,zN,zI,zI,zI,zN,zN]
def t33:=tS [(0,5),(5,1)] [1] 6 96 [zI,zI,zN,zN,zN,zI]
def t34:=tS [(0,1),(1,1),(2,1),(3,1),(4,1),(5,1),(6,1),(7,1)] [0,1,2,3,4,5,6,7] 8 56 [.bool false,.bool false,zI,zI,zI,zI,zI,zI]
def t35:=tS [(0,1),(1,1)] [0,1] 2 16 [.nil,zI]
def t36:=tS [(0,1),(1,1),(2,2),(4,1),(5,1),(6,1),(7,1)] [0,1,3,4,5,6] 8 96 [zI,zI,zI,zN,zN,zI,zI,.bool false]
def t37:=tS [(0,1),(1,1),(2,1),(3,1)] [0,1,2,3] 4 40 [.nil,.nil,.nil,.str []]
def t38:=tS [(0,0)] [] 0 0 []
def t39:=tO .bool 1 (.bool false)
def t40:=tO .iface 16 .nilif
def t41:=tO (.slice 3) 24 zN
def t42:=tO (.slice 29) 24 zN
def t43:=tO (.slice 40) 24 zN
def t44:=tO (.slice 34) 24 zN
def t45:=tO (.slice 38) 24 zN
def t46:=tO (.slice 4) 24 zN
def t47:=tO (.slice 56) 24 zN
def t48:=tO (.map 75 121) 8 .nilm
def t49:=tA 2 3 2 16 [zI]
def t50:=tO (.slice 75) 24 zN
def t51:=tO (.slice 121) 24 zN
def t52:=tO (.slice 202) 24 zN
def t53:=tO (.slice 204) 24 zN
def t54:=tO (.slice 148) 24 zN
def t55:=tO (.smap 3 238 false) 8 .nilm
def t56:=tO (.slice 293) 24 zN
def t57:=tA 3 168 9 120 [zI,zN,zI]
def t58:=tO (.slice 164) 24 zN
def t59:=tA 32 5 32 32 [.num .u8 0]
def t60:=tA 2 29 4 64 [zI,zN]
def t61:=tA 14 3 14 112 [zI]
def t62:=tA 21 307 168 1176 [.bool false,.bool false,zI,zI,zI,zI,zI,zI]
def t63:=tO (.slice 331) 24 zN
def t64:Option TI:=some ⟨.array 0 16,0,0,(.agg #[]),[]⟩
def tl:List (Option TI):=[none,t0,t6,t6,t39,t2,t2,t9,t9,t7,t7,t7,none,none,none,t1,t1,t1,t10,t10,t40,t8,t41,t0,t0,t1,t0,t42,t11,t11,t0,t43,t44,t12,t12,t0,t45,t13,t13,t14,t14,t46,t15,t15,t6,none,t0,t16,t16,t0,t0,t0,none,t0,t47,t3,t3,none,t0,none,t0,t0,t0,none,t0,t0,t17,t17,t0,t0,none,t0,t0,t0,t0,t1,none,t0,t0,t1,t48,t4,t4,t0,t0,none,t0,t0,t0,t0,t0,t0,t0,t0,none,t0,t0,t0,t0,t0,t0,t0,t0,t0,t0,t0,t0,t0,t0,t0,t0,t18,t18,none,t0,t0,t49,t50,t19,t19,t5,t5,t0,t0,t51,t52,t53,t3,t3,t0,t0,t0,t0,t0,t0,t0,t0,t0,t0,t0,t0,none,t0,t1,t20,t20,t54,t21,t21,t0,t0,t0,t0,t0,t0,t0,t0,t0,t0,t0,t0,t0,t0,t5,t5,none,t0,t22,t22,none,t23,t23,t0,t0,t0,t0,t0,t0,t0,t0,t1,t55,t0,t4,t4,t24,t24,t25,t25,none,t0,t26,t26,t56,t27,t27,t0,t0,t28,t28,none,t29,t29,t30,t30,t0,t0,t0,none,t0,t0,t0,t0,t0,t0,t0,t0,t0,t0,t0,t0,t0,t0,t0,t0,none,t0,none,t0,none,t0,t0,t0,t0,t57,t0,t0,t0,t0,t0,t0,t0,t0,t0,t0,t0,t0,t0,t2,t0,t0,t0,none,t0,t0,t0,t0,t0,t0,t0,t0,none,t0,t0,t58,t0,t0,t0,t0,t0,t0,t1,t31,t31,none,t0,t0,t0,t0,t0,t0,t0,t0,t0,t0,t32,t32,t0,t0,t0,t0,t0,t33,t33,t59,none,t0,t0,t0,t0,t0,t0,t0,t0,t60,t0,t34,t34,none,t0,t0,t0,t0,t0,none,t0,none,t0,t0,t0,t0,t0,t0,t0,t61,t62,t0,t0,t0,t0,t1,t1,t0,t35,t35,t0,t0,t0,none,t0,t0,t0,t0,t63,t0,none,t0,t36,t36,t0,t0,t0,t0,t0,t0,t0,t0,t37,t37,t64,t38,t38,t2,t2,t0,t1,t8,t8]
def tt (t:Nat):Option TI:=match qXs tl t with
 | some x=>x
 | none=>none
theorem zD8:TOK Tryz.prog tt:=by
 intro t ti h
 unfold tt at h
 split at h
 ·rename_i x e
  subst h
  have:=zW1 (P:=Tryz.prog) (l:=tl) (k:=0) (by kernel_rfl) (by kernel_rfl) t ti e
  rwa [Nat.zero_add] at this
 ·cases h
theorem zAo:Tryz.prog.follows .mixedOrders=true:=by kernel_rfl
end Go.Proofs.YtbbbnbikmbaejaaGreatDoor
