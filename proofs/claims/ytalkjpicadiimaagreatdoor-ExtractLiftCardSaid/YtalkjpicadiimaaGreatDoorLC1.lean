/- Contracts of functions; no conditions. -/
import Derived.Test.YtalkjpicadiimaaGreatDoorLB2
import Derived.Test.YtalkjpicadiimaaGreatDoorProg
import Derived.KernelRfl
set_option linter.all false
namespace Go.Lg
def kdB (k:IntKind):Bool:=match k with
 | .i16=>false
 | .i8=>false
 | _=>true
theorem zJ9 {k:IntKind} (h:kdB k=true):k ≠ .i16∧k ≠ .i8:=by cases k<;>simp [kdB] at h ⊢
def zpB:PV→Value→Bool
 | .int n,.int .i64 m=>decide (m=n)
 | .bool a,.bool b=>decide (b=a)
 | .nil,.pointer none=>true
 | .nils,.slice none 0 0=>true
 | .nilfn,.nilFunc=>true
 | .nilm,.map none=>true
 | .nilif,.nilIface=>true
 | .num k n,.int k' m=>decide (k'=k) && decide (m=n) && kdB k
 | .str [],.string ⟨⟨[]⟩⟩=>true
 | _,_=>false
theorem zBh {p:PV} {v:Value} (h:zpB p v=true):RepP (fun _=>[]) p v:=by
 unfold zpB at h
 split at h<;>simp_all [RepP]
 exact zJ9 h.2
def zlB:List PV→List Value→Bool
 | [],_=>true
 | _::_,[]=>false
 | c::cs,v::vs=>zpB c v && zlB cs vs
theorem zVa:∀ {cs:List PV} {vs:List Value},zlB cs vs=true→RepL (fun _=>[]) cs vs
 | [],_,_=>by simp only [RepL]
 | _::_,[],h=>by cases h
 | c::cs,v::vs,h=>by
  simp only [zlB,Bool.and_eq_true] at h
  simp only [RepL]
  exact⟨zBh h.1,zVa h.2⟩
def tkB (P:Program) (t:Nat) (k:TK):Bool:=match k with
 | .bool=>match P.underlying t with|some .bool=>true|_=>false
 | .pointer=>match P.underlying t with|some (.pointer _)=>true|_=>false
 | .func=>match P.underlying t with|some (.func _ _ _)=>true|_=>false
 | .struct fs pl=>match P.underlying t with
  | some (.struct f)=>decide (f.toList.map (fun x=>(x.offset,(P.info? x.type).map (·.size)))=fs.map (fun p=>(p.1,some p.2))) && qGp P f.toList pl
  | _=>false
 | .slice e=>match P.underlying t with|some (.slice e')=>decide (e'=e)|_=>false
 | .array n e=>match P.underlying t with|some (.array n' e')=>decide (n'=n) && decide (e'=e)|_=>false
 | .smap k v s=>match P.underlying t with
  | some (.map k' v')=>decide (k'=k) && decide (v'=v) && (match s,P.underlying k with
   | true,some .string=>true
   | false,some (.int .i64)=>true
   | _,_=>false)
  | _=>false
 | .str=>match P.underlying t with|some .string=>true|_=>false
 | .int=>match P.underlying t with|some (.int .i64)=>true|_=>false
 | .iface=>match P.underlying t with|some (.interface _)=>true|_=>false
 | .num k=>match P.underlying t with|some (.int k')=>decide (k'=k) && kdB k|_=>false
 | _=>false
theorem zBi {P:Program} {t:Nat} {k:TK} (h:tkB P t k=true):∃ d,P.underlying t=some d∧qXv P d k:=by
 unfold tkB at h
 split at h<;>(try split at h)<;>(try (cases h;done))<;>rename_i e<;>refine⟨_,e,?_⟩<;>simp only [qXv,Bool.and_eq_true,decide_eq_true_eq] at h ⊢
 all_goals first
  | rfl
  | exact⟨_,rfl⟩
  | exact⟨_,_,_,rfl⟩
  | (exact⟨_,rfl,h.1,h.2⟩)
  | (subst h;rfl)
  | (obtain⟨rfl,rfl⟩:=h;rfl)
  | (obtain⟨rfl,h2⟩:=h;exact⟨rfl,zJ9 h2⟩)
  | (obtain⟨⟨rfl,rfl⟩,h2⟩:=h;refine⟨rfl,?_⟩;split at h2<;>simp_all)
def tiB (P:Program) (t:Nat) (ti:TI):Bool:=tkB P t ti.k && decide (ti.zero.cells.size=ti.size) && zlB ti.zc ti.zero.cells.toList && decide (ti.zc.length=ti.size) && (ti.k.isIface || P.concrete t)
def tlB (P:Program):List (Option TI)→Nat→Bool
 | [],_=>true
 | none::r,t=>tlB P r (t+1)
 | some ti::r,t=>tiB P t ti && tlB P r (t+1)
def tlI (P:Program):List (Option TI)→Nat→List (Option (Nat × Nat × Option Value))
 | [],_=>[]
 | none::r,t=>none::tlI P r (t+1)
 | some _::r,t=>((P.info? t).map fun i=>(i.size,i.bytes,i.zero))::tlI P r (t+1)
def tlE:List (Option TI)→List (Option (Nat × Nat × Option Value))
 | []=>[]
 | none::r=>none::tlE r
 | some ti::r=>some (ti.size,ti.bytes,some ti.zero)::tlE r
theorem zBj {P:Program} : ∀ {l:List (Option TI)} {k:Nat},tlB P l k=true→tlI P l k=tlE l→∀ (i:Nat) (ti:TI),qYl l i=some (some ti)→TIOK P (k+i) ti
 | [],k,_,_,i,ti,h=>by cases i<;>cases h
 | x::r,k,h1,h2,i,ti,h=>by
  have step:∀ j,qYl r j=some (some ti)→TIOK P (k+(j+1)) ti:=fun j hj=>by
   have:tlB P r (k+1)=true∧tlI P r (k+1)=tlE r:=by
    cases x with
    | none=>simp only [tlB,tlI,tlE,List.cons.injEq,true_and] at h1 h2;exact⟨h1,h2⟩
    | some y=>simp only [tlB,tlI,tlE,List.cons.injEq,Bool.and_eq_true] at h1 h2;exact⟨h1.2,h2.2⟩
   have:=zBj this.1 this.2 j ti hj
   rwa [show k+1+j=k+(j+1) by omega] at this
  cases i with
  | succ j=>exact step j h
  | zero =>
   cases x with
   | none=>cases h
   | some y =>
    cases h
    simp only [tlB,tlI,tlE,List.cons.injEq,Bool.and_eq_true,tiB,decide_eq_true_eq,Bool.or_eq_true] at h1 h2
    obtain⟨⟨⟨⟨⟨a,b⟩,c⟩,d⟩,e⟩,_⟩:=h1
    obtain⟨dd,u,v⟩:=zBi a
    exact TIOK.mk' h2.1 u v b (zVa c) d e
end Go.Lg
namespace Go.Proofs.YtalkjpicadiimaaGreatDoor
open Go.Lg
set_option maxRecDepth 100000
def t0:Option TI:=some ⟨.func,1,8,.nilFunc,[.nilfn]⟩
def t1:Option TI:=some ⟨.pointer,1,8,(.pointer none),[.nil]⟩
def t2:Option TI:=some ⟨.num .u8,1,1,(.int .u8 0),[.num .u8 0]⟩
def t3:Option TI:=some ⟨.int,1,8,(.int .i64 0),[.int 0]⟩
def t4:Option TI:=some ⟨.str,1,16,(.string ⟨#[]⟩),[.str []]⟩
def t5:Option TI:=some ⟨.num .i32,1,4,(.int .i32 0),[.num .i32 0]⟩
def t6:Option TI:=some ⟨.struct [(0,1),(1,1),(2,1),(3,1)] [0,1,2,3],4,24,(.agg #[(.int .i64 0),(.int .i64 0),(.bool false),(.int .u8 0)]),[.int 0,.int 0,.bool false,.num .u8 0]⟩
def t7:Option TI:=some ⟨.struct [(0,1)] [0],1,8,(.agg #[(.pointer none)]),[.nil]⟩
def t8:Option TI:=some ⟨.struct [(0,1),(1,1)] [0,1],2,32,(.agg #[(.int .i64 0),(.slice none 0 0)]),[.int 0,.nils]⟩
def t9:Option TI:=some ⟨.struct [(0,1),(1,1),(2,2),(4,1),(5,1),(6,1)] [0,1,3,4,5],7,120,(.agg #[(.int .i64 0),(.int .i64 0),(.int .i64 0),(.slice none 0 0),(.slice none 0 0),(.slice none 0 0),(.slice none 0 0)]),[.int 0,.int 0,.int 0,.nils,.nils,.nils,.nils]⟩
def t10:Option TI:=some ⟨.struct [(0,1),(1,2),(3,1),(4,1)] [0,2,3],5,88,(.agg #[(.int .i64 0),(.int .i64 0),(.slice none 0 0),(.slice none 0 0),(.slice none 0 0)]),[.int 0,.int 0,.nils,.nils,.nils]⟩
def t11:Option TI:=some ⟨.struct [(0,5),(5,1)] [1],6,112,(.agg #[(.int .i64 0),(.int .i64 0),(.slice none 0 0),(.slice none 0 0),(.slice none 0 0),(.slice none 0 0)]),[.int 0,.int 0,.nils,.nils,.nils,.nils]⟩
def t12:Option TI:=some ⟨.struct [(0,1),(1,1)] [0,1],2,48,(.agg #[(.slice none 0 0),(.slice none 0 0)]),[.nils,.nils]⟩
def t13:Option TI:=some ⟨.struct [(0,1),(1,1),(2,2),(4,1)] [0,1,3],5,72,(.agg #[(.int .i64 0),(.int .i64 0),(.int .i64 0),(.slice none 0 0),(.slice none 0 0)]),[.int 0,.int 0,.int 0,.nils,.nils]⟩
def t14:Option TI:=some ⟨.struct [(0,1),(1,1)] [0,1],2,32,(.agg #[(.slice none 0 0),(.int .i64 0)]),[.nils,.int 0]⟩
def t15:Option TI:=some ⟨.struct [(0,7),(7,5),(12,1),(13,1),(14,1)] [2,3,4],15,264,(.agg #[(.int .i64 0),(.int .i64 0),(.int .i64 0),(.slice none 0 0),(.slice none 0 0),(.slice none 0 0),(.slice none 0 0),(.int .i64 0),(.int .i64 0),(.slice none 0 0),(.slice none 0 0),(.slice none 0 0),(.slice none 0 0),(.bool false),(.slice none 0 0)]),[.int 0,.int 0,.int 0,.nils,.nils,.nils,.nils,.int 0,.int 0,.nils,.nils,.nils,.nils,.bool false,.nils]⟩
def t16:Option TI:=some ⟨.struct [(0,1),(1,1),(2,1),(3,1)] [0,1,2,3],4,64,(.agg #[(.int .i64 0),(.int .i64 0),(.slice none 0 0),(.slice none 0 0)]),[.int 0,.int 0,.nils,.nils]⟩
def t17:Option TI:=some ⟨.struct [(0,1),(1,1),(2,1)] [0,1,2],3,72,(.agg #[(.slice none 0 0),(.slice none 0 0),(.slice none 0 0)]),[.nils,.nils,.nils]⟩
def t18:Option TI:=some ⟨.struct [(0,1)] [0],1,24,(.agg #[(.slice none 0 0)]),[.nils]⟩
def t19:Option TI:=some ⟨.struct [(0,2),(2,1)] [1],3,40,(.agg #[(.int .i64 0),(.slice none 0 0),(.int .i64 0)]),[.int 0,.nils,.int 0]⟩
def t20:Option TI:=some ⟨.slice 134,1,24,(.slice none 0 0),[.nils]⟩
def t21:Option TI:=some ⟨.struct [(0,1),(1,1)] [0,1],2,32,(.agg #[(.slice none 0 0),(.map none)]),[.nils,.nilm]⟩
def t22:Option TI:=some ⟨.num .u32,1,4,(.int .u32 0),[.num .u32 0]⟩
def t23:Option TI:=some ⟨.struct [(0,5),(5,1)] [1],6,96,(.agg #[(.int .i64 0),(.int .i64 0),(.slice none 0 0),(.slice none 0 0),(.slice none 0 0),(.int .u32 0)]),[.int 0,.int 0,.nils,.nils,.nils,.num .u32 0]⟩
def t24:Option TI:=some ⟨.struct [(0,1),(1,1)] [0,1],2,16,(.agg #[(.int .i64 0),(.int .i64 0)]),[.int 0,.int 0]⟩
def t25:Option TI:=some ⟨.struct [(0,2),(2,1),(3,1)] [1,2],4,64,(.agg #[(.int .i64 0),(.int .i64 0),(.slice none 0 0),(.slice none 0 0)]),[.int 0,.int 0,.nils,.nils]⟩
def t26:Option TI:=some ⟨.struct [(0,1),(1,1),(2,1)] [0,1,2],3,56,(.agg #[(.slice none 0 0),(.slice none 0 0),(.pointer none)]),[.nils,.nils,.nil]⟩
def t27:Option TI:=some ⟨.struct [(0,5),(5,1)] [1],6,80,(.agg #[(.int .i64 0),(.int .i64 0),(.int .i64 0),(.slice none 0 0),(.slice none 0 0),(.int .i64 0)]),[.int 0,.int 0,.int 0,.nils,.nils,.int 0]⟩
def t28:Option TI:=some ⟨.struct [(0,6),(6,1),(7,1)] [1,2],8,96,(.agg #[(.int .i64 0),(.int .i64 0),(.int .i64 0),(.slice none 0 0),(.slice none 0 0),(.int .i64 0),(.bool false),(.int .i64 0)]),[.int 0,.int 0,.int 0,.nils,.nils,.int 0,.bool false,.int 0]⟩
def t29:Option TI:=some ⟨.struct [(0,1),(1,1),(2,1),(3,1),(4,1)] [0,1,2,3,4],5,32,(.agg #[(.int .i64 0),(.int .i64 0),(.int .i64 0),(.bool false),(.bool false)]),[.int 0,.int 0,.int 0,.bool false,.bool false]⟩
def t30:Option TI:=some ⟨.struct [(0,1),(1,1)] [0,1],2,16,(.agg #[(.int .i64 0),(.bool false)]),[.int 0,.bool false]⟩
def t31:Option TI:=some ⟨.struct [(0,1),(1,5),(6,1),(7,5)] [0,2],12,176,(.agg #[(.int .i64 0),(.int .i64 0),(.int .i64 0),(.int .i64 0),(.slice none 0 0),(.slice none 0 0),(.slice none 0 0),(.int .i64 0),(.int .i64 0),(.int .i64 0),(.slice none 0 0),(.slice none 0 0)]),[.int 0,.int 0,.int 0,.int 0,.nils,.nils,.nils,.int 0,.int 0,.int 0,.nils,.nils]⟩
def t32:Option TI:=some ⟨.struct [(0,5),(5,1)] [1],6,96,(.agg #[(.int .i64 0),(.int .i64 0),(.slice none 0 0),(.slice none 0 0),(.slice none 0 0),(.int .i64 0)]),[.int 0,.int 0,.nils,.nils,.nils,.int 0]⟩
def t33:Option TI:=some ⟨.struct [(0,1),(1,1),(2,1),(3,1),(4,1),(5,1),(6,1),(7,1)] [0,1,2,3,4,5,6,7],8,56,(.agg #[(.bool false),(.bool false),(.int .i64 0),(.int .i64 0),(.int .i64 0),(.int .i64 0),(.int .i64 0),(.int .i64 0)]),[.bool false,.bool false,.int 0,.int 0,.int 0,.int 0,.int 0,.int 0]⟩
def t34:Option TI:=some ⟨.struct [(0,1),(1,1)] [0,1],2,16,(.agg #[(.pointer none),(.int .i64 0)]),[.nil,.int 0]⟩
def t35:Option TI:=some ⟨.struct [(0,1),(1,1),(2,2),(4,1),(5,1),(6,1),(7,1)] [0,1,3,4,5,6],8,96,(.agg #[(.int .i64 0),(.int .i64 0),(.int .i64 0),(.slice none 0 0),(.slice none 0 0),(.int .i64 0),(.int .i64 0),(.bool false)]),[.int 0,.int 0,.int 0,.nils,.nils,.int 0,.int 0,.bool false]⟩
def t36:Option TI:=some ⟨.struct [(0,1),(1,1),(2,1),(3,1)] [0,1,2,3],4,40,(.agg #[(.pointer none),(.pointer none),(.pointer none),(.string ⟨#[]⟩)]),[.nil,.nil,.nil,.str []]⟩
def t37:Option TI:=some ⟨.struct [(0,0)] [],0,0,(.agg #[]),[]⟩
def t38:Option TI:=some ⟨.bool,1,1,(.bool false),[.bool false]⟩
def t39:Option TI:=some ⟨.iface,1,16,.nilIface,[.nilif]⟩
def t40:Option TI:=some ⟨.slice 3,1,24,(.slice none 0 0),[.nils]⟩
def t41:Option TI:=some ⟨.slice 30,1,24,(.slice none 0 0),[.nils]⟩
def t42:Option TI:=some ⟨.slice 45,1,24,(.slice none 0 0),[.nils]⟩
def t43:Option TI:=some ⟨.slice 37,1,24,(.slice none 0 0),[.nils]⟩
def t44:Option TI:=some ⟨.slice 35,1,24,(.slice none 0 0),[.nils]⟩
def t45:Option TI:=some ⟨.slice 65,1,24,(.slice none 0 0),[.nils]⟩
def t46:Option TI:=some ⟨.slice 183,1,24,(.slice none 0 0),[.nils]⟩
def t47:Option TI:=some ⟨.slice 185,1,24,(.slice none 0 0),[.nils]⟩
def t48:Option TI:=some ⟨.slice 4,1,24,(.slice none 0 0),[.nils]⟩
def t49:Option TI:=some ⟨.smap 3 214 false,1,8,(.map none),[.nilm]⟩
def t50:Option TI:=some ⟨.slice 263,1,24,(.slice none 0 0),[.nils]⟩
def t51:Option TI:=some ⟨.array 3 134,9,120,(.agg #[(.int .i64 0),(.slice none 0 0),(.int .i64 0),(.int .i64 0),(.slice none 0 0),(.int .i64 0),(.int .i64 0),(.slice none 0 0),(.int .i64 0)]),[.int 0,.nils,.int 0,.int 0,.nils,.int 0,.int 0,.nils,.int 0]⟩
def t52:Option TI:=some ⟨.smap 3 4 false,1,8,(.map none),[.nilm]⟩
def t53:Option TI:=some ⟨.array 32 5,32,32,(.agg #[(.int .u8 0),(.int .u8 0),(.int .u8 0),(.int .u8 0),(.int .u8 0),(.int .u8 0),(.int .u8 0),(.int .u8 0),(.int .u8 0),(.int .u8 0),(.int .u8 0),(.int .u8 0),(.int .u8 0),(.int .u8 0),(.int .u8 0),(.int .u8 0),(.int .u8 0),(.int .u8 0),(.int .u8 0),(.int .u8 0),(.int .u8 0),(.int .u8 0),(.int .u8 0),(.int .u8 0),(.int .u8 0),(.int .u8 0),(.int .u8 0),(.int .u8 0),(.int .u8 0),(.int .u8 0),(.int .u8 0),(.int .u8 0)]),[.num .u8 0,.num .u8 0,.num .u8 0,.num .u8 0,.num .u8 0,.num .u8 0,.num .u8 0,.num .u8 0,.num .u8 0,.num .u8 0,.num .u8 0,.num .u8 0,.num .u8 0,.num .u8 0,.num .u8 0,.num .u8 0,.num .u8 0,.num .u8 0,.num .u8 0,.num .u8 0,.num .u8 0,.num .u8 0,.num .u8 0,.num .u8 0,.num .u8 0,.num .u8 0,.num .u8 0,.num .u8 0,.num .u8 0,.num .u8 0,.num .u8 0,.num .u8 0]⟩
def t54:Option TI:=some ⟨.array 14 3,14,112,(.agg #[(.int .i64 0),(.int .i64 0),(.int .i64 0),(.int .i64 0),(.int .i64 0),(.int .i64 0),(.int .i64 0),(.int .i64 0),(.int .i64 0),(.int .i64 0),(.int .i64 0),(.int .i64 0),(.int .i64 0),(.int .i64 0)]),[.int 0,.int 0,.int 0,.int 0,.int 0,.int 0,.int 0,.int 0,.int 0,.int 0,.int 0,.int 0,.int 0,.int 0]⟩
def t55:Option TI:=some ⟨.array 21 280,168,1176,(.agg #[(.bool false),(.bool false),(.int .i64 0),(.int .i64 0),(.int .i64 0),(.int .i64 0),(.int .i64 0),(.int .i64 0),(.bool false),(.bool false),(.int .i64 0),(.int .i64 0),(.int .i64 0),(.int .i64 0),(.int .i64 0),(.int .i64 0),(.bool false),(.bool false),(.int .i64 0),(.int .i64 0),(.int .i64 0),(.int .i64 0),(.int .i64 0),(.int .i64 0),(.bool false),(.bool false),(.int .i64 0),(.int .i64 0),(.int .i64 0),(.int .i64 0),(.int .i64 0),(.int .i64 0),(.bool false),(.bool false),(.int .i64 0),(.int .i64 0),(.int .i64 0),(.int .i64 0),(.int .i64 0),(.int .i64 0),(.bool false),(.bool false),(.int .i64 0),(.int .i64 0),(.int .i64 0),(.int .i64 0),(.int .i64 0),(.int .i64 0),(.bool false),(.bool false),(.int .i64 0),(.int .i64 0),(.int .i64 0),(.int .i64 0),(.int .i64 0),(.int .i64 0),(.bool false),(.bool false),(.int .i64 0),(.int .i64 0),(.int .i64 0),(.int .i64 0),(.int .i64 0),(.int .i64 0),(.bool false),(.bool false),(.int .i64 0),(.int .i64 0),(.int .i64 0),(.int .i64 0),(.int .i64 0),(.int .i64 0),(.bool false),(.bool false),(.int .i64 0),(.int .i64 0),(.int .i64 0),(.int .i64 0),(.int .i64 0),(.int .i64 0),(.bool false),(.bool false),(.int .i64 0),(.int .i64 0),(.int .i64 0),(.int .i64 0),(.int .i64 0),(.int .i64 0),(.bool false),(.bool false),(.int .i64 0),(.int .i64 0),(.int .i64 0),(.int .i64 0),(.int .i64 0),(.int .i64 0),(.bool false),(.bool false),(.int .i64 0),(.int .i64 0),(.int .i64 0),(.int .i64 0),(.int .i64 0),(.int .i64 0),(.bool false),(.bool false),(.int .i64 0),(.int .i64 0),(.int .i64 0),(.int .i64 0),(.int .i64 0),(.int .i64 0),(.bool false),(.bool false),(.int .i64 0),(.int .i64 0),(.int .i64 0),(.int .i64 0),(.int .i64 0),(.int .i64 0),(.bool false),(.bool false),(.int .i64 0),(.int .i64 0),(.int .i64 0),(.int .i64 0),(.int .i64 0),(.int .i64 0),(.bool false),(.bool false),(.int .i64 0),(.int .i64 0),(.int .i64 0),(.int .i64 0),(.int .i64 0),(.int .i64 0),(.bool false),(.bool false),(.int .i64 0),(.int .i64 0),(.int .i64 0),(.int .i64 0),(.int .i64 0),(.int .i64 0),(.bool false),(.bool false),(.int .i64 0),(.int .i64 0),(.int .i64 0),(.int .i64 0),(.int .i64 0),(.int .i64 0),(.bool false),(.bool false),(.int .i64 0),(.int .i64 0),(.int .i64 0),(.int .i64 0),(.int .i64 0),(.int .i64 0),(.bool false),(.bool false),(.int .i64 0),(.int .i64 0),(.int .i64 0),(.int .i64 0),(.int .i64 0),(.int .i64 0)]),[.bool false,.bool false,.int 0,.int 0,.int 0,.int 0,.int 0,.int 0,.bool false,.bool false,.int 0,.int 0,.int 0,.int 0,.int 0,.int 0,.bool false,.bool false,.int 0,.int 0,.int 0,.int 0,.int 0,.int 0,.bool false,.bool false,.int 0,.int 0,.int 0,.int 0,.int 0,.int 0,.bool false,.bool false,.int 0,.int 0,.int 0,.int 0,.int 0,.int 0,.bool false,.bool false,.int 0,.int 0,.int 0,.int 0,.int 0,.int 0,.bool false,.bool false,.int 0,.int 0,.int 0,.int 0,.int 0,.int 0,.bool false,.bool false,.int 0,.int 0,.int 0,.int 0,.int 0,.int 0,.bool false,.bool false,.int 0,.int 0,.int 0,.int 0,.int 0,.int 0,.bool false,.bool false,.int 0,.int 0,.int 0,.int 0,.int 0,.int 0,.bool false,.bool false,.int 0,.int 0,.int 0,.int 0,.int 0,.int 0,.bool false,.bool false,.int 0,.int 0,.int 0,.int 0,.int 0,.int 0,.bool false,.bool false,.int 0,.int 0,.int 0,.int 0,.int 0,.int 0,.bool false,.bool false,.int 0,.int 0,.int 0,.int 0,.int 0,.int 0,.bool false,.bool false,.int 0,.int 0,.int 0,.int 0,.int 0,.int 0,.bool false,.bool false,.int 0,.int 0,.int 0,.int 0,.int 0,.int 0,.bool false,.bool false,.int 0,.int 0,.int 0,.int 0,.int 0,.int 0,.bool false,.bool false,.int 0,.int 0,.int 0,.int 0,.int 0,.int 0,.bool false,.bool false,.int 0,.int 0,.int 0,.int 0,.int 0,.int 0,.bool false,.bool false,.int 0,.int 0,.int 0,.int 0,.int 0,.int 0,.bool false,.bool false,.int 0,.int 0,.int 0,.int 0,.int 0,.int 0]⟩
def t56:Option TI:=some ⟨.slice 303,1,24,(.slice none 0 0),[.nils]⟩
def t57:Option TI:=some ⟨.array 0 16,0,0,(.agg #[]),[]⟩
def tl:List (Option TI):=[none,t0,t3,t3,t38,t2,t2,t6,t6,t4,t4,t4,none,none,none,t1,t1,t1,t7,t7,t39,t5,t40,t0,t0,t1,t0,t41,t0,t8,t8,t42,t43,t44,t9,t9,t10,t10,t11,t11,none,t0,t12,t12,t13,t13,t3,none,t0,t0,none,t0,t0,t0,t0,t0,t0,t14,t14,t0,t0,none,t0,t0,t0,t1,none,t0,t45,t15,t15,t0,t46,t47,t16,t16,t0,t0,t0,t0,t0,t0,t0,t0,t0,t0,t0,t0,none,t0,t0,t0,t0,t0,t0,t0,t0,t0,t0,t0,t0,t0,t0,t0,t0,t0,t0,t0,t0,t17,t17,t0,t0,t0,t0,t18,t18,t0,t48,none,t0,t0,t0,t0,t0,t0,t0,t0,t0,t0,none,t0,t0,t19,t19,none,t20,t20,t0,t0,t0,t0,t0,t0,t0,t0,t0,t0,t0,t0,none,t0,t1,t49,t0,t21,t21,t22,t22,t23,t23,none,t0,t24,t24,t50,t25,t25,t0,t0,t26,t26,t0,t0,t0,none,t0,t0,t0,t0,t0,t2,t27,t27,t28,t28,t29,t29,none,t0,t0,t0,t0,t0,none,t0,t0,t0,t0,t0,t51,t0,t0,t0,t0,t0,t0,t0,t0,t0,t0,t0,t0,t0,t0,t0,t0,t0,t0,t0,t0,t0,t0,t0,t0,t0,t0,t0,none,t0,t0,t0,t0,t0,t0,t0,t52,t0,t0,t0,t0,none,t0,none,t0,t0,t1,t30,t30,none,t0,t0,t0,t0,t0,t0,t0,t31,t31,t0,t0,t0,t32,t32,t53,none,t0,t0,t0,t0,t0,none,t0,t0,t0,t0,t0,none,t0,t33,t33,none,t0,t0,t0,t0,t0,t0,t0,none,t0,t0,t0,t54,t0,t0,none,t0,t55,t0,t0,t0,t1,t1,t0,t34,t34,t0,t0,t0,t0,t0,t56,t0,none,t0,t0,t35,t35,t0,t0,t0,t0,t0,t0,t0,t0,t0,t36,t36,t57,t37,t37,t2,t2,t0,t1,t5,t5]
def tt (t:Nat):Option TI:=match qYl tl t with
 | some x=>x
 | none=>none
theorem zLr:TOK Tryz.prog tt:=by
 intro t ti h
 unfold tt at h
 split at h
 ·rename_i x e
  subst h
  have:=zBj (P:=Tryz.prog) (l:=tl) (k:=0) (by kernel_rfl) (by kernel_rfl) t ti e
  rwa [Nat.zero_add] at this
 ·cases h
theorem zFq:Tryz.prog.follows .mixedOrders=true:=by kernel_rfl
end Go.Proofs.YtalkjpicadiimaaGreatDoor
