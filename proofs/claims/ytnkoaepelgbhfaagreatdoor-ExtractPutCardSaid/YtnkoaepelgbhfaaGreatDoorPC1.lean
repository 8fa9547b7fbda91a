/- Contracts of functions; no conditions. -/
import Derived.Test.YtnkoaepelgbhfaaGreatDoorPB2
import Derived.Test.YtnkoaepelgbhfaaGreatDoorProg
import Derived.KernelRfl
set_option linter.all false
namespace Go.Lg
def eR (k:IntKind):Bool:=match k with
 | .i16=>false
 | .i8=>false
 | _=>true
theorem YZ {k:IntKind} (h:eR k=true):k ≠ .i16/\k ≠ .i8:=by cases k<;>simp [eR] at h ⊢
def NV:PV->Value->Bool
 | .int n,.int .i64 m=>decide (m=n)
 | .bool a,.bool b=>decide (b=a)
 | .nil,.pointer none=>true
 | .nils,.slice none 0 0=>true
 | .nilfn,.nilFunc=>true
 | .nilm,.map none=>true
 | .nilif,.nilIface=>true
 | .num k n,.int k' m=>decide (k'=k) && decide (m=n) && eR k
 | .str [],.string ⟨⟨[]⟩⟩=>true
 | _,_=>false
theorem Ij {p:PV} {v:Value} (h:NV p v=true):RepP (λ _=>[]) p v:=by
 unfold NV at h;split at h<;>simp_all [RepP];exact YZ h.2
def iR:List PV->List Value->Bool
 | [],_=>true
 | _::_,[]=>false
 | c::cs,v::vs=>NV c v && iR cs vs
theorem ZZ:∀ {cs:List PV} {vs:List Value},iR cs vs=true->RepL (λ _=>[]) cs vs
 | [],_,_=>by simp only [RepL]
 | _::_,[],h=>by cases h
 | c::cs,v::vs,h=>by
  simp only [iR,Bool.and_eq_true] at h;simp only [RepL];exact⟨Ij h.1,ZZ h.2⟩
def OV (P:Program) (t:Nat) (k:TK):Bool:=match k with
 | .bool=>match P.underlying t with|some .bool=>true|_=>false
 | .pointer=>match P.underlying t with|some (.pointer _)=>true|_=>false
 | .func=>match P.underlying t with|some (.func _ _ _)=>true|_=>false
 | .struct fs pl=>match P.underlying t with
  | some (.struct f)=>decide (f.toList.map (λ x=>(x.offset,(P.info? x.type).map (·.size)))=fs.map (λ p=>(p.1,some p.2))) && PN P f.toList pl
  | _=>false
 | .slice e=>match P.underlying t with|some (.slice e')=>decide (e'=e)|_=>false
 | .array n e=>match P.underlying t with|some (.array n' e')=>decide (n'=n) && decide (e'=e)|_=>false
 | .smap k v s=>match P.underlying t with
  | some (.map k' v')=>decide (k'=k) && decide (v'=v) && (match s,P.underlying k with
   | true,some .string=>true
   | false,some (.int .i64)=>true
   | _,_=>false)
  | _=>false
 | .str=>match P.underlying t with|some .string=>true|_=>false
 | .int=>match P.underlying t with|some (.int .i64)=>true|_=>false
 | .iface=>match P.underlying t with|some (.interface _)=>true|_=>false
 | .num k=>match P.underlying t with|some (.int k')=>decide (k'=k) && eR k|_=>false
 | _=>false
theorem Jj {P:Program} {t:Nat} {k:TK} (h:OV P t k=true):∃ d,P.underlying t=some d/\IB P d k:=by
 unfold OV at h;split at h<;>(try split at h)<;>(try (cases h;done))<;>rename_i e<;>refine⟨_,e,?_⟩<;>simp only [IB,Bool.and_eq_true,decide_eq_true_eq] at h ⊢
 all_goals first
  | rfl
  | exact⟨_,rfl⟩
  | exact⟨_,_,_,rfl⟩
  | (exact⟨_,rfl,h.1,h.2⟩)
  | (subst h;rfl)
  | (obtain⟨rfl,rfl⟩:=h;rfl)
  | (obtain⟨rfl,h2⟩:=h;exact⟨rfl,YZ h2⟩)
  | (obtain⟨⟨rfl,rfl⟩,h2⟩:=h;refine⟨rfl,?_⟩;split at h2<;>simp_all)
def za (P:Program) (t:Nat) (ti:TI):Bool:=OV P t ti.k && decide (ti.zero.cells.size=ti.size) && iR ti.zc ti.zero.cells.toList && decide (ti.zc.length=ti.size) && (ti.k.isIface || P.concrete t)
def lL (P:Program):List (Option TI)->Nat->Bool
 | [],_=>true
 | none::r,t=>lL P r (t+1)
 | some ti::r,t=>za P t ti && lL P r (t+1)
def mL (P:Program):List (Option TI)->Nat->List (Option (Nat × Nat × Option Value))
 | [],_=>[]
 | none::r,t=>none::mL P r (t+1)
 | some _::r,t=>((P.info? t).map λ i=>(i.size,i.bytes,i.zero))::mL P r (t+1)
def nL:List (Option TI)->List (Option (Nat × Nat × Option Value))
 | []=>[]
 | none::r=>none::nL r
 | some ti::r=>some (ti.size,ti.bytes,some ti.zero)::nL r
theorem va {P:Program} : ∀ {l:List (Option TI)} {k:Nat},lL P l k=true->mL P l k=nL l->∀ (i:Nat) (ti:TI),PB l i=some (some ti)->TIOK P (k+i) ti
 | [],k,_,_,i,ti,h=>by cases i<;>cases h
 | x::r,k,h1,h2,i,ti,h=>by
  have step:∀ j,PB r j=some (some ti)->TIOK P (k+(j+1)) ti:=λ j hj=>by
   have:lL P r (k+1)=true/\mL P r (k+1)=nL r:=by
    cases x with
    | none=>simp only [lL,mL,nL,List.cons.injEq,true_and] at h1 h2;exact⟨h1,h2⟩
    | some y=>simp only [lL,mL,nL,List.cons.injEq,Bool.and_eq_true] at h1 h2;exact⟨h1.2,h2.2⟩
   have:=va this.1 this.2 j ti hj;rwa [show k+1+j=k+(j+1) by omega] at this
  cases i with
  | succ j=>exact step j h
  | zero =>
   cases x with
   | none=>cases h
   | some y =>
    cases h;simp only [lL,mL,nL,List.cons.injEq,Bool.and_eq_true,za,decide_eq_true_eq,Bool.or_eq_true] at h1 h2;obtain⟨⟨⟨⟨⟨a,b⟩,c⟩,d⟩,e⟩,_⟩:=h1;obtain⟨dd,u,v⟩:=Jj a;exact TIOK.mk' h2.1 u v b (ZZ c) d e
end Go.Lg
namespace Go.Proofs.YtnkoaepelgbhfaaGreatDoor
open Go.Lg
set_option maxRecDepth 100000
def t0:Option TI:=some ⟨.func,1,8,.nilFunc,[.nilfn]⟩
def t1:Option TI:=some ⟨.pointer,1,8,(.pointer none),[.nil]⟩
def t2:Option TI:=some ⟨.num .u8,1,1,(.int .u8 0),[.num .u8 0]⟩
def t3:Option TI:=some ⟨.int,1,8,(.int .i64 0),[.int 0]⟩
def t4:Option TI:=some ⟨.str,1,16,(.string ⟨#[]⟩),[.str []]⟩
def t5:Option TI:=some ⟨.num .i32,1,4,(.int .i32 0),[.num .i32 0]⟩
def t6:Option TI:=some ⟨.struct [(0,1),(1,1),(2,1),(3,1)] [0,1,2,3],4,24,(.agg #[(.int .i64 0),(.int .i64 0),(.bool false),(.int .u8 0)]),[.int 0,.int 0,.bool false,.num .u8 0]⟩
def t7:Option TI:=some ⟨.struct [(0,1)] [0],1,8,(.agg #[(.pointer none)]),[.nil]⟩
def t8:Option TI:=some ⟨.struct [(0,1),(1,1)] [0,1],2,32,(.agg #[(.int .i64 0),(.slice none 0 0)]),[.int 0,.nils]⟩
def t9:Option TI:=some ⟨.struct [(0,1),(1,1),(2,2),(4,1),(5,1),(6,1)] [0,1,3,4,5],7,120,(.agg #[(.int .i64 0),(.int .i64 0),(.int .i64 0),(.slice none 0 0),(.slice none 0 0),(.slice none 0 0),(.slice none 0 0)]),[.int 0,.int 0,.int 0,.nils,.nils,.nils,.nils]⟩
def ya:Option TI:=some ⟨.struct [(0,1),(1,2),(3,1),(4,1)] [0,2,3],5,88,(.agg #[(.int .i64 0),(.int .i64 0),(.slice none 0 0),(.slice none 0 0),(.slice none 0 0)]),[.int 0,.int 0,.nils,.nils,.nils]⟩
def ua:Option TI:=some ⟨.struct [(0,5),(5,1)] [1],6,112,(.agg #[(.int .i64 0),(.int .i64 0),(.slice none 0 0),(.slice none 0 0),(.slice none 0 0),(.slice none 0 0)]),[.int 0,.int 0,.nils,.nils,.nils,.nils]⟩
def ba:Option TI:=some ⟨.struct [(0,1),(1,1)] [0,1],2,48,(.agg #[(.slice none 0 0),(.slice none 0 0)]),[.nils,.nils]⟩
def da:Option TI:=some ⟨.struct [(0,1),(1,1),(2,2),(4,1)] [0,1,3],5,72,(.agg #[(.int .i64 0),(.int .i64 0),(.int .i64 0),(.slice none 0 0),(.slice none 0 0)]),[.int 0,.int 0,.int 0,.nils,.nils]⟩
def la:Option TI:=some ⟨.struct [(0,1),(1,1)] [0,1],2,32,(.agg #[(.slice none 0 0),(.int .i64 0)]),[.nils,.int 0]⟩
def ma:Option TI:=some ⟨.struct [(0,7),(7,5),(12,1),(13,1),(14,1)] [2,3,4],15,264,(.agg #[(.int .i64 0),(.int .i64 0),(.int .i64 0),(.slice none 0 0),(.slice none 0 0),(.slice none 0 0),(.slice none 0 0),(.int .i64 0),(.int .i64 0),(.slice none 0 0),(.slice none 0 0),(.slice none 0 0),(.slice none 0 0),(.bool false),(.slice none 0 0)]),[.int 0,.int 0,.int 0,.nils,.nils,.nils,.nils,.int 0,.int 0,.nils,.nils,.nils,.nils,.bool false,.nils]⟩
def na:Option TI:=some ⟨.struct [(0,1),(1,1),(2,1),(3,1)] [0,1,2,3],4,64,(.agg #[(.int .i64 0),(.int .i64 0),(.slice none 0 0),(.slice none 0 0)]),[.int 0,.int 0,.nils,.nils]⟩
def pa:Option TI:=some ⟨.struct [(0,1),(1,1),(2,1)] [0,1,2],3,72,(.agg #[(.slice none 0 0),(.slice none 0 0),(.slice none 0 0)]),[.nils,.nils,.nils]⟩
def sa:Option TI:=some ⟨.struct [(0,1)] [0],1,24,(.agg #[(.slice none 0 0)]),[.nils]⟩
def ta:Option TI:=some ⟨.struct [(0,2),(2,1)] [1],3,40,(.agg #[(.int .i64 0),(.slice none 0 0),(.int .i64 0)]),[.int 0,.nils,.int 0]⟩
def aa:Option TI:=some ⟨.slice 146,1,24,(.slice none 0 0),[.nils]⟩
def xa:Option TI:=some ⟨.struct [(0,1),(1,1),(2,1),(3,1),(4,1)] [0,1,2,3,4],5,32,(.agg #[(.int .i64 0),(.int .i64 0),(.int .i64 0),(.bool false),(.bool false)]),[.int 0,.int 0,.int 0,.bool false,.bool false]⟩
def Aa:Option TI:=some ⟨.struct [(0,1),(1,1)] [0,1],2,32,(.agg #[(.slice none 0 0),(.map none)]),[.nils,.nilm]⟩
def Ba:Option TI:=some ⟨.num .u32,1,4,(.int .u32 0),[.num .u32 0]⟩
def Ca:Option TI:=some ⟨.struct [(0,5),(5,1)] [1],6,96,(.agg #[(.int .i64 0),(.int .i64 0),(.slice none 0 0),(.slice none 0 0),(.slice none 0 0),(.int .u32 0)]),[.int 0,.int 0,.nils,.nils,.nils,.num .u32 0]⟩
def Da:Option TI:=some ⟨.struct [(0,1),(1,1)] [0,1],2,16,(.agg #[(.int .i64 0),(.int .i64 0)]),[.int 0,.int 0]⟩
def Ea:Option TI:=some ⟨.struct [(0,2),(2,1),(3,1)] [1,2],4,64,(.agg #[(.int .i64 0),(.int .i64 0),(.slice none 0 0),(.slice none 0 0)]),[.int 0,.int 0,.nils,.nils]⟩
def Fa:Option TI:=some ⟨.struct [(0,1),(1,1),(2,1)] [0,1,2],3,56,(.agg #[(.slice none 0 0),(.slice none 0 0),(.pointer none)]),[.nils,.nils,.nil]⟩
def Ia:Option TI:=some ⟨.struct [(0,5),(5,1)] [1],6,80,(.agg #[(.int .i64 0),(.int .i64 0),(.int .i64 0),(.slice none 0 0),(.slice none 0 0),(.int .i64 0)]),[.int 0,.int 0,.int 0,.nils,.nils,.int 0]⟩
def Ja:Option TI:=some ⟨.struct [(0,6),(6,1),(7,1)] [1,2],8,96,(.agg #[(.int .i64 0),(.int .i64 0),(.int .i64 0),(.slice none 0 0),(.slice none 0 0),(.int .i64 0),(.bool false),(.int .i64 0)]),[.int 0,.int 0,.int 0,.nils,.nils,.int 0,.bool false,.int 0]⟩
def Ka:Option TI:=some ⟨.struct [(0,1),(1,1)] [0,1],2,16,(.agg #[(.int .i64 0),(.bool false)]),[.int 0,.bool false]⟩
def La:Option TI:=some ⟨.struct [(0,1),(1,5),(6,1),(7,5)] [0,2],12,176,(.agg #[(.int .i64 0),(.int .i64 0),(.int .i64 0),(.int .i64 0),(.slice none 0 0),(.slice none 0 0),(.slice none 0 0),(.int .i64 0),(.int .i64 0),(.int .i64 0),(.slice none 0 0),(.slice none 0 0)]),[.int 0,.int 0,.int 0,.int 0,.nils,.nils,.nils,.int 0,.int 0,.int 0,.nils,.nils]⟩
def Ma:Option TI:=some ⟨.struct [(0,5),(5,1)] [1],6,96,(.agg #[(.int .i64 0),(.int .i64 0),(.slice none 0 0),(.slice none 0 0),(.slice none 0 0),(.int .i64 0)]),[.int 0,.int 0,.nils,.nils,.nils,.int 0]⟩
def Na:Option TI:=some ⟨.struct [(0,1),(1,1),(2,1),(3,1),(4,1),(5,1),(6,1),(7,1)] [0,1,2,3,4,5,6,7],8,56,(.agg #[(.bool false),(.bool false),(.int .i64 0),(.int .i64 0),(.int .i64 0),(.int .i64 0),(.int .i64 0),(.int .i64 0)]),[.bool false,.bool false,.int 0,.int 0,.int 0,.int 0,.int 0,.int 0]⟩
def Oa:Option TI:=some ⟨.struct [(0,1),(1,1)] [0,1],2,16,(.agg #[(.pointer none),(.int .i64 0)]),[.nil,.int 0]⟩
def Pa:Option TI:=some ⟨.struct [(0,1),(1,1),(2,2),(4,1),(5,1),(6,1),(7,1)] [0,1,3,4,5,6],8,96,(.agg #[(.int .i64 0),(.int .i64 0),(.int .i64 0),(.slice none 0 0),(.slice none 0 0),(.int .i64 0),(.int .i64 0),(.bool false)]),[.int 0,.int 0,.int 0,.nils,.nils,.int 0,.int 0,.bool false]⟩
def Qa:Option TI:=some ⟨.struct [(0,1),(1,1),(2,1),(3,1)] [0,1,2,3],4,40,(.agg #[(.pointer none),(.pointer none),(.pointer none),(.string ⟨#[]⟩)]),[.nil,.nil,.nil,.str []]⟩
def Sa:Option TI:=some ⟨.struct [(0,0)] [],0,0,(.agg #[]),[]⟩
def Kj:Option TI:=some ⟨.bool,1,1,(.bool false),[.bool false]⟩
def Lj:Option TI:=some ⟨.iface,1,16,.nilIface,[.nilif]⟩
def Mj:Option TI:=some ⟨.slice 3,1,24,(.slice none 0 0),[.nils]⟩
def Nj:Option TI:=some ⟨.slice 29,1,24,(.slice none 0 0),[.nils]⟩
def Oj:Option TI:=some ⟨.slice 45,1,24,(.slice none 0 0),[.nils]⟩
def Pj:Option TI:=some ⟨.slice 36,1,24,(.slice none 0 0),[.nils]⟩
def Qj:Option TI:=some ⟨.slice 34,1,24,(.slice none 0 0),[.nils]⟩
def Rj:Option TI:=some ⟨.slice 83,1,24,(.slice none 0 0),[.nils]⟩
def Sj:Option TI:=some ⟨.slice 195,1,24,(.slice none 0 0),[.nils]⟩
def Tj:Option TI:=some ⟨.slice 197,1,24,(.slice none 0 0),[.nils]⟩
def Uj:Option TI:=some ⟨.slice 4,1,24,(.slice none 0 0),[.nils]⟩
def Vj:Option TI:=some ⟨.smap 3 218 false,1,8,(.map none),[.nilm]⟩
def Wj:Option TI:=some ⟨.slice 266,1,24,(.slice none 0 0),[.nils]⟩
def Xj:Option TI:=some ⟨.array 3 146,9,120,(.agg #[(.int .i64 0),(.slice none 0 0),(.int .i64 0),(.int .i64 0),(.slice none 0 0),(.int .i64 0),(.int .i64 0),(.slice none 0 0),(.int .i64 0)]),[.int 0,.nils,.int 0,.int 0,.nils,.int 0,.int 0,.nils,.int 0]⟩
def Yj:Option TI:=some ⟨.smap 3 4 false,1,8,(.map none),[.nilm]⟩
def Zj:Option TI:=some ⟨.array 32 5,32,32,(.agg #[(.int .u8 0),(.int .u8 0),(.int .u8 0),(.int .u8 0),(.int .u8 0),(.int .u8 0),(.int .u8 0),(.int .u8 0),(.int .u8 0),(.int .u8 0),(.int .u8 0),(.int .u8 0),(.int .u8 0),(.int .u8 0),(.int .u8 0),(.int .u8 0),(.int .u8 0),(.int .u8 0),(.int .u8 0),(.int .u8 0),(.int .u8 0),(.int .u8 0),(.int .u8 0),(.int .u8 0),(.int .u8 0),(.int .u8 0),(.int .u8 0),(.int .u8 0),(.int .u8 0),(.int .u8 0),(.int .u8 0),(.int .u8 0)]),[.num .u8 0,.num .u8 0,.num .u8 0,.num .u8 0,.num .u8 0,.num .u8 0,.num .u8 0,.num .u8 0,.num .u8 0,.num .u8 0,.num .u8 0,.num .u8 0,.num .u8 0,.num .u8 0,.num .u8 0,.num .u8 0,.num .u8 0,.num .u8 0,.num .u8 0,.num .u8 0,.num .u8 0,.num .u8 0,.num .u8 0,.num .u8 0,.num .u8 0,.num .u8 0,.num .u8 0,.num .u8 0,.num .u8 0,.num .u8 0,.num .u8 0,.num .u8 0]⟩
def qk:Option TI:=some ⟨.array 14 3,14,112,(.agg #[(.int .i64 0),(.int .i64 0),(.int .i64 0),(.int .i64 0),(.int .i64 0),(.int .i64 0),(.int .i64 0),(.int .i64 0),(.int .i64 0),(.int .i64 0),(.int .i64 0),(.int .i64 0),(.int .i64 0),(.int .i64 0)]),[.int 0,.int 0,.int 0,.int 0,.int 0,.int 0,.int 0,.int 0,.int 0,.int 0,.int 0,.int 0,.int 0,.int 0]⟩
def zk:Option TI:=some ⟨.array 21 283,168,1176,(.agg #[(.bool false),(.bool false),(.int .i64 0),(.int .i64 0),(.int .i64 0),(.int .i64 0),(.int .i64 0),(.int .i64 0),(.bool false),(.bool false),(.int .i64 0),(.int .i64 0),(.int .i64 0),(.int .i64 0),(.int .i64 0),(.int .i64 0),(.bool false),(.bool false),(.int .i64 0),(.int .i64 0),(.int .i64 0),(.int .i64 0),(.int .i64 0),(.int .i64 0),(.bool false),(.bool false),(.int .i64 0),(.int .i64 0),(.int .i64 0),(.int .i64 0),(.int .i64 0),(.int .i64 0),(.bool false),(.bool false),(.int .i64 0),(.int .i64 0),(.int .i64 0),(.int .i64 0),(.int .i64 0),(.int .i64 0),(.bool false),(.bool false),(.int .i64 0),(.int .i64 0),(.int .i64 0),(.int .i64 0),(.int .i64 0),(.int .i64 0),(.bool false),(.bool false),(.int .i64 0),(.int .i64 0),(.int .i64 0),(.int .i64 0),(.int .i64 0),(.int .i64 0),(.bool false),(.bool false),(.int .i64 0),(.int .i64 0),(.int .i64 0),(.int .i64 0),(.int .i64 0),(.int .i64 0),(.bool false),(.bool false),(.int .i64 0),(.int .i64 0),(.int .i64 0),(.int .i64 0),(.int .i64 0),(.int .i64 0),(.bool false),(.bool false),(.int .i64 0),(.int .i64 0),(.int .i64 0),(.int .i64 0),(.int .i64 0),(.int .i64 0),(.bool false),(.bool false),(.int .i64 0),(.int .i64 0),(.int .i64 0),(.int .i64 0),(.int .i64 0),(.int .i64 0),(.bool false),(.bool false),(.int .i64 0),(.int .i64 0),(.int .i64 0),(.int .i64 0),(.int .i64 0),(.int .i64 0),(.bool false),(.bool false),(.int .i64 0),(.int .i64 0),(.int .i64 0),(.int .i64 0),(.int .i64 0),(.int .i64 0),(.bool false),(.bool false),(.int .i64 0),(.int .i64 0),(.int .i64 0),(.int .i64 0),(.int .i64 0),(.int .i64 0),(.bool false),(.bool false),(.int .i64 0),(.int .i64 0),(.int .i64 0),(.int .i64 0),(.int .i64 0),(.int .i64 0),(.bool false),(.bool false),(.int .i64 0),(.int .i64 0),(.int .i64 0),(.int .i64 0),(.int .i64 0),(.int .i64 0),(.bool false),(.bool false),(.int .i64 0),(.int .i64 0),(.int .i64 0),(.int .i64 0),(.int .i64 0),(.int .i64 0),(.bool false),(.bool false),(.int .i64 0),(.int .i64 0),(.int .i64 0),(.int .i64 0),(.int .i64 0),(.int .i64 0),(.bool false),(.bool false),(.int .i64 0),(.int .i64 0),(.int .i64 0),(.int .i64 0),(.int .i64 0),(.int .i64 0),(.bool false),(.bool false),(.int .i64 0),(.int .i64 0),(.int .i64 0),(.int .i64 0),(.int .i64 0),(.int .i64 0),(.bool false),(.bool false),(.int .i64 0),(.int .i64 0),(.int .i64 0),(.int .i64 0),(.int .i64 0),(.int .i64 0)]),[.bool false,.bool false,.int 0,.int 0,.int 0,.int 0,.int 0,.int 0,.bool false,.bool false,.int 0,.int 0,.int 0,.int 0,.int 0,.int 0,.bool false,.bool false,.int 0,.int 0,.int 0,.int 0,.int 0,.int 0,.bool false,.bool false,.int 0,.int 0,.int 0,.int 0,.int 0,.int 0,.bool false,.bool false,.int 0,.int 0,.int 0,.int 0,.int 0,.int 0,.bool false,.bool false,.int 0,.int 0,.int 0,.int 0,.int 0,.int 0,.bool false,.bool false,.int 0,.int 0,.int 0,.int 0,.int 0,.int 0,.bool false,.bool false,.int 0,.int 0,.int 0,.int 0,.int 0,.int 0,.bool false,.bool false,.int 0,.int 0,.int 0,.int 0,.int 0,.int 0,.bool false,.bool false,.int 0,.int 0,.int 0,.int 0,.int 0,.int 0,.bool false,.bool false,.int 0,.int 0,.int 0,.int 0,.int 0,.int 0,.bool false,.bool false,.int 0,.int 0,.int 0,.int 0,.int 0,.int 0,.bool false,.bool false,.int 0,.int 0,.int 0,.int 0,.int 0,.int 0,.bool false,.bool false,.int 0,.int 0,.int 0,.int 0,.int 0,.int 0,.bool false,.bool false,.int 0,.int 0,.int 0,.int 0,.int 0,.int 0,.bool false,.bool false,.int 0,.int 0,.int 0,.int 0,.int 0,.int 0,.bool false,.bool false,.int 0,.int 0,.int 0,.int 0,.int 0,.int 0,.bool false,.bool false,.int 0,.int 0,.int 0,.int 0,.int 0,.int 0,.bool false,.bool false,.int 0,.int 0,.int 0,.int 0,.int 0,.int 0,.bool false,.bool false,.int 0,.int 0,.int 0,.int 0,.int 0,.int 0,.bool false,.bool false,.int 0,.int 0,.int 0,.int 0,.int 0,.int 0]⟩
def jk:Option TI:=some ⟨.slice 304,1,24,(.slice none 0 0),[.nils]⟩
def vk:Option TI:=some ⟨.array 0 16,0,0,(.agg #[]),[]⟩
def tl:List (Option TI):=[none,t0,t3,t3,Kj,t2,t2,t6,t6,t4,t4,t4,none,none,none,t1,t1,t1,t7,t7,Lj,t5,Mj,t0,t0,t1,t0,Nj,t8,t8,Oj,Pj,Qj,t9,t9,ya,ya,ua,ua,none,t0,t0,ba,ba,da,da,t0,t3,none,t0,none,t0,t0,t0,t0,t0,t0,la,la,t0,none,t0,t0,t0,t0,t0,t0,t0,t0,t0,t0,t0,t0,t0,t0,t0,t0,t0,t0,t0,t0,t0,t0,t1,none,t0,Rj,ma,ma,t0,Sj,Tj,na,na,t0,t0,t0,t0,none,t0,t0,t0,t0,t0,t0,t0,t0,t0,t0,t0,t0,t0,t0,t0,t0,t0,t0,pa,pa,t0,t0,t0,t0,t0,t0,t0,t0,t0,t0,t0,t0,sa,sa,t0,Uj,none,t0,t0,t0,t0,t0,t0,none,t0,t0,ta,ta,none,aa,aa,t0,t0,t0,t0,t0,none,t0,xa,xa,none,t0,t0,t0,t0,t1,Vj,t0,Aa,Aa,Ba,Ba,Ca,Ca,none,t0,Da,Da,Wj,Ea,Ea,t0,t0,Fa,Fa,t0,t0,t0,none,t0,t0,t0,t0,t0,t2,Ia,Ia,Ja,Ja,none,t0,t0,t0,t0,t0,Xj,t0,t0,t0,t0,t0,t0,t0,t0,t0,t0,t0,t0,t0,t0,t0,t0,t0,t0,t0,t0,t0,t0,t0,t0,t0,t0,none,t0,t0,t0,t0,t0,t0,t0,Yj,t0,t0,t0,t0,none,t0,none,t0,t0,t1,Ka,Ka,none,t0,t0,t0,t0,t0,t0,t0,La,La,t0,t0,t0,Ma,Ma,Zj,none,t0,t0,t0,t0,t0,none,t0,t0,t0,t0,t0,none,t0,Na,Na,none,t0,t0,t0,t0,t0,t0,t0,none,t0,t0,qk,t0,none,t0,zk,t0,t0,t0,t1,t1,t0,Oa,Oa,t0,t0,t0,t0,jk,t0,none,t0,t0,Pa,Pa,t0,t0,t0,t0,t0,t0,t0,t0,t0,Qa,Qa,vk,Sa,Sa,t2,t2,t0,t1,t5,t5]
def tt (t:Nat):Option TI:=match PB tl t with
 | some x=>x
 | none=>none
theorem yk:xB Tryz.prog tt:=by
 intro t ti h;unfold tt at h;split at h
 ·rename_i x e;subst h;have:=va (P:=Tryz.prog) (l:=tl) (k:=0) (by kernel_rfl) (by kernel_rfl) t ti e;rwa [Nat.zero_add] at this
 ·cases h
theorem uk:Tryz.prog.follows .mixedOrders=true:=by kernel_rfl
end Go.Proofs.YtnkoaepelgbhfaaGreatDoor
