/- The logic of contracts; no conditions. -/
import Derived.Laws.AppendOwn
import Derived.Laws.OwnMore
import Derived.Laws.AppendOwnNone
import Derived.Orders
import Derived.Tactics
import Derived.Laws.Strings2
import Derived.Laws.Build
import Derived.IntWalk
set_option linter.all false
namespace Go.Lg
inductive PV where
 | int (n:Int)
 | bool (b:Bool)
 | nil
 | nils
 | nilfn
 | nilm
 | nilif
 | ptr (cs:List PV)
 | slice (es:List (List PV))
 | agg (cs:List PV)
 | tuple (cs:List PV)
 | iface (t:Nat) (p:PV)
 | fnc (f:Nat)
 | num (k:IntKind) (n:Int)
 | flg (b:Bool)
 | nptr (cs:List PV)
 | str (l:List Nat)
def mark (b:Bool):Value:=.int .i16 (if b then 1 else 0)
inductive V where
 | undef
 | pv (p:PV)
 | loc (n off:Nat)
 | eloc (n ver i off:Nat)
 | arr (n ver len:Nat)
 | map (n:Nat)
 | vsl (es:List (List V))
 | fsl (es:List (List PV))
 | gsl (n ver:Nat) (es:List (List PV))
 | fn (f:Nat) (caps:List V)
 | bfn (f:Nat) (bs:List V)
 | agg (cs:List V)
 | tuple (cs:List V)
abbrev Hp:=Nat→List Value
mutual
def RepP (H:Hp):PV→Value→Prop
 | .int n,v=>v = .int .i64 n
 | .bool b,v=>v = .bool b
 | .nil,v=>v = .pointer none
 | .nils,v=>v = .slice none 0 0
 | .nilfn,v=>v = .nilFunc
 | .nilm,v=>v = .map none
 | .nilif,v=>v = .nilIface
 | .ptr cs,v => ∃ b off,v = .pointer (some ⟨b,off,none⟩)∧RepL H cs ((H b).drop off)
 | .nptr cs,v => ∃ b off,v = .pointer (some ⟨b,off,none⟩)∧RepK H cs ((H b).drop off)
 | .slice es,v => ∃ a cap,v = .slice a es.length cap∧es.length≤cap∧es.length≤maxLen ∧
   (es=[] ∨ ∃ b off,a=some ⟨b,off,none⟩∧RepE H es ((H b).drop off))
 | .agg cs,v => ∃ vs:List Value,v = .agg vs.toArray∧vs.length=cs.length∧RepL H cs vs
 | .tuple cs,v => ∃ vs:List Value,v = .tuple vs.toArray∧vs.length=cs.length∧RepL H cs vs
 | .iface t p,v => ∃ u,v = .iface t u∧RepP H p u
 | .fnc f,v=>v = .func (.func f) #[] #[]
 | .num k n,v=>v = .int k n∧k ≠ .i16∧k ≠ .i8
 | .flg b,v => ∃ c,v = .bool c∧(c=true→b=true)
 | .str l,v=>v = .string ⟨(l.map UInt8.ofNat).toArray⟩ ∧ ∀ b∈l,b<256
def RepL (H:Hp):List PV→List Value→Prop
 | [],_=>True
 | _::_,[]=>False
 | c::cs,v::vs=>RepP H c v∧RepL H cs vs
def RepK (H:Hp):List PV→List Value→Prop
 | [],_=>True
 | _::_,[]=>False
 | .flg b::cs,v::vs=>v=mark b∧RepK H cs vs
 | c::cs,v::vs=>RepP H c v∧RepK H cs vs
def RepE (H:Hp):List (List PV)→List Value→Prop
 | [],_=>True
 | e::es,vs=>RepL H e vs∧RepE H es (vs.drop e.length)
end
structure Env where
 H:Hp
 g:Nat→Value
 ver:Nat→Nat
 sz:Nat→Nat
mutual
def RepV (E:Env):V→Value→Prop
 | .undef,_=>True
 | .pv p,v=>RepP E.H p v
 | .loc n off,v => ∃ b,E.g n = .pointer (some ⟨b,0,none⟩)∧v = .pointer (some ⟨b,off,none⟩)
 | .eloc n ver i off,v=>ver≤E.ver n∧(∃ a:Addr,v = .pointer (some a)) ∧
   (ver=E.ver n→∃ b L cap,E.g n = .slice (some ⟨b,0,none⟩) L cap∧v = .pointer (some ⟨b,i * E.sz n+off,none⟩)∧i<L)
 | .arr n ver len,v=>ver≤E.ver n∧(∃ a l c,v = .slice a l c) ∧
   (ver=E.ver n→∃ a L cap,E.g n = .slice a L cap∧v = .slice a len cap∧len≤L)
 | .map n,v => ∃ b,E.g n = .map (some b)∧v = .map (some b)
 | .gsl n ver es,v=>RepP E.H (.slice es) v∧ver≤E.ver n∧(ver=E.ver n→E.g n=v)
 | .vsl es,v => ∃ a cap,v = .slice a es.length cap∧es.length≤cap∧es.length≤maxLen ∧
   (es=[] ∨ ∃ b off,a=some ⟨b,off,none⟩∧RepVE E es ((E.H b).drop off))
 | .fsl es,v => ∃ a,v = .slice a es.length es.length∧es.length≤maxLen∧(es=[] ∨ ∃ b off,a=some ⟨b,off,none⟩∧RepE E.H es ((E.H b).drop off))
 | .fn f cs,v => ∃ vs:List Value,v = .func (.func f) #[] vs.toArray∧vs.length=cs.length∧RepVL E cs vs
 | .bfn f bs,v => ∃ vs:List Value,v = .func (.func f) vs.toArray #[]∧vs.length=bs.length∧RepVL E bs vs
 | .agg cs,v => ∃ vs:List Value,v = .agg vs.toArray∧vs.length=cs.length∧RepVL E cs vs
 | .tuple cs,v => ∃ vs:List Value,v = .tuple vs.toArray∧vs.length=cs.length∧RepVL E cs vs
def RepVL (E:Env):List V→List Value→Prop
 | [],_=>True
 | _::_,[]=>False
 | c::cs,v::vs=>RepV E c v∧RepVL E cs vs
def RepVE (E:Env):List (List V)→List Value→Prop
 | [],_=>True
 | e::es,vs=>RepVL E e vs∧RepVE E es (vs.drop e.length)
end
mutual
def V.names:V→List Nat
 | .loc n _=>[n]
 | .eloc n _ _ _=>[n]
 | .arr n _ _=>[n]
 | .map n=>[n]
 | .gsl n _ _=>[n]
 | .vsl es=>qQw es
 | .fn _ cs=>qQg cs
 | .bfn _ bs=>qQg bs
 | .agg cs=>qQg cs
 | .tuple cs=>qQg cs
 | _=>[]
def qQg:List V→List Nat
 | []=>[]
 | c::cs=>c.names++qQg cs
def qQw:List (List V)→List Nat
 | []=>[]
 | e::es=>qQg e++qQw es
end
def Hle (H H':Hp):Prop:=∀ b,H b <+: H' b
theorem Hle.refl (H:Hp):Hle H H:=fun _=>List.prefix_rfl
theorem Hle.trans {A B C:Hp} (h:Hle A B) (h':Hle B C):Hle A C:=fun b=>(h b).trans (h' b)
theorem qZf {α:Type} {l m:List α} (h:l <+: m) (n:Nat):l.drop n <+: m.drop n:=by
 obtain⟨t,rfl⟩:=h
 rw [List.drop_append]
 simp
mutual
theorem RepP.mono {H H':Hp} (h:Hle H H'):∀ (p:PV) (v:Value),RepP H p v→RepP H' p v
 | .int _,_,r=>by simpa only [RepP] using r
 | .bool _,_,r=>by simpa only [RepP] using r
 | .nil,_,r=>by simpa only [RepP] using r
 | .nils,_,r=>by simpa only [RepP] using r
 | .nilfn,_,r=>by simpa only [RepP] using r
 | .nilm,_,r=>by simpa only [RepP] using r
 | .nilif,_,r=>by simpa only [RepP] using r
 | .fnc _,_,r=>by simpa only [RepP] using r
 | .num _ _,_,r=>by simpa only [RepP] using r
 | .flg _,_,r=>by simpa only [RepP] using r
 | .str _,_,r=>by simpa only [RepP] using r
 | .ptr cs,v,r=>by
  simp only [RepP] at r ⊢
  obtain⟨b,off,hv,hr⟩:=r
  exact⟨b,off,hv,RepL.mono h cs _ _ (qZf (h b) off) hr⟩
 | .nptr cs,v,r=>by
  simp only [RepP] at r ⊢
  obtain⟨b,off,hv,hr⟩:=r
  exact⟨b,off,hv,RepK.mono h cs _ _ (qZf (h b) off) hr⟩
 | .slice es,v,r=>by
  simp only [RepP] at r ⊢
  obtain⟨a,cap,hv,h1,h2,h3⟩:=r
  refine⟨a,cap,hv,h1,h2,?_⟩
  rcases h3 with h3|⟨b,off,ha,hr⟩
  ·exact .inl h3
  ·exact .inr ⟨b,off,ha,RepE.mono h es _ _ (qZf (h b) off) hr⟩
 | .agg cs,v,r=>by
  simp only [RepP] at r ⊢
  obtain⟨vs,hv,hl,hr⟩:=r
  exact⟨vs,hv,hl,RepL.mono h cs _ _ List.prefix_rfl hr⟩
 | .tuple cs,v,r=>by
  simp only [RepP] at r ⊢
  obtain⟨vs,hv,hl,hr⟩:=r
  exact⟨vs,hv,hl,RepL.mono h cs _ _ List.prefix_rfl hr⟩
 | .iface t p,v,r=>by
  simp only [RepP] at r ⊢
  obtain⟨u,hv,hr⟩:=r
  exact⟨u,hv,RepP.mono h p u hr⟩
theorem RepL.mono {H H':Hp} (h:Hle H H'):∀ (cs:List PV) (vs vs':List Value),vs <+: vs'→RepL H cs vs→RepL H' cs vs'
 | [],_,_,_,_=>by simp only [RepL]
 | c::cs,vs,vs',hp,r=>by
  cases vs with
  | nil=>simp only [RepL] at r
  | cons v vs =>
   obtain⟨t,rfl⟩:=hp
   simp only [RepL,List.cons_append] at r ⊢
   exact⟨RepP.mono h c v r.1,RepL.mono h cs vs _ (List.prefix_append _ _) r.2⟩
theorem RepK.mono {H H':Hp} (h:Hle H H'):∀ (cs:List PV) (vs vs':List Value),vs <+: vs'→RepK H cs vs→RepK H' cs vs'
 | [],_,_,_,_=>by simp only [RepK]
 | c::cs,vs,vs',hp,r=>by
  cases vs with
  | nil=>simp only [RepK] at r
  | cons v vs =>
   obtain⟨t,rfl⟩:=hp
   by_cases hc:∃ b,c = .flg b
   ·obtain⟨b,rfl⟩:=hc
    simp only [RepK,List.cons_append] at r ⊢
    exact⟨r.1,RepK.mono h cs vs _ (List.prefix_append _ _) r.2⟩
   ·have hc:∀ b,c = .flg b→False:=fun b e=>hc ⟨b,e⟩
    rw [RepK.eq_4 _ _ _ _ _ hc] at r
    rw [List.cons_append,RepK.eq_4 _ _ _ _ _ hc]
    exact⟨RepP.mono h c v r.1,RepK.mono h cs vs _ (List.prefix_append _ _) r.2⟩
theorem RepE.mono {H H':Hp} (h:Hle H H'):∀ (es:List (List PV)) (vs vs':List Value),vs <+: vs'→RepE H es vs→RepE H' es vs'
 | [],_,_,_,_=>by simp only [RepE]
 | e::es,vs,vs',hp,r=>by
  simp only [RepE] at r ⊢
  exact⟨RepL.mono h e vs vs' hp r.1,RepE.mono h es _ _ (qZf hp _) r.2⟩
end
theorem RepK.cons {H:Hp} {c:PV} {cs:List PV} {v:Value} {vs:List Value} (h:(RepP H c v ∧ ∀ b,c ≠ .flg b) ∨ ∃ b,c = .flg b∧v=mark b) (h':RepK H cs vs):RepK H (c::cs) (v::vs):=by
 rcases h with ⟨h,hc⟩|⟨b,rfl,rfl⟩
 ·rw [RepK.eq_4 _ _ _ _ _ (fun b e=>hc b e)]
  simp_all
 grind [RepK]
theorem RepK.uncons {H:Hp} {c:PV} {cs:List PV} {v:Value} {vs:List Value} (h:RepK H (c::cs) (v::vs)):(RepP H c v ∨ ∃ b,c = .flg b∧v=mark b)∧RepK H cs vs:=by
 by_cases hc:∃ b,c = .flg b
 ·grind [RepK]
 ·have hc:∀ b,c = .flg b→False:=fun b e=>hc ⟨b,e⟩
  rw [RepK.eq_4 _ _ _ _ _ hc] at h
  simp_all
theorem RepL.len {H:Hp} : ∀ {cs:List PV} {vs:List Value},RepL H cs vs→cs.length≤vs.length
 | [],_,_=>Nat.zero_le _
 | c::cs,[],r=>by grind [RepL]
 | c::cs,v::vs,r=>by
  have:=RepL.len r.2
  simp;omega
theorem RepK.len {H:Hp} : ∀ {cs:List PV} {vs:List Value},RepK H cs vs→cs.length≤vs.length
 | [],_,_=>Nat.zero_le _
 | c::cs,[],r=>by grind [RepK]
 | c::cs,v::vs,r=>by
  have:=RepK.len r.uncons.2
  simp;omega
theorem RepVL.len {E:Env} : ∀ {cs:List V} {vs:List Value},RepVL E cs vs→cs.length≤vs.length
 | [],_,_=>Nat.zero_le _
 | c::cs,[],r=>by grind [RepVL]
 | c::cs,v::vs,r=>by
  have:=RepVL.len r.2
  simp;omega
def EExt (E E':Env) (n:Nat):Prop :=
 E'.sz n=E.sz n∧(E'.g n=E.g n∧E'.ver n=E.ver n∨E.ver n<E'.ver n ∧ ∃ a l c,E.g n = .slice a l c)
theorem EExt.refl (E:Env) (n:Nat):EExt E E n:=⟨rfl,.inl ⟨rfl,rfl⟩⟩
theorem EExt.trans {A B C:Env} {n:Nat} (h:EExt A B n) (h':EExt B C n):EExt A C n:=by
 obtain⟨s,h⟩:=h
 obtain⟨s',h'⟩:=h'
 refine⟨s'.trans s,?_⟩
 rcases h with ⟨g,v⟩|⟨v,e⟩<;>rcases h' with ⟨g',v'⟩|⟨v',e'⟩
 ·simp_all
 ·simp_all
 ·simp_all
 grind
theorem EExt.of_eq {E E':Env} {n:Nat} (hg:E'.g n=E.g n) (hv:E'.ver n=E.ver n) (hs:E'.sz n=E.sz n):EExt E E' n:=⟨hs,.inl ⟨hg,hv⟩⟩
mutual
theorem RepV.mono {E E':Env} (h:Hle E.H E'.H):∀ (x:V) (v:Value),(∀ n∈x.names,EExt E E' n)→RepV E x v→RepV E' x v
 | .undef,_,_,_=>by simp only [RepV]
 | .pv p,v,_,r=>by simp only [RepV] at r ⊢;exact RepP.mono h p v r
 | .loc n off,v,hn,r=>by
  simp only [RepV] at r ⊢
  obtain⟨b,hg,hv⟩:=r
  rcases (hn n (by simp [V.names])).2 with ⟨g,_⟩|⟨_,a,l,c,e⟩
  ·exact⟨b,g.trans hg,hv⟩
  ·rw [hg] at e;cases e
 | .eloc n ver i off,v,hn,r=>by
  simp only [RepV] at r ⊢
  obtain⟨hle,hp,hr⟩:=r
  obtain⟨hs,hx⟩:=hn n (by simp [V.names])
  rcases hx with ⟨g,hv⟩|⟨hv,_⟩
  ·refine⟨by omega,hp,fun e => ?_⟩
   rw [g,hs]
   exact hr (by omega)
  ·exact⟨by omega,hp,fun e=>by omega⟩
 | .arr n ver len,v,hn,r=>by
  simp only [RepV] at r ⊢
  obtain⟨hle,hp,hr⟩:=r
  obtain⟨_,hx⟩:=hn n (by simp [V.names])
  rcases hx with ⟨g,hv⟩|⟨hv,_⟩
  ·refine⟨by omega,hp,fun e => ?_⟩
   rw [g]
   exact hr (by omega)
  ·exact⟨by omega,hp,fun e=>by omega⟩
 | .gsl n ver es,v,hn,r=>by
  simp only [RepV] at r ⊢
  obtain⟨hp,hle,hr⟩:=r
  refine⟨RepP.mono h _ _ hp,?_⟩
  rcases (hn n (by simp [V.names])).2 with ⟨g,hv⟩|⟨hv,_⟩
  ·exact⟨by omega,fun e=>by rw [g];exact hr (by omega)⟩
  ·exact⟨by omega,fun e=>by omega⟩
 | .map n,v,hn,r=>by
  simp only [RepV] at r ⊢
  obtain⟨b,hg,hv⟩:=r
  rcases (hn n (by simp [V.names])).2 with ⟨g,_⟩|⟨_,a,l,c,e⟩
  ·exact⟨b,g.trans hg,hv⟩
  ·rw [hg] at e;cases e
 | .vsl es,v,hn,r=>by
  simp only [RepV] at r ⊢
  obtain⟨a,cap,hv,h1,h2,h3⟩:=r
  refine⟨a,cap,hv,h1,h2,?_⟩
  rcases h3 with h3|⟨b,off,ha,hr⟩
  ·exact .inl h3
  ·exact .inr ⟨b,off,ha,RepVE.mono h es _ _ (qZf (h b) off) (by simpa only [V.names] using hn) hr⟩
 | .fsl es,v,hn,r=>by
  simp only [RepV] at r ⊢
  obtain⟨a,hv,h2,h3⟩:=r
  refine⟨a,hv,h2,?_⟩
  rcases h3 with h3|⟨b,off,ha,hr⟩
  ·exact .inl h3
  ·exact .inr ⟨b,off,ha,RepE.mono h es _ _ (qZf (h b) off) hr⟩
 | .fn f cs,v,hn,r=>by
  simp only [RepV] at r ⊢
  obtain⟨vs,hv,hl,hr⟩:=r
  exact⟨vs,hv,hl,RepVL.mono h cs _ _ List.prefix_rfl (by simpa only [V.names] using hn) hr⟩
 | .bfn f cs,v,hn,r=>by
  simp only [RepV] at r ⊢
  obtain⟨vs,hv,hl,hr⟩:=r
  exact⟨vs,hv,hl,RepVL.mono h cs _ _ List.prefix_rfl (by simpa only [V.names] using hn) hr⟩
 | .agg cs,v,hn,r=>by
  simp only [RepV] at r ⊢
  obtain⟨vs,hv,hl,hr⟩:=r
  exact⟨vs,hv,hl,RepVL.mono h cs _ _ List.prefix_rfl (by simpa only [V.names] using hn) hr⟩
 | .tuple cs,v,hn,r=>by
  simp only [RepV] at r ⊢
  obtain⟨vs,hv,hl,hr⟩:=r
  exact⟨vs,hv,hl,RepVL.mono h cs _ _ List.prefix_rfl (by simpa only [V.names] using hn) hr⟩
theorem RepVL.mono {E E':Env} (h:Hle E.H E'.H):∀ (cs:List V) (vs vs':List Value),vs <+: vs'→(∀ n∈qQg cs,EExt E E' n)→RepVL E cs vs→RepVL E' cs vs'
 | [],_,_,_,_,_=>by simp only [RepVL]
 | c::cs,vs,vs',hp,hn,r=>by
  cases vs with
  | nil=>simp only [RepVL] at r
  | cons v vs =>
   obtain⟨t,rfl⟩:=hp
   simp only [RepVL,List.cons_append] at r ⊢
   exact⟨RepV.mono h c v (fun n hm=>hn n (by simp [qQg,hm])) r.1,RepVL.mono h cs vs _ (List.prefix_append _ _) (fun n hm=>hn n (by simp [qQg,hm])) r.2⟩
theorem RepVE.mono {E E':Env} (h:Hle E.H E'.H):∀ (es:List (List V)) (vs vs':List Value),vs <+: vs'→(∀ n∈qQw es,EExt E E' n)→RepVE E es vs→RepVE E' es vs'
 | [],_,_,_,_,_=>by simp only [RepVE]
 | e::es,vs,vs',hp,hn,r=>by
  simp only [RepVE] at r ⊢
  exact⟨RepVL.mono h e vs vs' hp (fun n hm=>hn n (by simp [qQw,hm])) r.1,RepVE.mono h es _ _ (qZf hp _) (fun n hm=>hn n (by simp [qQw,hm])) r.2⟩
end
inductive SK where
 | int (n:Int)
 | str (l:List Nat)
def SK.kind:SK→Bool
 | .int _=>false
 | .str _=>true
def SK.v:SK→Value
 | .int n => .int .i64 n
 | .str l => .string ⟨(l.map UInt8.ofNat).toArray⟩
def SK.ok:SK→Prop
 | .int _=>True
 | .str l => ∀ b∈l,b<256
def eqL:List Nat→List Nat→Bool
 | [],[]=>true
 | a::x,b::y=>Nat.beq a b && eqL x y
 | _,_=>false
theorem qYa:∀ (x y:List Nat),eqL x y=true↔x=y
 | [],[]=>by simp [eqL]
 | [],_::_=>by simp [eqL]
 | _::_,[]=>by simp [eqL]
 | a::x,b::y=>by simp [eqL,qYa]
def SK.eqB:SK→SK→Bool
 | .int a,.int b=>decide (a=b)
 | .str x,.str y=>eqL x y
 | _,_=>false
theorem SK.eqB_iff (a b:SK):SK.eqB a b=true↔a=b:=by
 cases a<;>cases b<;>simp [SK.eqB,qYa]
def qZm:List (SK × V)→List Nat
 | []=>[]
 | (_,x)::r=>x.names++qZm r
def Coh (D:PV→Prop) (F:PV→PV):Prop:=∀ (H:Hp) (p q:PV) (v:Value),D p→D q→RepP H p v→RepP H q v→F p=F q
inductive Ob where
 | box (cs:List V)
 | arr (ver sz ty:Nat) (es:List (List V))
 | smap (s:Bool) (es:List (SK × V))
 | cache (D:PV→Prop) (F:PV→PV)
 | siter (l:List Nat) (p:Nat)
 | raw (v:Value) (x:Obj)
 | grow (ver sz ty:Nat) (es:List (List PV))
def Ob.gr:Ob→Bool
 | .grow _ _ _ _=>true
 | _=>false
def Ob.names:Ob→List Nat
 | .box cs=>qQg cs
 | .arr _ _ _ es=>qQw es
 | .smap _ es=>qZm es
 | .cache _ _=>[]
 | .siter _ _=>[]
 | .raw _ _=>[]
 | .grow _ _ _ _=>[]
def blk:Value→Option Nat
 | .pointer (some a)=>some a.block
 | .slice (some a) _ _=>some a.block
 | .map (some b)=>some b
 | _=>none
def EntsS (E:Env) (s:Bool):List (SK × V)→List MapEntry→Prop
 | [],[]=>True
 | (k,x)::es,e::ms=>(e.key=k.v∧k.kind=s∧k.ok∧RepV E x e.val)∧EntsS E s es ms
 | _,_=>False
def StampOK (ms:List MapEntry) (ck:Nat):Prop:=(∀ x∈ms,x.born<ck)∧(ms.map (·.born)).Nodup
def qK8:Value:=.int .i8 0
def sn (v:Value):Value:=match v with
 | .int .i8 _=>qK8
 | .int .i16 _=>qK8
 | v=>v
def ObOK (E:Env) (w:World) (n:Nat):Ob→Prop
 | .box cs => ∃ b c T,E.g n = .pointer (some ⟨b,0,none⟩)∧w.heap[b]? = some (.cells c T (0,0))∧c.size=cs.length∧RepVL E cs c.toList∧E.H b=[]
 | .arr ver sz ty es=>E.ver n=ver∧E.sz n=sz∧(∀ e∈es,e.length=sz) ∧
   ∃ xs,w.ownsRow 0 ty sz (E.g n) es.length xs∧RepVE E es xs ∧ ∀ b,(E.g n).ownBlock=some b→E.H b=[]
 | .smap s es => ∃ b ms ck,E.g n = .map (some b)∧w.heap[b]? = some (.map ms ck)∧E.H b=[]∧EntsS E s es ms.toList∧StampOK ms.toList ck
 | .cache D F=>Coh D F ∧ ∃ b es ck,E.g n = .map (some b)∧w.heap[b]? = some (.map es ck)∧E.H b=[] ∧
   ∀ e∈es,∃ p,D p∧RepP E.H p e.key∧RepP E.H (F p) e.val ∧ ∃ x off v,e.key = .pointer (some ⟨x,off,none⟩)∧v∈E.H x ∧ ∀ k n,v ≠ .int k n
 | .siter l p => ∃ b,E.g n = .pointer (some ⟨b,0,none⟩)∧w.heap[b]? = some (.stringIter ⟨(l.map UInt8.ofNat).toArray⟩ p)∧E.H b=[] ∧ ∀ x∈l,x<256
 | .raw v x=>E.g n=v ∧ ∃ b,blk v=some b∧w.heap[b]? = some x∧E.H b=[]
 | .grow ver sz ty es=>E.ver n=ver∧E.sz n=sz∧(∀ e∈es,e.length=sz) ∧
   ∃ xs,w.ownsRow 0 ty sz (E.g n) es.length xs∧RepE E.H es xs ∧ ∀ b,(E.g n).ownBlock=some b→E.H b=xs.map sn
def nf (l:List Value):Prop:=∀ v∈l,∀ b,v≠mark b
def Msk (l m:List Value):Prop:=l.length≤m.length∧(∀ (i:Nat) (v:Value),l[i]? = some v→v≠qK8→(∀ b,v≠mark b)→m[i]? = some v) ∧
 ∀ (i:Nat) (b:Bool),l[i]? = some (mark b)→∃ c,m[i]? = some (.bool c)∧(c=true→b=true)
theorem zQc (b:Bool):mark b≠qK8:=by simp [mark,qK8]
theorem Msk.drop {l m:List Value} (h:Msk l m) (k:Nat):Msk (l.drop k) (m.drop k):=by
 refine⟨by have:=h.1;simp;omega,fun i v hi hv hb => ?_,fun i b hi => ?_⟩
 ·rw [List.getElem?_drop] at hi ⊢
  exact h.2.1 _ v hi hv hb
 ·rw [List.getElem?_drop] at hi ⊢
  exact h.2.2 _ b hi
theorem Msk.tail {x y:Value} {l m:List Value} (h:Msk (x::l) (y::m)):Msk l m:=by simpa using h.drop 1
theorem Msk.take {l m:List Value} (h:Msk l m) (k:Nat):Msk (l.take k) (m.take k):=by
 refine⟨by have:=h.1;simp;omega,fun i v hi hv hb => ?_,fun i b hi => ?_⟩
 ·rw [List.getElem?_take] at hi ⊢
  split at hi
  ·rename_i hk
   rw [if_pos hk]
   exact h.2.1 _ v hi hv hb
  ·cases hi
 ·rw [List.getElem?_take] at hi ⊢
  split at hi
  ·rename_i hk
   rw [if_pos hk]
   exact h.2.2 _ b hi
  ·cases hi
theorem qXw {H:Hp} {p:PV} {v:Value} (h:RepP H p v):v≠qK8:=by
 intro e
 subst e
 cases p<;>simp [RepP,qK8] at h
 grind
theorem qG4 {a b:Bool} (h:mark a=mark b):a=b:=by cases a<;>cases b<;>simp_all [mark]
theorem qXx {H:Hp} {p:PV} {v:Value} (h:RepP H p v) (b:Bool):v≠mark b:=by
 intro e
 subst e
 cases p<;>simp [RepP,mark] at h
 grind
theorem qLw {E:Env} {x:V} (h:RepV E x qK8):x = .undef:=by
 cases x with
 | undef=>rfl
 | pv p=>exact absurd rfl (qXw (p:=p) (by simpa [RepV] using h))
 | gsl n ver es=>grind [RepV,RepP,qK8]
 | _=>simp [RepV,qK8] at h
theorem qLx {E:Env} {x:V} {b:Bool} (h:RepV E x (mark b)):x = .undef:=by
 cases x with
 | undef=>rfl
 | pv p=>exact absurd rfl (qXx (p:=p) (by simpa [RepV] using h) b)
 | gsl n ver es=>grind [RepV,RepP,mark]
 | _=>simp [RepV,mark] at h
theorem RepP.flg_of {H:Hp} {b c:Bool} (h:c=true→b=true):RepP H (.flg b) (.bool c):=by grind [RepP]
theorem Msk.head {v u:Value} {l m:List Value} (h:Msk (v::l) (u::m)) (h1:v≠qK8) (h2:∀ b,v≠mark b):u=v:=by
 have e:=h.2.1 0 v rfl h1 h2
 simp_all
theorem RepL.msk {H:Hp} : ∀ {cs:List PV} {l m:List Value},RepL H cs l→Msk l m→RepL H cs m
 | [],_,_,_,_=>by simp [RepL]
 | c::cs,[],m,r,_=>by grind [RepL]
 | c::cs,v::l,[],_,h=>by have:=h.1;simp_all
 | c::cs,v::l,u::m,r,h=>by
  rw [h.head (qXw r.1) (qXx r.1)]
  exact⟨r.1,RepL.msk r.2 h.tail⟩
theorem RepK.msk {H:Hp} : ∀ {cs:List PV} {l m:List Value},RepK H cs l→Msk l m→RepL H cs m
 | [],_,_,_,_=>by simp [RepL]
 | c::cs,[],m,r,_=>by grind [RepK]
 | c::cs,v::l,[],_,h=>by have:=h.1;simp_all
 | c::cs,v::l,u::m,r,h=>by
  obtain⟨r1,r2⟩:=r.uncons
  refine⟨?_,RepK.msk r2 h.tail⟩
  rcases r1 with r1|⟨b,rfl,rfl⟩
  ·rw [h.head (qXw r1) (qXx r1)]
   exact r1
  ·obtain⟨d,hd,hi⟩:=h.2.2 0 b rfl
   grind [RepP.flg_of]
theorem zWa {v:Value} (h1:∀ n,v ≠ .int .i8 n) (h2:∀ n,v ≠ .int .i16 n):sn v=v:=by
 unfold sn
 split
 ·exact absurd rfl (h1 _)
 ·exact absurd rfl (h2 _)
 ·rfl
theorem zQd (v:Value) (b:Bool):sn v≠mark b:=by
 unfold sn
 split
 ·simp [qK8,mark]
 ·simp [qK8,mark]
 ·rename_i h1 h2;intro e;exact h2 _ (by rw [e];rfl)
theorem zWb {v:Value} (h:sn v≠qK8):sn v=v:=by
 unfold sn at h ⊢
 grind
theorem Msk.sn (l:List Value):Msk (l.map Go.Lg.sn) l:=by
 refine⟨by simp,fun i v hi hv hb => ?_,fun i b hi => ?_⟩
 ·grind [zWb]
 grind [absurd,zQd]
theorem RepP.sn {H:Hp} {p:PV} {v:Value} (h:RepP H p v):Go.Lg.sn v=v:=by
 refine zWa (fun n e => ?_) (fun n e => ?_)<;>subst e<;>cases p<;>simp [RepP] at h<;>first|exact h.2.2 h.1.1.symm|grind
theorem RepV.sn {E:Env} {x:V} {v:Value} (h:RepV E x v):RepV E x (Go.Lg.sn v):=by
 cases x with
 | undef=>simp [RepV]
 | pv p=>simp only [RepV] at h ⊢;rw [h.sn];exact h
 | gsl n ver es=>rw [RepP.sn (by exact h.1)];exact h
 | _ =>
  rw [zWa]<;>first|exact h|(intro n e;subst e;simp [RepV] at h)
theorem RepL.sn {H:Hp} : ∀ {cs:List PV} {l:List Value},RepL H cs l→RepL H cs (l.map Go.Lg.sn)
 | [],_,_=>by simp [RepL]
 | c::cs,[],r=>by simp_all
 | c::cs,v::l,r=>by
  simp only [RepL,List.map_cons] at r ⊢
  rw [r.1.sn]
  exact⟨r.1,r.2.sn⟩
theorem RepE.sn {H:Hp} : ∀ {es:List (List PV)} {l:List Value},RepE H es l→RepE H es (l.map Go.Lg.sn)
 | [],_,_=>by simp [RepE]
 | e::es,l,r=>by
  refine⟨r.1.sn,?_⟩
  rw [← List.map_drop]
  exact r.2.sn
theorem RepVL.sn {E:Env} : ∀ {cs:List V} {l:List Value},RepVL E cs l→RepVL E cs (l.map Go.Lg.sn)
 | [],_,_=>by simp [RepVL]
 | c::cs,[],r=>by simp_all
 | c::cs,v::l,r=>by
  exact⟨r.1.sn,r.2.sn⟩
theorem RepVE.sn {E:Env} : ∀ {es:List (List V)} {l:List Value},RepVE E es l→RepVE E es (l.map Go.Lg.sn)
 | [],_,_=>by simp [RepVE]
 | e::es,l,r=>by
  refine⟨r.1.sn,?_⟩
  rw [← List.map_drop]
  exact r.2.sn
theorem Msk.cell {H:Hp} {l m:List Value} (h:Msk l m) {i:Nat} {v:Value} {p:PV} (hi:l[i]? = some v) (hp:RepP H p v ∨ ∃ b,p = .flg b∧v=mark b):∃ u,m[i]? = some u∧RepP H p u:=by
 rcases hp with hp|⟨b,rfl,rfl⟩
 ·exact⟨v,h.2.1 i v hi (qXw hp) (qXx hp),hp⟩
 ·obtain⟨c,h1,h2⟩:=h.2.2 i b hi
  grind [RepP.flg_of]
open Classical in
theorem RepVL.msk {E:Env} : ∀ {cs:List V} {l m:List Value},RepVL E cs l→Msk l m→RepVL E cs m
 | [],_,_,_,_=>by simp only [RepVL]
 | c::cs,[],m,r,_=>by simp only [RepVL] at r
 | c::cs,v::l,[],_,h=>by have:=h.1;simp at this
 | c::cs,v::l,u::m,r,h=>by
  simp only [RepVL] at r ⊢
  refine⟨?_,RepVL.msk r.2 h.tail⟩
  by_cases hv:v=qK8
  ·subst hv
   rw [qLw r.1]
   simp [RepV]
  ·by_cases hb:∃ b,v=mark b
   ·obtain⟨b,rfl⟩:=hb
    rw [qLx r.1]
    simp only [RepV]
   ·rw [h.head hv (fun b e=>hb ⟨b,e⟩)]
    exact r.1
theorem RepVE.msk {E:Env} : ∀ {es:List (List V)} {l m:List Value},RepVE E es l→Msk l m→RepVE E es m
 | [],_,_,_,_=>by simp [RepVE]
 | e::es,l,m,r,h=>by
  exact⟨r.1.msk h,RepVE.msk r.2 (h.drop _)⟩
def HeapOK (E:Env) (w:World):Prop :=
 ∀ b,E.H b≠[]→∃ c T fr,w.heap[b]? = some (.cells c T fr)∧Msk (E.H b) c.toList∧(fr=(0,0) ∨ ∀ v∈E.H b,∃ k n,v = .int k n∧k ≠ .i16)
theorem HeapOK.lt {E:Env} {w:World} (h:HeapOK E w) {b:Nat} (hb:w.heap.size≤b):E.H b=[]:=by
 by_cases e:E.H b=[]
 ·exact e
 ·obtain⟨c,T,fr,hc,_⟩:=h b e
  have:=(Array.getElem?_eq_some_iff.1 hc).1
  omega
theorem ObOK.blk_lt {E:Env} {w:World} {n:Nat} {o:Ob} (h:ObOK E w n o) {b:Nat} (hb:blk (E.g n)=some b):b<w.heap.size:=by
 cases o with
 | box cs =>
  obtain⟨b',c,T,hg,hc,_⟩:=h
  grind [blk]
 | arr ver sz ty es =>
  obtain⟨_,_,_,xs,ho,_⟩:=h
  rcases ho.2 with ⟨e,_⟩|⟨g,cap,cur,e,_,hc,_⟩
  ·grind [blk]
  grind [blk]
 | smap s es =>
  obtain⟨b',ms,ck,hg,hc,_⟩:=h
  grind [blk]
 | cache D F =>
  obtain⟨_,b',es,ck,hg,hc,_⟩:=h
  grind [blk]
 | siter l p =>
  obtain⟨b',hg,hc,_⟩:=h
  grind [blk]
 | raw v x =>
  obtain⟨hg,b',h1,hc,_⟩:=h
  grind
 | grow ver sz ty es =>
  obtain⟨_,_,_,xs,ho,_⟩:=h
  rcases ho.2 with ⟨e,_⟩|⟨g,cap,cur,e,_,hc,_⟩
  ·grind [blk]
  grind [blk]
theorem ObOK.free {E:Env} {w:World} {n:Nat} {o:Ob} (h:ObOK E w n o) (hg:o.gr=false) {b:Nat} (hb:blk (E.g n)=some b):E.H b=[]:=by
 cases o with
 | box cs =>
  obtain⟨b',c,T,hg,hc,_,_,h0⟩:=h
  grind [blk]
 | arr ver sz ty es =>
  obtain⟨_,_,_,xs,ho,_,hf⟩:=h
  rcases ho.2 with ⟨e,_⟩|⟨g,cap,cur,e,_,hc,_⟩
  ·grind [blk]
  ·refine hf b ?_
   rw [e] at hb ⊢
   simpa [blk,Value.ownBlock] using hb
 | smap s es =>
  obtain⟨b',ms,ck,hg,hc,h0,_⟩:=h
  grind [blk]
 | cache D F =>
  obtain⟨_,b',es,ck,hg,hc,h0,_⟩:=h
  grind [blk]
 | siter l p =>
  obtain⟨b',hg,hc,h0,_⟩:=h
  grind [blk]
 | raw v x =>
  obtain⟨hg,b',h1,hc,h0⟩:=h
  simp_all
 | grow ver sz ty es=>cases hg
theorem ObOK.nf {E:Env} {w:World} {n:Nat} {o:Ob} (h:ObOK E w n o) {b:Nat} (hb:blk (E.g n)=some b):nf (E.H b):=by
 cases hg:o.gr with
 | false=>rw [h.free hg hb];intro v hv;cases hv
 | true =>
  cases o with
  | grow ver sz ty es =>
   obtain⟨_,_,_,xs,ho,_,hf⟩:=h
   rcases ho.2 with ⟨e,_⟩|⟨g,cap,cur,e,_,hc,_⟩
   ·grind [blk]
   ·rw [hf b (by rw [e] at hb ⊢;simpa [blk,Value.ownBlock] using hb)]
    intro v hv q e'
    grind [zQd]
  | _=>cases hg
theorem EntsS.mono {E E':Env} (h:Hle E.H E'.H) {s:Bool} : ∀ {es:List (SK × V)} {ms:List MapEntry},(∀ n∈qZm es,EExt E E' n)→EntsS E s es ms→EntsS E' s es ms
 | [],[],_,_=>trivial
 | (k,x)::es,e::ms,hn,r=>⟨⟨r.1.1,r.1.2.1,r.1.2.2.1,RepV.mono h x _ (fun n hm=>hn n (by simp [qZm,hm])) r.1.2.2.2⟩,EntsS.mono h (fun n hm=>hn n (by simp [qZm,hm])) r.2⟩
 | [],_::_,_,r=>r.elim
 | (_,_)::_,[],_,r=>r.elim
theorem EntsS.length {E:Env} {s:Bool} : ∀ {es:List (SK × V)} {ms:List MapEntry},EntsS E s es ms→es.length=ms.length
 | [],[],_=>rfl
 | (_,_)::_,_::_,r=>by simp [EntsS.length r.2]
 | [],_::_,r=>r.elim
 | (_,_)::_,[],r=>r.elim
theorem ObOK.mono {E E':Env} {w w':World} {n:Nat} {o:Ob} (h:ObOK E w n o) (hH:Hle E.H E'.H)
  (hg:E'.g n=E.g n) (hv:E'.ver n=E.ver n) (hs:E'.sz n=E.sz n) (hn:∀ m∈o.names,EExt E E' m)
  (hb:∀ b,blk (E.g n)=some b→w'.heap[b]? = w.heap[b]? ∧ E'.H b=E.H b):ObOK E' w' n o:=by
 cases o with
 | box cs =>
  obtain⟨b,c,T,hgb,hc,hl,hr,h0⟩:=h
  obtain⟨h1,h2⟩:=hb b (by rw [hgb];rfl)
  exact⟨b,c,T,hg.trans hgb,h1.trans hc,hl,RepVL.mono hH cs _ _ List.prefix_rfl hn hr,h2.trans h0⟩
 | arr ver sz ty es =>
  obtain⟨h1,h2,h3,xs,ho,hr,h0⟩:=h
  have hown:∀ b,(E.g n).ownBlock=some b→blk (E.g n)=some b:=by
   intro b hb'
   revert hb'
   cases E.g n<;>simp [Value.ownBlock,blk]
   grind
  refine⟨hv.trans h1,hs.trans h2,h3,xs,?_,RepVE.mono hH es _ _ List.prefix_rfl hn hr,?_⟩
  ·rw [hg]
   refine⟨ho.1,?_⟩
   rcases ho.2 with e|⟨g,cap,cur,e,hb0,hc,rest⟩
   ·simp_all
   ·refine .inr ⟨g,cap,cur,e,hb0,?_,rest⟩
    rw [(hb g (by rw [e];rfl)).1]
    exact hc
  simp_all
 | smap s es =>
  obtain⟨b,ms,ck,hgb,hc,h1,h2⟩:=h
  obtain⟨h3,h4⟩:=hb b (by rw [hgb];rfl)
  exact⟨b,ms,ck,hg.trans hgb,h3.trans hc,h4.trans h1,h2.1.mono hH hn,h2.2⟩
 | cache D F =>
  obtain⟨h0,b,es,ck,hgb,hc,h1,h2⟩:=h
  obtain⟨h3,h4⟩:=hb b (by rw [hgb];rfl)
  refine⟨h0,b,es,ck,hg.trans hgb,h3.trans hc,h4.trans h1,fun e he => ?_⟩
  obtain⟨p,hp,hk,hv,x,off,v,hx,hm,hn⟩:=h2 e he
  exact⟨p,hp,RepP.mono hH _ _ hk,RepP.mono hH _ _ hv,x,off,v,hx,(hH x).subset hm,hn⟩
 | siter l p =>
  obtain⟨b,hgb,hc,h1,h2⟩:=h
  obtain⟨h3,h4⟩:=hb b (by rw [hgb];rfl)
  exact⟨b,hg.trans hgb,h3.trans hc,h4.trans h1,h2⟩
 | raw v x =>
  obtain⟨hgb,b,h0,hc,h1⟩:=h
  obtain⟨h3,h4⟩:=hb b (by rw [hgb];exact h0)
  exact⟨hg.trans hgb,b,h0,h3.trans hc,h4.trans h1⟩
 | grow ver sz ty es =>
  obtain⟨h1,h2,h3,xs,ho,hr,h0⟩:=h
  have hown:∀ b,(E.g n).ownBlock=some b→blk (E.g n)=some b:=by
   intro b hb'
   revert hb'
   cases E.g n<;>simp [Value.ownBlock,blk]
   grind
  refine⟨hv.trans h1,hs.trans h2,h3,xs,?_,RepE.mono hH es _ _ List.prefix_rfl hr,?_⟩
  ·rw [hg]
   refine⟨ho.1,?_⟩
   rcases ho.2 with e|⟨g,cap,cur,e,hb0,hc,rest⟩
   ·simp_all
   ·refine .inr ⟨g,cap,cur,e,hb0,?_,rest⟩
    rw [(hb g (by rw [e];rfl)).1]
    exact hc
  simp_all
structure St where
 slots:List (Nat × V)
 objs:List (Nat × Ob)
 used:List Nat
def qZi:List (Nat × V)→Nat→V
 | [],_ => .undef
 | (k,x)::r,t=>if k=t then x else qZi r t
def qQc:List (Nat × Ob)→Nat→Option Ob
 | [],_=>none
 | (k,x)::r,t=>if k=t then some x else qQc r t
def qPe:List (Nat × Ob)→Nat→List (Nat × Ob)
 | [],_=>[]
 | (k,x)::r,t=>if k=t then qPe r t else (k,x)::qPe r t
def qKp:List (Nat × Ob)→Nat→Ob→List (Nat × Ob)
 | [],t,o=>[(t,o)]
 | (k,x)::r,t,o=>if k=t then (k,o)::r else (k,x)::qKp r t o
theorem qVp (l:List (Nat × Ob)) (k n:Nat):qQc (qPe l k) n=if n=k then none else qQc l n:=by
 induction l with
 | nil=>simp [qPe,qQc]
 | cons p r ih =>
  grind [qPe,qQc]
theorem qQm (l:List (Nat × Ob)) (k n:Nat) (o:Ob):qQc (qKp l k o) n=if n=k then some o else qQc l n:=by
 induction l with
 | nil =>
  grind [qKp,qQc]
 | cons p r ih =>
  grind [qKp,qQc]
structure Ctx where
 E0:Env
 w0:World
 given:List (Nat × Ob)
 ms:List Nat
 nt:Nat
 defs:List (Nat × List V)
def Ctx.F (C:Ctx) (b:Nat):Prop:=∃ n o,qQc C.given n=some o∧blk (C.E0.g n)=some b
def DefOK (E:Env):List (Nat × List V)→List Deferred→Prop
 | [],ds=>ds=[]
 | (f,caps)::r,ds => ∃ cv rest,ds = { target:=.fn (.func f) (cv:List Value).toArray,args:=#[] } :: rest∧cv.length=caps.length∧RepVL E caps cv∧DefOK E r rest
def qVl:List (Nat × List V)→List Nat
 | []=>[]
 | (_,caps)::r=>qQg caps++qVl r
theorem DefOK.mono {E E':Env} (h:Hle E.H E'.H):∀ (l:List (Nat × List V)) (ds:List Deferred),(∀ n∈qVl l,EExt E E' n)→DefOK E l ds→DefOK E' l ds
 | [],_,_,hd=>hd
 | (f,caps)::r,ds,hn,hd=>by
  obtain⟨cv,rest,h1,h2,h3,h4⟩:=hd
  exact⟨cv,rest,h1,h2,RepVL.mono h caps _ _ List.prefix_rfl (fun n hm=>hn n (by simp [qVl,hm])) h3,DefOK.mono h r rest (fun n hm=>hn n (by simp [qVl,hm])) h4⟩
structure Ga (C:Ctx) (E:Env) (σ:St) (a:Act) (w:World):Prop where
 slots:∀ t,RepV E (qZi σ.slots t) (a.tmps.getD t undef)
 size:a.tmps.size=C.nt
 defers:DefOK E C.defs a.defers ∧ ∀ n∈qVl C.defs,n∈σ.used
 heap:HeapOK E w
 objs:∀ n o,qQc σ.objs n=some o→ObOK E w n o
 apart:∀ n m o o',qQc σ.objs n=some o→qQc σ.objs m=some o'→n≠m→∀ b,blk (E.g n)=some b→blk (E.g m)≠some b
 usedS:∀ t,∀ n∈(qZi σ.slots t).names,n∈σ.used
 usedO:∀ n o,qQc σ.objs n=some o→n∈σ.used ∧ ∀ m∈o.names,m∈σ.used
 usedG:∀ n o,qQc C.given n=some o→n∈σ.used
 grown:C.w0.heap.size≤w.heap.size
 rest:w.os=C.w0.os∧w.tape=C.w0.tape∧w.output=C.w0.output
 same:∀ b,b<C.w0.heap.size→¬ C.F b→(nf (C.E0.H b)→w.heap[b]? = C.w0.heap[b]?)∧E.H b=C.E0.H b
 hle:Hle C.E0.H E.H
 own:∀ n o b,qQc σ.objs n=some o→blk (E.g n)=some b→b<C.w0.heap.size→C.F b
 ext:∀ n o,qQc C.given n=some o→EExt C.E0 E n
 keep:∀ n∈C.ms,n∈σ.used∧qQc σ.objs n=none∧E.g n=C.E0.g n∧E.ver n=C.E0.ver n∧E.sz n=C.E0.sz n
def qAd (dst:Option Nat) (x:V) (l:List (Nat × V)):List (Nat × V) :=
 match dst with
 | some d=>(d,x)::l
 | none=>l
theorem Ga.changeF {C:Ctx} {E E':Env} {σ:St} {a:Act} {w w':World} (h:Ga C E σ a w) (k:Nat) (oNew:Option Ob) (objs':List (Nat × Ob)) (used':List Nat) (dst:Option Nat) (x:V) (v:Value)
  (ho:∀ n,qQc objs' n=if n=k then oNew else qQc σ.objs n)
  (hH:Hle E.H E'.H)
  (hE:∀ n,n≠k→E'.g n=E.g n∧E'.ver n=E.ver n∧E'.sz n=E.sz n)
  (hk:k∈σ.used→EExt E E' k) (hown:k∈σ.used→∃ o,qQc σ.objs k=some o)
  (hsize:w.heap.size≤w'.heap.size)
  (hrest:w'.os=w.os∧w'.tape=w.tape∧w'.output=w.output)
  (hw:∀ b,b<w.heap.size→(∀ o,qQc σ.objs k=some o→blk (E.g k)≠some b)→(nf (E.H b)→w'.heap[b]? = w.heap[b]?)∧E'.H b=E.H b)
  (hheap:HeapOK E' w')
  (hnew:∀ o,oNew=some o→ObOK E' w' k o∧k∈used' ∧ ∀ m∈o.names,m∈used')
  (hblk:∀ o b,oNew=some o→blk (E'.g k)=some b→w.heap.size≤b∨(blk (E.g k)=some b ∧ ∃ o',qQc σ.objs k=some o'))
  (hused:∀ n∈σ.used,n∈used')
  (hx:RepV E' x v) (hxn:∀ n∈x.names,n∈used') (hd:∀ d,dst=some d→d<C.nt) :
  Ga C E' ⟨qAd dst x σ.slots,objs',used'⟩ (a.put dst v) w':=by
 have hee:∀ n∈σ.used,EExt E E' n:=by
  grind [EExt.of_eq]
 have hbk:∀ n o,qQc σ.objs n=some o→n≠k→∀ b,blk (E.g n)=some b→w'.heap[b]? = w.heap[b]? ∧ E'.H b=E.H b:=by
  intro n o hn hne b hb
  have hh:=hw b ((h.objs n o hn).blk_lt hb) (fun o' hk' e=>h.apart n k o o' hn hk' hne b hb e)
  exact⟨hh.1 ((h.objs n o hn).nf hb),hh.2⟩
 have hold:∀ t,RepV E' (qZi σ.slots t) (a.tmps.getD t undef):=fun t =>
  RepV.mono hH _ _ (fun n hn=>hee n (h.usedS t n hn)) (h.slots t)
 constructor
 ·intro t
  cases dst with
  | none=>exact hold t
  | some d =>
   simp only [qAd,qZi,Act.put]
   by_cases e:d=t
   ·subst e
    have hlt:d<a.tmps.size:=by rw [h.size];simp_all
    simp_all
   simp_all
 ·cases dst<;>simp [Act.put,h.size]
 ·refine⟨?_,fun n hn=>hused n (h.defers.2 n hn)⟩
  have:=DefOK.mono hH _ _ (fun n hn=>hee n (h.defers.2 n hn)) h.defers.1
  cases dst<;>simpa [Act.put] using this
 ·exact hheap
 ·intro n o hn
  simp only [ho n] at hn
  split at hn
  ·rename_i e;subst e;exact (hnew o hn).1
  ·rename_i e
   exact (h.objs n o hn).mono hH (hE n e).1 (hE n e).2.1 (hE n e).2.2 (fun m hm=>hee m ((h.usedO n o hn).2 m hm)) (hbk n o hn e)
 ·have key:∀ n o,oNew=some o→n≠k→∀ o',qQc σ.objs n=some o'→∀ b,blk (E'.g k)=some b→blk (E'.g n)≠some b:=by
   intro n o hn hne o' hn' b hb hb'
   rw [(hE n hne).1] at hb'
   rcases hblk o b hn hb with hlt|⟨hb0,o'',hk'⟩
   ·have:=(h.objs n o' hn').blk_lt hb';omega
   ·exact h.apart n k o' o'' hn' hk' hne b hb' hb0
  intro n m o o' hn hm hne b hb hb'
  simp only [ho n] at hn
  simp only [ho m] at hm
  split at hn
  ·rename_i e;subst e
   have hmk:m≠n:=fun e=>hne e.symm
   simp only [hmk,if_false] at hm
   exact key m o hn hmk o' hm b hb hb'
  ·rename_i e
   split at hm
   ·rename_i e';subst e'
    exact key n o' hm e o hn b hb' hb
   ·rename_i e'
    rw [(hE n e).1] at hb
    rw [(hE m e').1] at hb'
    exact h.apart n m o o' hn hm hne b hb hb'
 ·intro t n hn
  cases dst with
  | none=>exact hused n (h.usedS t n hn)
  | some d =>
   simp only [qAd,qZi] at hn
   split at hn
   ·exact hxn n hn
   ·exact hused n (h.usedS t n hn)
 ·intro n o hn
  simp only [ho n] at hn
  split at hn
  ·rename_i e;subst e;exact (hnew o hn).2
  ·exact⟨hused n (h.usedO n o hn).1,fun m hm=>hused m ((h.usedO n o hn).2 m hm)⟩
 ·exact fun n o hn=>hused n (h.usedG n o hn)
 ·exact Nat.le_trans h.grown hsize
 ·exact⟨hrest.1.trans h.rest.1,hrest.2.1.trans h.rest.2.1,hrest.2.2.trans h.rest.2.2⟩
 ·intro b hb hF
  obtain⟨h1,h2⟩:=h.same b hb hF
  obtain⟨h3,h4⟩:=hw b (Nat.lt_of_lt_of_le hb h.grown) (fun o hk' e=>hF (h.own k o b hk' e hb))
  exact⟨fun hn=>(h3 (by rw [h2];exact hn)).trans (h1 hn),h4.trans h2⟩
 ·exact h.hle.trans hH
 ·intro n o b hn hb hlt
  simp only [ho n] at hn
  split at hn
  ·rename_i e;subst e
   rcases hblk o b hn hb with hge|⟨hb0,o',hk'⟩
   ·have:=h.grown;omega
   ·exact h.own n o' b hk' hb0 hlt
  ·rename_i e
   rw [(hE n e).1] at hb
   exact h.own n o b hn hb hlt
 ·intro n o hn
  exact (h.ext n o hn).trans (hee n (h.usedG n o hn))
 ·intro n hn
  obtain⟨h1,h2,h3,h4,h5⟩:=h.keep n hn
  have hne:n≠k:=by
   intro e
   subst e
   obtain⟨o,ho'⟩:=hown h1
   rw [h2] at ho';cases ho'
  refine⟨hused n h1,?_,(hE n hne).1.trans h3,(hE n hne).2.1.trans h4,(hE n hne).2.2.trans h5⟩
  simp only [ho n,hne,if_false]
  exact h2
theorem Ga.change {C:Ctx} {E E':Env} {σ:St} {a:Act} {w w':World} (h:Ga C E σ a w) (k:Nat) (oNew:Option Ob) (objs':List (Nat × Ob)) (used':List Nat) (dst:Option Nat) (x:V) (v:Value)
  (ho:∀ n,qQc objs' n=if n=k then oNew else qQc σ.objs n)
  (hH:Hle E.H E'.H)
  (hE:∀ n,n≠k→E'.g n=E.g n∧E'.ver n=E.ver n∧E'.sz n=E.sz n)
  (hk:k∈σ.used→EExt E E' k) (hown:k∈σ.used→∃ o,qQc σ.objs k=some o)
  (hsize:w.heap.size≤w'.heap.size)
  (hrest:w'.os=w.os∧w'.tape=w.tape∧w'.output=w.output)
  (hw:∀ b,b<w.heap.size→(∀ o,qQc σ.objs k=some o→blk (E.g k)≠some b)→w'.heap[b]? = w.heap[b]? ∧ E'.H b=E.H b)
  (hheap:HeapOK E' w')
  (hnew:∀ o,oNew=some o→ObOK E' w' k o∧k∈used' ∧ ∀ m∈o.names,m∈used')
  (hblk:∀ o b,oNew=some o→blk (E'.g k)=some b→w.heap.size≤b∨(blk (E.g k)=some b ∧ ∃ o',qQc σ.objs k=some o'))
  (hused:∀ n∈σ.used,n∈used')
  (hx:RepV E' x v) (hxn:∀ n∈x.names,n∈used') (hd:∀ d,dst=some d→d<C.nt) :
  Ga C E' ⟨qAd dst x σ.slots,objs',used'⟩ (a.put dst v) w' :=
 Ga.changeF h k oNew objs' used' dst x v ho hH hE hk hown hsize hrest (fun b h1 h2=>⟨fun _=>(hw b h1 h2).1,(hw b h1 h2).2⟩) hheap hnew hblk hused hx hxn hd
theorem qDm (l:List Nat):∃ k,k ∉ l:=by
 have key:∃ m,∀ n∈l,n<m:=by
  induction l with
  | nil=>simp
  | cons x l ih =>
   obtain⟨m,hm⟩:=ih
   refine⟨max (x+1) m,fun n hn => ?_⟩
   grind
 obtain⟨m,hm⟩:=key
 exact⟨m,fun h=>absurd (hm m h) (Nat.lt_irrefl _)⟩
theorem Ga.pureF {C:Ctx} {E:Env} {σ:St} {a:Act} {w w':World} (h:Ga C E σ a w) (H':Hp) (dst:Option Nat) (x:V) (v:Value)
  (hH:Hle E.H H') (hsize:w.heap.size≤w'.heap.size)
  (hrest:w'.os=w.os∧w'.tape=w.tape∧w'.output=w.output)
  (hw:∀ b,b<w.heap.size→(nf (E.H b)→w'.heap[b]? = w.heap[b]?)∧H' b=E.H b)
  (hheap:HeapOK { E with H:=H' } w')
  (hx:RepV { E with H:=H' } x v) (hxn:∀ n∈x.names,n∈σ.used) (hd:∀ d,dst=some d→d<C.nt) :
  Ga C { E with H:=H' } ⟨qAd dst x σ.slots,σ.objs,σ.used⟩ (a.put dst v) w':=by
 -- a name that is no object
 have hee:∀ n,EExt E { E with H:=H' } n:=fun n=>EExt.of_eq rfl rfl rfl
 by_cases hk:∃ k o,qQc σ.objs k=some o
 ·obtain⟨k,o,hk⟩:=hk
  refine h.changeF (E':={ E with H:=H' }) k (some o) σ.objs σ.used dst x v ?_ hH (fun _ _=>⟨rfl,rfl,rfl⟩) (fun _=>hee k) (fun _=>⟨o,hk⟩) hsize hrest (fun b hb _=>hw b hb) hheap ?_ ?_ (fun _ h=>h) hx hxn hd
  ·simp_all
  ·intro o' e
   cases e
   exact⟨(h.objs k o hk).mono hH rfl rfl rfl (fun m _=>hee m) (fun b hb=>⟨(hw b ((h.objs k o hk).blk_lt hb)).1 ((h.objs k o hk).nf hb),(hw b ((h.objs k o hk).blk_lt hb)).2⟩),(h.usedO k o hk)⟩
  simp_all
 ·have hnone:∀ k,qQc σ.objs k=none:=by
   intro k
   cases e:qQc σ.objs k with
   | none=>rfl
   | some o=>simp_all
  obtain⟨k,hk'⟩:=qDm σ.used
  refine h.changeF (E':={ E with H:=H' }) k none σ.objs σ.used dst x v ?_ hH (fun _ _=>⟨rfl,rfl,rfl⟩) (fun _=>hee k) (fun e=>absurd e hk') hsize hrest (fun b hb _=>hw b hb) hheap ?_ ?_ (fun _ h=>h) hx hxn hd
  ·simp_all
  ·simp
  simp
theorem Ga.pure {C:Ctx} {E:Env} {σ:St} {a:Act} {w w':World} (h:Ga C E σ a w) (H':Hp) (dst:Option Nat) (x:V) (v:Value)
  (hH:Hle E.H H') (hsize:w.heap.size≤w'.heap.size)
  (hrest:w'.os=w.os∧w'.tape=w.tape∧w'.output=w.output)
  (hw:∀ b,b<w.heap.size→w'.heap[b]? = w.heap[b]? ∧ H' b=E.H b)
  (hheap:HeapOK { E with H:=H' } w')
  (hx:RepV { E with H:=H' } x v) (hxn:∀ n∈x.names,n∈σ.used) (hd:∀ d,dst=some d→d<C.nt) :
  Ga C { E with H:=H' } ⟨qAd dst x σ.slots,σ.objs,σ.used⟩ (a.put dst v) w' :=
 h.pureF H' dst x v hH hsize hrest (fun b hb=>⟨fun _=>(hw b hb).1,(hw b hb).2⟩) hheap hx hxn hd
inductive TK where
 | other|bool|pointer|func
 | struct (fs:List (Nat × Nat)) (pl:List Nat)
 | slice (e:Nat)
 | array (n e:Nat)
 | smap (k v:Nat) (s:Bool)
 | map (k v:Nat)
 | str
 | int
 | iface
 | num (k:IntKind)
def TK.isIface:TK→Bool
 | .iface=>true
 | _=>false
structure TI where
 k:TK
 size:Nat
 bytes:Nat
 zero:Value
 zc:List PV
def qYb (P:Program) (f:List Field):List Nat→Bool
 | []=>true
 | i::is=>(bif Nat.blt i 1000 then (match f[i]? with
  | some x=>match P.underlying x.type with
   | some (.struct _)=>false
   | some (.array _ _)=>false
   | some _=>true
   | none=>false
  | none=>false) else (match f[i-1000]? with
  | some x=>match P.underlying x.type with
   | some (.struct _)=>true
   | some (.array _ _)=>true
   | _=>false
  | none=>false)) && qYb P f is
def qK9 (P:Program) (d:TypeDesc):TK→Prop
 | .other=>match d with | .struct _=>False | .array _ _=>False|_=>True
 | .bool=>d = .bool
 | .pointer => ∃ e,d = .pointer e
 | .func => ∃ p r v,d = .func p r v
 | .struct fs pl => ∃ f,d = .struct f∧f.toList.map (fun x=>(x.offset,(P.info? x.type).map (·.size)))=fs.map (fun p=>(p.1,some p.2))∧qYb P f.toList pl=true
 | .slice e=>d = .slice e
 | .array n e=>d = .array n e
 | .smap k v s=>d = .map k v∧P.underlying k=some (match s with|true => .string|false => .int .i64)
 | .map k v=>d = .map k v ∧ ∃ e,P.underlying k=some (.pointer e)∧(P.info? e).map (fun i=>decide (i.size=0))=some false
 | .str=>d = .string
 | .int=>d = .int .i64
 | .iface => ∃ ms,d = .interface ms
 | .num k=>d = .int k∧k ≠ .i16∧k ≠ .i8
structure TIOK (P:Program) (t:Nat) (ti:TI):Prop where
 info:∃ i,P.info? t=some i∧i.size=ti.size∧i.bytes=ti.bytes∧i.zero=some ti.zero
 desc:∃ d,P.underlying t=some d∧qK9 P d ti.k
 zlen:ti.zero.cells.size=ti.size
 zcells:RepL (fun _=>[]) ti.zc ti.zero.cells.toList
 zc:ti.zc.length=ti.size
 conc:ti.k.isIface=true∨P.concrete t=true
def TOK (P:Program) (T:Nat→Option TI):Prop:=∀ t ti,T t=some ti→TIOK P t ti
def TI.isAgg (ti:TI):Bool:=match ti.k with | .struct _ _=>true | .array _ _=>true|_=>false
theorem qG5 {P:Program} {e:Nat} (h:(P.info? e).map (fun i=>decide (i.size=0))=some false):∃ i,P.info? e=some i∧i.size≠0:=by
 cases hi:P.info? e with
 | none=>rw [hi] at h;cases h
 | some i=>rw [hi] at h;exact⟨i,rfl,by simpa using h⟩
inductive qXa where
 | none
 | box (n:Nat)
 | arr (n sz ty:Nat)
 | smap (n:Nat) (s:Bool)
 | cache (n:Nat) (D:PV→Prop) (F:PV→PV)
 | siter (n:Nat)
 | keep
 | grow (n sz ty:Nat)
structure R where
 cond:Prop
 fact:Prop
 out:V
 wr:Option (Nat × Ob)
 new:Bool
def R.of (x:V):R:=⟨True,True,x,.none,false⟩
def R.ofIf (c:Prop) (x:V):R:=⟨c,True,x,.none,false⟩
def qYc (b:ByteArray):List Nat:=b.data.toList.map UInt8.toNat
theorem qWs (b:ByteArray):(⟨((qYc b).map UInt8.ofNat).toArray⟩:ByteArray)=b:=by
 cases b with
 | mk d =>
  simp only [qYc,List.map_map]
  have:(UInt8.ofNat ∘ UInt8.toNat)=id:=by funext x;simp
  rw [this]
  simp
theorem qKq (b:ByteArray):∀ x∈qYc b,x<256:=by
 intro x hx
 obtain⟨y,_,rfl⟩:=List.mem_map.1 hx
 exact y.toNat_lt
def cst:Value→V
 | .int .i64 n => .pv (.int n)
 | .bool b => .pv (.bool b)
 | .pointer none => .pv .nil
 | .slice none 0 0 => .pv .nils
 | .nilFunc => .pv .nilfn
 | .nilIface => .pv .nilif
 | .int .u32 n => .pv (.num .u32 n)
 | .int .u8 n => .pv (.num .u8 n)
 | .int .i32 n => .pv (.num .i32 n)
 | .string b => .pv (.str (qYc b))
 | _ => .undef
def qLy:PV→Option (List PV)
 | .agg cs=>some cs
 | .tuple _=>none
 | p=>some [p]
def qJz:V→Option (List V)
 | .pv (.agg cs)=>some (cs.map .pv)
 | .pv (.tuple _)=>none
 | .agg cs=>some cs
 | .tuple _=>none
 | .undef=>none
 | x=>some [x]
def V.one:V→Bool
 | .pv (.agg _)=>false
 | .pv (.tuple _)=>false
 | .agg _=>false
 | .tuple _=>false
 | .undef=>false
 | _=>true
def V.un:V→Option PV
 | .pv p=>some p
 | _=>none
def unL:List V→Option (List PV)
 | []=>some []
 | c::cs=>match c.un,unL cs with
  | some p,some ps=>some (p::ps)
  | _,_=>none
def unE:List (List V)→Option (List (List PV))
 | []=>some []
 | e::es=>match unL e,unE es with
  | some p,some ps=>some (p::ps)
  | _,_=>none
def pvL (cs:List PV):List V:=cs.map .pv
def pvE (es:List (List PV)):List (List V):=es.map pvL
theorem qLz (cs:List PV):unL (pvL cs)=some cs:=by
 induction cs with
 | nil=>rfl
 | cons c cs ih=>grind [pvL,unL,V.un]
theorem qVq (es:List (List PV)):unE (pvE es)=some es:=by
 induction es with
 | nil=>rfl
 | cons e es ih=>grind [pvE,unE,qLz]
def qXm (cs:List V):V:=match unL cs with
 | some ps => .pv (.agg ps)
 | none => .agg cs
def rdV (agg:Bool) (n:Nat) (cs:List V):Option V :=
 if agg then (if n≤cs.length then some (qXm (cs.take n)) else none)
 else match cs with
  | c::_=>some c
  | []=>none
def rdP (agg:Bool) (n:Nat) (cs:List PV):Option R :=
 if agg then some ⟨n≤cs.length,True,.pv (.agg (cs.take n)),.none,false⟩
 else match cs with
  | c::_=>some (R.of (.pv c))
  | []=>none
def qDn (cs:List V) (off:Nat) (ys:List V):List V:=cs.take off++ys++cs.drop (off+ys.length)
def qXn (fs:List (Nat × Nat)) (cells:List V):List (Nat × V)→Option (List V)
 | []=>some cells
 | (i,x)::rest=>match fs[i]?,qJz x with
  | some (off,size),some ys=>if ys.length=size∧off+size≤cells.length then qXn fs (qDn cells off ys) rest else none
  | _,_=>none
def qVr (s:Nat):Nat→Nat→List (Nat × Nat)
 | 0,_=>[]
 | n+1,k=>(k * s,s)::qVr s n (k+1)
theorem qFi (s:Nat):∀ (n k i:Nat) (p:Nat × Nat),(qVr s n k)[i]? = some p→p=((k+i) * s,s)
 := by intro x;induction x<;>grind [qVr]
def qZu:Nat→List (Nat × V)→Option (List (List V))
 | _,[]=>some []
 | k,(i,x)::rest=>if i=k then
   match qJz x,qZu (k+1) rest with
   | some cs,some es=>some (cs::es)
   | _,_=>none
  else none
def qKr (es:List (List V)):V:=match unE es with
 | some ps => .pv (.slice ps)
 | none => .vsl es
def inI (x:Int):Prop:=-9223372036854775808≤x∧x≤9223372036854775807
def qZr (b:Bool):Option R:=some (R.of (.pv (.bool b)))
def qAt (k:TK) (x y:V) (yo:Operand):Option Bool :=
 match k,x,y with
 | .bool,.pv (.bool a),.pv (.bool b)=>some (a == b)
 | .pointer,.pv .nil,.pv .nil=>some true
 | .pointer,.pv (.ptr _),.pv .nil=>some false
 | .pointer,.pv (.nptr _),.pv .nil=>some false
 | .pointer,.loc _ _,.pv .nil=>some false
 | .func,.pv .nilfn,.pv .nilfn=>some true
 | .func,.fn _ _,.pv .nilfn=>some false
 | .func,.bfn _ _,.pv .nilfn=>some false
 | .iface,.pv (.iface _ _),.pv .nilif=>some false
 | .iface,.pv .nilif,.pv (.iface _ _)=>some false
 | .iface,.pv .nilif,_=>match yo with
  | .const .nilIface=>some true
  | _=>none
 | .slice _,.pv .nils,_=>match yo with
  | .const (.slice none 0 0)=>some true
  | _=>none
 | .slice _,.pv (.slice (_::_)),_=>match yo with
  | .const (.slice none 0 0)=>some false
  | _=>none
 | _,_,_=>none
def qBk (op:BinOp) (a b:Int):Option R :=
 match op with
 | .add=>some (R.ofIf (inI (a+b)) (.pv (.int (a+b))))
 | .sub=>some (R.ofIf (inI (a-b)) (.pv (.int (a-b))))
 | .mul=>some (R.ofIf (inI (a * b)) (.pv (.int (a * b))))
 | .rem=>some (R.ofIf (b≠0) (.pv (.int (a.tmod b))))
 | .lss=>qZr (decide (a<b))
 | .leq=>qZr (decide (a≤b))
 | .gtr=>qZr (decide (b<a))
 | .geq=>qZr (decide (b≤a))
 | .eql=>qZr (decide (a=b))
 | .neq=>qZr (!decide (a=b))
 | _=>none
def qQj (op:BinOp) (k:IntKind) (x y:Int):Int :=
 let a:=BitVec.ofInt k.bits x
 let b:=BitVec.ofInt k.bits y
 match op with
 | .and=>k.wrap (a &&& b).toNat
 | .or=>k.wrap (a ||| b).toNat
 | .andNot=>k.wrap (a &&& ~~~b).toNat
 | _=>0
def qBl (op:BinOp) (k:IntKind) (a b:Int):Option R :=
 match op with
 | .add=>some (R.of (.pv (.num k (k.wrap (a+b)))))
 | .sub=>some (R.of (.pv (.num k (k.wrap (a-b)))))
 | .and=>some (R.of (.pv (.num k (qQj .and k a b))))
 | .or=>some (R.of (.pv (.num k (qQj .or k a b))))
 | .andNot=>some (R.of (.pv (.num k (qQj .andNot k a b))))
 | .lss=>qZr (decide (a<b))
 | .leq=>qZr (decide (a≤b))
 | .gtr=>qZr (decide (b<a))
 | .geq=>qZr (decide (b≤a))
 | .eql=>qZr (decide (a=b))
 | .neq=>qZr (!decide (a=b))
 | _=>none
def qW3 (op:BinOp) (k:IntKind) (a n:Int):Option R :=
 match op with
 | .shl=>some (R.ofIf (0≤n) (.pv (.num k (k.wrap (a * 2 ^ (min n.toNat k.bits))))))
 | .shr=>some (R.ofIf (0≤n) (.pv (.num k (a.fdiv (2 ^ (min n.toNat k.bits))))))
 | _=>none
def qG6 (op:BinOp) (a b:List Nat):Option R:=match op with
 | .eql=>qZr (eqL a b)
 | .neq=>qZr (!eqL a b)
 | _=>none
theorem qAu (l:List Nat) (hl:∀ b∈l,b<256):(l.map UInt8.ofNat).map UInt8.toNat=l:=by
 rw [List.map_map]
 conv=>rhs;rw [← List.map_id l]
 refine List.map_congr_left fun b hb => ?_
 simp_all
theorem qDo {x y:List Nat} (hx:∀ b∈x,b<256) (hy:∀ b∈y,b<256):(x.map UInt8.ofNat == y.map UInt8.ofNat)=eqL x y:=by
 by_cases e:x=y
 ·subst e
  rw [(qYa x x).2 rfl]
  simp
 ·have h1:eqL x y=false:=by
   cases h:eqL x y with
   | false=>rfl
   | true=>grind [absurd,qYa]
  rw [h1]
  refine beq_eq_false_iff_ne.2 fun h=>e ?_
  rw [← qAu x hx,h,qAu y hy]
def qKs (k:TK) (op:BinOp) (x y:V) (yo:Operand):Option R :=
 match x,y with
 | .pv (.int a),.pv (.int b)=>qBk op a b
 | .pv (.num k a),.pv (.num k' b)=>if k=k' then qBl op k a b else none
 | .pv (.num k a),.pv (.int n)=>qW3 op k a n
 | .pv (.str a),.pv (.str b)=>qG6 op a b
 | x,y=>match op,qAt k x y yo with
  | .eql,some b=>qZr b
  | .neq,some b=>qZr (!b)
  | _,_=>none
def qVs (x:V) (off:Nat):Option V :=
 match x with
 | .pv (.ptr cs)=>some (.pv (.ptr (cs.drop off)))
 | .pv (.nptr cs)=>some (.pv (.nptr (cs.drop off)))
 | .loc n o=>some (.loc n (o+off))
 | .eloc n ver i o=>some (.eloc n ver i (o+off))
 | _=>none
def qJ7 (ti:TI) (ob:Nat→Option Ob) (x:V):Option R :=
 match x with
 | .pv (.ptr cs)=>rdP ti.isAgg ti.size cs
 | .pv (.nptr cs)=>rdP ti.isAgg ti.size cs
 | .loc n off=>match ob n with
  | some (.box cs)=>(rdV ti.isAgg ti.size (cs.drop off)).map R.of
  | _=>none
 | .eloc n ver i off=>match ob n with
  | some (.arr ver' _ _ es)=>match es[i]? with
   | some e=>(rdV ti.isAgg ti.size (e.drop off)).map (R.ofIf (ver=ver'))
   | none=>none
  | _=>none
 | _=>none
def qZ9 (ti:TI) (ob:Nat→Option Ob) (x y:V):Option R :=
 match qJz y with
 | none=>none
 | some ys=>match x with
  | .loc n off=>match ob n with
   | some (.box cs)=>some ⟨ys.length=ti.size∧off+ys.length≤cs.length∧ys.all V.one=true,True,.undef,some (n,.box (qDn cs off ys)),false⟩
   | _=>none
  | .pv (.nptr (.flg p::_))=>match y with
   | .pv (.bool b)=>some ⟨ti.size=1∧(b=true→p=true),True,.undef,none,false⟩
   | _=>none
  | .eloc n ver i off=>match ob n with
   | some (.arr ver' sz ty es)=>some ⟨ver=ver'∧i<es.length∧ys.length=ti.size∧off+ys.length≤sz∧ys.all V.one=true,True,.undef,some (n,.arr ver' sz ty (es.set i (qDn (es.getD i []) off ys))),false⟩
   | _=>none
  | _=>none
def qJa (T:Nat→Option TI) (ob:Nat→Option Ob) (t:Nat) (x i:V):Option R :=
 match i with
 | .pv (.int k)=>match T t with
  | some ⟨.slice e,_,_,_,_⟩=>match T e with
   | some te=>match x with
    | .pv (.slice es)=>some (R.ofIf (0≤k∧k<es.length ∧ ∀ y∈es,y.length=te.size) (.pv (.ptr (es.getD k.toNat []))))
    | .arr n ver len=>match ob n with
     | some (.arr ver' sz _ es)=>some (R.ofIf (ver=ver'∧0≤k∧k<len∧sz=te.size∧len≤es.length) (.eloc n ver k.toNat 0))
     | _=>none
    | _=>none
   | none=>none
  | some ⟨.array m e,_,_,_,_⟩=>match T e with
   | some te=>(qVs x (k.toNat * te.size)).map (R.ofIf (0≤k∧k<m))
   | none=>none
  | _=>none
 | _=>none
def qWt (ob:Nat→Option Ob) (x:V):Option R :=
 match x with
 | .pv (.slice es)=>some ⟨True,es.length≤maxLen,.pv (.int es.length),.none,false⟩
 | .pv .nils=>some (R.of (.pv (.int 0)))
 | .gsl _ _ es=>some ⟨True,es.length≤maxLen,.pv (.int es.length),.none,false⟩
 | .arr n ver len=>match ob n with
  | some (.arr ver' _ _ es)=>some ⟨ver=ver',es.length≤maxLen,.pv (.int len),.none,false⟩
  | _=>none
 | _=>none
def qYd (y:V):Option (List (List V)) :=
 match y with
 | .pv (.slice es)=>some (pvE es)
 | .pv .nils=>some []
 | .vsl es=>some es
 | _=>none
def qQ4 (e:Nat) (te:TI) (ob:Nat→Option Ob) (note:qXa) (xo:Operand) (x y:V):Option R :=
 match x with
 | .arr n ver len=>match ob n,qYd y with
  | some (.arr ver' sz ty es),some ys=>some ⟨ver=ver'∧len≤es.length∧ty=e∧sz=te.size∧0<sz∧(∀ y∈ys,y.length=sz)∧(∀ y∈ys,y.all V.one=true)∧len+ys.length≤maxLen∧(len+ys.length) * te.bytes≤140737488355328,True,
    .arr n (ver+1) (len+ys.length),some (n,.arr (ver+1) sz ty (es.take len++ys)),false⟩
  | _,_=>none
 | .gsl n ver _=>match ob n with
  | some (.grow ver' sz ty es)=>match y with
   | .pv (.slice ys)=>some ⟨(ver=ver'∧ty=e∧sz=te.size∧0<sz)∧(∀ y∈ys,y.length=sz)∧(∀ y∈pvE ys,y.all V.one=true)∧es.length+ys.length≤maxLen∧(es.length+ys.length) * te.bytes≤140737488355328,True,
     .gsl n (ver+1) (es++ys),some (n,.grow (ver+1) sz ty (es++ys)),false⟩
   | _=>none
  | _=>none
 | .fsl es=>match y with
  | .pv (.slice ys)=>some ⟨(∀ e∈es,e.length=te.size)∧(∀ y∈ys,y.length=te.size)∧0<te.size∧ys≠[]∧es.length+ys.length≤maxLen∧(es.length+ys.length) * te.bytes≤140737488355328,True,.pv (.slice (es++ys)),.none,false⟩
  | _=>none
 | .pv .nils=>match y,note with
   | .pv (.slice es),.none=>some ⟨(∀ e∈es,e.length=te.size)∧0<te.size∧es.length * te.bytes≤140737488355328,True,.pv (.slice es),.none,false⟩
   | y,.arr n sz ty=>match qYd y with
    | some ys=>some ⟨ty=e∧sz=te.size∧0<sz∧(∀ y∈ys,y.length=sz)∧(∀ y∈ys,y.all V.one=true)∧ys.length≤maxLen∧ys.length * te.bytes≤140737488355328,True,
     .arr n 1 ys.length,some (n,.arr 1 sz ty ys),true⟩
    | none=>none
   | .pv (.slice ys),.grow n sz ty=>some ⟨(ty=e∧sz=te.size∧0<sz∧ys≠[])∧(∀ y∈ys,y.length=sz)∧(∀ y∈pvE ys,y.all V.one=true)∧ys.length≤maxLen∧ys.length * te.bytes≤140737488355328,True,
     .gsl n 1 ys,some (n,.grow 1 sz ty ys),true⟩
   | _,_=>none
 | _=>none
theorem qL0 {α:Type} {c:Bool} {a:Option α} {x:α} (h:(bif c then a else none)=some x):c=true∧a=some x:=by
 grind
def qBm:Option V→Bool
 | none=>true
 | some (.pv (.int 0))=>true
 | _=>false
def qJb (te:TI) (ob:Nat→Option Ob) (x:V) (lo hi mx:Option V):Option R :=
 match x,lo,hi,mx with
 | .pv (.slice es),some (.pv (.int l)),none,none=>some (R.ofIf (0≤l∧l≤es.length ∧ ∀ y∈es,y.length=te.size) (.pv (.slice (es.drop l.toNat))))
 | .pv (.slice es),none,some (.pv (.int h)),none=>some (R.ofIf (0≤h∧h≤es.length) (.pv (.slice (es.take h.toNat))))
 | .arr n ver len,none,some (.pv (.int h)),none=>match ob n with
  | some (.arr ver' _ _ _)=>some (R.ofIf (ver=ver'∧0≤h∧h≤len) (.arr n ver h.toNat))
  | _=>none
 | .pv (.slice es),none,some (.pv (.int h)),some (.pv (.int m))=>some (R.ofIf (h=es.length∧m=es.length) (.fsl es))
 | .pv .nils,lo,hi,mx=>bif qBm lo && qBm hi && qBm mx && (!mx.isSome || hi.isSome) then some (R.of (.pv .nils)) else none
 | _,_,_,_=>none
def qJn (note:qXa) (val:Operand→V) (x:Operand):Option R :=
 match note,x with
 | .arr n sz ty,.const (.slice none 0 0)=>some ⟨True,True,.arr n 0 0,some (n,.arr 0 sz ty []),true⟩
 | _,_=>some (R.of (val x))
def qFj (e:Nat) (te:TI) (note:qXa) (len:Nat) (es:List (List V)):Option R :=
 match note with
 | .arr n sz ty=>some ⟨(es.length=len∧len≤16777216∧len * te.size≤16777216 ∧ ∀ e∈es,e.length=te.size)∧ty=e∧sz=te.size,True,.arr n 0 len,some (n,.arr 0 sz ty es),true⟩
 | _=>some (R.ofIf (es.length=len∧len≤16777216∧len * te.size≤16777216 ∧ ∀ e∈es,e.length=te.size) (qKr es))
def PV.nonint:PV→Bool
 | .bool _=>true
 | .nil=>true
 | .ptr _=>true
 | .slice _=>true
 | .nils=>true
 | _=>false
def qZ8 (ob:Nat→Option Ob) (m k v:V):Option R :=
 match m,k,v with
 | .map n,.pv (.ptr ks),.pv cs=>match ob n with
  | some (.cache D F)=>some ⟨D (.ptr ks)∧cs=F (.ptr ks)∧ks.any PV.nonint=true,True,.undef,some (n,.cache D F),false⟩
  | _=>none
 | _,_,_=>none
def zVo:V→Option SK
 | .pv (.int n)=>some (.int n)
 | .pv (.str l)=>some (.str l)
 | _=>none
def qG7:List (SK × V)→SK→Option V
 | [],_=>none
 | (k,x)::r,a=>bif SK.eqB a k then some x else qG7 r a
def qFk:List (SK × V)→SK→V→List (SK × V)
 | [],a,x=>[(a,x)]
 | (k,y)::r,a,x=>bif SK.eqB a k then (a,x)::r else (k,y)::qFk r a x
def qQ0 (s:Bool) (ob:Nat→Option Ob) (m k v:V):Option R:=match m,zVo k with
 | .map n,some a=>match ob n with
  | some (.smap s' es)=>some ⟨s'=s∧a.kind=s,True,.undef,some (n,.smap s' (qFk es a v)),false⟩
  | _=>none
 | _,_=>none
def zYy:Value→Option PV
 | .int .i64 n=>some (.int n)
 | .bool b=>some (.bool b)
 | .pointer none=>some .nil
 | .nilFunc=>some .nilfn
 | .string b=>some (.str (qYc b))
 | _=>none
def qVm (ti:TI):Option PV:=match ti.zero with
 | .agg _=>some (.agg ti.zc)
 | z=>zYy z
def qZy (s ok:Bool) (z:PV) (ob:Nat→Option Ob) (m k:V):Option R:=match m,zVo k with
 | .map n,some a=>match ob n with
  | some (.smap s' es)=>some ⟨s'=s∧a.kind=s,True,(match qG7 es a,ok with
   | some x,true => .tuple [x,.pv (.bool true)]
   | none,true => .pv (.tuple [z,.bool false])
   | some x,false=>x
   | none,false => .pv z),.none,false⟩
  | _=>none
 | _,_=>none
def qW4 (ob:Nat→Option Ob) (x:V):Option R :=
 match x with
 | .map n=>match ob n with
  | some (.smap _ es)=>some (R.of (.pv (.int es.length)))
  | _=>none
 | _=>none
def qV3 (ti:TI) (t:Nat) (ok:Bool) (x:V):Option R:=match x with
 | .pv (.iface t' p)=>if t'=t then (match ok with
   | true=>some (R.of (.pv (.tuple [p,.bool true])))
   | false=>some (R.of (.pv p)))
  else (match ok,qVm ti with
   | true,some z=>some (R.of (.pv (.tuple [z,.bool false])))
   | _,_=>none)
 | .pv .nilif=>match ok,qVm ti with
   | true,some z=>some (R.of (.pv (.tuple [z,.bool false])))
   | _,_=>none
 | _=>none
def qYe (note:qXa) (x:V):Option R:=match note,x with
 | .siter n,.pv (.str l)=>some ⟨True,True,.loc n 0,some (n,.siter l 0),true⟩
 | _,_=>none
def qV4 (ob:Nat→Option Ob) (x:V):Option R:=match x with
 | .loc n 0=>match ob n with
  | some (.siter l p)=>match l[p]? with
   | some b=>some ⟨b<128,True,.pv (.tuple [.bool true,.int p,.num .i32 b]),some (n,.siter l (p+1)),false⟩
   | none=>some (R.of (.pv (.tuple [.bool false])))
  | _=>none
 | _=>none
def qBn:List (List PV)→Option (List Nat)
 | []=>some []
 | [.num .u8 (.ofNat b)]::r=>bif Nat.blt b 256 then (match qBn r with
  | some l=>some (b::l)
  | none=>none) else none
 | _=>none
def qBo (x:V):Option R:=match x with
 | .pv (.str l)=>some (R.of (.pv (.int l.length)))
 | _=>none
def qV5 (n:Nat) (te:TI) (x i:V):Option R:=match x,i with
 | .pv (.agg cs),.pv (.int k)=>if te.isAgg=true then some ⟨0≤k∧k<n∧k.toNat * te.size+te.size≤cs.length,True,.pv (.agg ((cs.drop (k.toNat * te.size)).take te.size)),.none,false⟩ else none
 | _,_=>none
def qKt (x i:V):Option R:=match x,i with
 | .pv (.str l),.pv (.int k)=>some (R.ofIf (0≤k∧k<l.length) (.pv (.num .u8 (l.getD k.toNat 0))))
 | _,_=>none
def qW5 (d:Int) (x:Option V):Option Int:=match x with
 | none=>some d
 | some (.pv (.int k))=>some k
 | _=>none
def qV6 (x:V) (lo hi mx:Option V):Option R:=match x,mx with
 | .pv (.str l),none=>match qW5 0 lo,qW5 l.length hi with
  | some a,some b=>some (R.ofIf (0≤a∧a≤b∧b≤l.length) (.pv (.str ((l.drop a.toNat).take (b-a).toNat))))
  | _,_=>none
 | _,_=>none
def qQb (T:Nat→Option TI) (note:qXa) (val:Operand→V) (ob:Nat→Option Ob) (dst:Option Nat) (op:Op):Option R :=
 match op with
 | .move x=>qJn note val x
 | .assign x=>qJn note val x
 | .pick c a b=>match val c,val a,val b with
  | .pv (.bool c),.pv (.bool a),.pv (.bool b)=>qZr (bif c then a else b)
  | .pv (.bool true),a,_=>some (R.of a)
  | .pv (.bool false),_,b=>some (R.of b)
  | _,_,_=>none
 | .alloc t=>match T t,note,dst with
  | some ti,.box n,_=>some ⟨True,True,.loc n 0,some (n,.box (pvL ti.zc)),true⟩
  | some ti,_,some d=>some ⟨True,True,.loc d 0,some (d,.box (pvL ti.zc)),true⟩
  | _,_,_=>none
 | .box _ x=>match note with
  | .box n=>match qJz (val x) with
   | some cs=>if cs.all V.one=true then some ⟨True,True,.loc n 0,some (n,.box cs),true⟩ else none
   | none=>none
  | _=>match val x with
   | .pv p=>match qLy p with
    | some cs=>some (R.of (.pv (.ptr cs)))
    | none=>none
   | _=>none
 | .build t parts=>match T t with
  | some ⟨.struct fs _,_,_,_,zc⟩=>(qXn fs (pvL zc) (parts.toList.map fun p=>(p.1,val p.2))).map (fun cs=>R.of (qXm cs))
  | some ⟨.array m e,_,_,_,zc⟩=>match T e with
   | some te=>(qXn (qVr te.size m 0) (pvL zc) (parts.toList.map fun p=>(p.1,val p.2))).map (fun cs=>R.of (qXm cs))
   | none=>none
  | _=>none
 | .makeFunc (.func f) first caps=>if first.size=0 then some (R.of (.fn f (caps.toList.map val))) else if caps.size=0 then some (R.of (.bfn f (first.toList.map val))) else none
 | .typeAssert x _ t ok=>match T t with
  | some ti=>if ti.k.isIface=true then none else qV3 ti t ok (val x)
  | none=>none
 | .makeMap _ none=>match note with
  | .smap n s=>some ⟨True,True,.map n,some (n,.smap s []),true⟩
  | .cache n D F=>some ⟨Coh D F,True,.map n,some (n,.cache D F),true⟩
  | _=>none
 | .mapUpdate t m k v=>match dst,T t with
  | none,some ⟨.smap _ _ s,_,_,_,_⟩=>qQ0 s ob (val m) (val k) (val v)
  | none,some ⟨.map _ _,_,_,_,_⟩=>qZ8 ob (val m) (val k) (val v)
  | _,_=>none
 | .insert t m k v=>match dst,T t with
  | none,some ⟨.smap _ _ s,_,_,_,_⟩=>qQ0 s ob (val m) (val k) (val v)
  | _,_=>none
 | .lookup t m k ok=>match T t with
  | some ⟨.smap _ vt s,_,_,_,_⟩=>match T vt with
   | some tv=>match qVm tv with
    | some z=>qZy s ok z ob (val m) (val k)
    | none=>none
   | _=>none
  | _=>none
 | .buildSlice t len parts=>match T t with
  | some ⟨.slice e,_,_,_,_⟩=>match T e with
   | some te=>match qZu 0 (parts.toList.map fun p=>(p.1,val p.2)) with
    | some es=>qFj e te note len es
    | none=>none
   | none=>none
  | _=>none
 | .load t x=>match T t with
  | some ti=>qJ7 ti ob (val x)
  | none=>none
 | .store t x y=>match dst,T t with
  | none,some ti=>qZ9 ti ob (val x) (val y)
  | _,_=>none
 | .nilCheck x=>match val x with
  | .pv (.ptr cs)=>some (R.of (.pv (.ptr cs)))
  | .pv (.nptr cs)=>some (R.of (.pv (.nptr cs)))
  | .loc n off=>some (R.of (.loc n off))
  | .eloc n v i o=>some (R.of (.eloc n v i o))
  | _=>none
 | .binOp b t x y _=>match T t with
  | some ti=>qKs ti.k b (val x) (val y) y
  | none=>none
 | .unOp .not _ x=>match val x with
  | .pv (.bool b)=>qZr (!b)
  | _=>none
 | .convert s t x=>match T s,T t,val x with
  | some _,some ⟨.num k,_,_,_,_⟩,.pv (.num _ n)=>some (R.of (.pv (.num k (k.wrap n))))
  | some _,some ⟨.num k,_,_,_,_⟩,.pv (.int n)=>some (R.of (.pv (.num k (k.wrap n))))
  | some _,some ⟨.int,_,_,_,_⟩,.pv (.num _ n)=>some (R.of (.pv (.int (IntKind.i64.wrap n))))
  | some _,some ⟨.int,_,_,_,_⟩,.pv (.int n)=>some (R.of (.pv (.int (IntKind.i64.wrap n))))
  | some ⟨.slice e,_,_,_,_⟩,some ⟨.str,_,_,_,_⟩,.pv (.slice es)=>match T e,qBn es with
   | some ⟨.num .u8,_,_,_,_⟩,some (b::l)=>some (R.of (.pv (.str (b::l))))
   | _,_=>none
  | _,_,_=>none
 | .makeInterface t x=>match T t,val x with
  | some ti,.pv p=>bif ti.k.isIface then none else some (R.of (.pv (.iface t p)))
  | _,_=>none
 | .field t x f=>match T t with
  | some ⟨.struct fs pl,_,_,_,_⟩=>bif Nat.blt f 1000 && pl.elem f then (match fs[f]? with
    | some (off,_)=>(match val x with
     | .pv (.agg cs)=>(cs[off]?).map (fun c=>R.of (.pv c))
     | .agg cs=>(cs[off]?).map R.of
     | _=>none)
    | none=>none) else bif pl.elem (f+1000) then (match fs[f]? with
    | some (off,size)=>(match val x with
     | .pv (.agg cs)=>some ⟨off+size≤cs.length,True,.pv (.agg ((cs.drop off).take size)),.none,false⟩
     | _=>none)
    | none=>none) else none
  | _=>none
 | .fieldAddr t x f=>match T t with
  | some ⟨.struct fs _,_,_,_,_⟩=>match fs[f]? with
   | some (off,size)=>if size=0 then none else (qVs (val x) off).map R.of
   | none=>none
  | _=>none
 | .indexAddr t x i=>qJa T ob t (val x) (val i)
 | .range t x=>match T t with
  | some ⟨.str,_,_,_,_⟩=>qYe note (val x)
  | _=>none
 | .next x true=>qV4 ob (val x)
 | .index t x i=>match T t with
  | some ⟨.str,_,_,_,_⟩=>qKt (val x) (val i)
  | some ⟨.array n e,_,_,_,_⟩=>match T e with
   | some te=>qV5 n te (val x) (val i)
   | none=>none
  | _=>none
 | .extract x i=>match val x with
  | .pv (.tuple cs)=>(cs[i]?).map (fun c=>R.of (.pv c))
  | .tuple cs=>(cs[i]?).map R.of
  | _=>none
 | .slice t x lo hi mx=>match T t with
  | some ⟨.slice e,_,_,_,_⟩=>match T e with
   | some te=>qJb te ob (val x) (lo.map val) (hi.map val) (mx.map val)
   | none=>none
  | some ⟨.str,_,_,_,_⟩=>qV6 (val x) (lo.map val) (hi.map val) (mx.map val)
  | _=>none
 | .call { callee:=.builtin .len,args,argTypes } => match argTypes.toList,args.toList with
  | [t],[x]=>match T t with
   | some ⟨.slice _,_,_,_,_⟩=>qWt ob (val x)
   | some ⟨.smap _ _ _,_,_,_,_⟩=>qW4 ob (val x)
   | some ⟨.str,_,_,_,_⟩=>qBo (val x)
   | _=>none
  | _,_=>none
 | .call { callee:=.builtin .append,args,argTypes } => match argTypes.toList,args.toList with
  | [t,t'],[x,y]=>if t=t' then
    match T t with
    | some ⟨.slice e,_,_,_,_⟩=>match T e with
     | some te=>qQ4 e te ob note x (val x) (val y)
     | none=>none
    | _=>none
   else none
  | _,_=>none
 | .call { callee:=.builtin .max,args,argTypes:=_ } => match args.toList with
  | [x,y]=>match val x,val y with
   | .pv (.int a),.pv (.int b)=>some (R.of (.pv (.int (if b > a then b else a))))
   | _,_=>none
  | _=>none
 | .call { callee:=.builtin .min,args,argTypes:=_ } => match args.toList with
  | [x,y]=>match val x,val y with
   | .pv (.int a),.pv (.int b)=>some (R.of (.pv (.int (if b<a then b else a))))
   | _,_=>none
  | _=>none
 | _=>none
def St.val (gl:Nat→Option (List PV)) (σ:St):Operand→V
 | .tmp t=>qZi σ.slots t
 | .const v=>cst v
 | .func f => .fn f []
 | .global g=>match gl g with
  | some cs => .pv (.ptr cs)
  | none => .undef
def GOK (gl:Nat→Option (List PV)) (H:Hp):Prop:=∀ g cs,gl g=some cs→RepL H cs (H g)
theorem GOK.mono {gl:Nat→Option (List PV)} {H H':Hp} (h:GOK gl H) (hH:Hle H H'):GOK gl H' :=
 fun g cs e=>RepL.mono hH cs _ _ (hH g) (h g cs e)
theorem zQe (E:Env) (v:Value):RepV E (cst v) v:=by
 unfold cst
 split<;>first|(done)|grind [RepV,RepP,qWs,qKq]
theorem qL1 (v:Value):(cst v).names=[]:=by
 unfold cst
 split<;>simp [V.names]
section
variable {C:Ctx} {E:Env} {σ:St} {a:Act} {w:World} {gl:Nat→Option (List PV)}
theorem qQd (h:Ga C E σ a w) (hg:GOK gl C.E0.H) (x:Operand):RepV E (σ.val gl x) (a.eval x):=by
 cases x with
 | tmp t=>exact h.slots t
 | const v=>exact zQe E v
 | func f=>exact⟨[],by rfl,rfl,by simp [RepVL]⟩
 | global g =>
  simp only [St.val,Act.eval]
  split
  ·rename_i cs e
   exact⟨g,0,rfl,by simpa using (hg.mono h.hle) g cs e⟩
  ·simp [RepV]
theorem qQi (h:Ga C E σ a w) (x:Operand):∀ n∈(σ.val gl x).names,n∈σ.used:=by
 cases x with
 | tmp t=>exact h.usedS t
 | const v=>simp [St.val,qL1]
 | func f=>simp [St.val,V.names,qQg]
 | global g =>
  grind [St.val,V.names]
end
theorem RepL.take {H:Hp} : ∀ {cs:List PV} {vs:List Value} (n:Nat),RepL H cs vs→RepL H (cs.take n) (vs.take n)
 | cs,vs,0,_=>by simp [RepL]
 | [],vs,n+1,_=>by simp [RepL]
 | c::cs,[],n+1,r=>by grind [RepL]
 | c::cs,v::vs,n+1,r=>by
  exact⟨r.1,RepL.take n r.2⟩
theorem RepL.drop {H:Hp} : ∀ {cs:List PV} {vs:List Value} (n:Nat),RepL H cs vs→RepL H (cs.drop n) (vs.drop n)
 | cs,vs,0,r=>by simp_all
 | [],vs,n+1,_=>by simp [RepL]
 | c::cs,[],n+1,r=>by grind [RepL]
 | c::cs,v::vs,n+1,r=>by
  simpa using RepL.drop n r.2
theorem RepK.drop {H:Hp} : ∀ {cs:List PV} {vs:List Value} (n:Nat),RepK H cs vs→RepK H (cs.drop n) (vs.drop n)
 | cs,vs,0,r=>by simp_all
 | [],vs,n+1,_=>by simp [RepK]
 | c::cs,[],n+1,r=>by grind [RepK]
 | c::cs,v::vs,n+1,r=>by simpa using RepK.drop n r.uncons.2
theorem RepVL.take {E:Env} : ∀ {cs:List V} {vs:List Value} (n:Nat),RepVL E cs vs→RepVL E (cs.take n) (vs.take n)
 | cs,vs,0,_=>by simp [RepVL]
 | [],vs,n+1,_=>by simp [RepVL]
 | c::cs,[],n+1,r=>by grind [RepVL]
 | c::cs,v::vs,n+1,r=>by
  exact⟨r.1,RepVL.take n r.2⟩
theorem RepVL.drop {E:Env} : ∀ {cs:List V} {vs:List Value} (n:Nat),RepVL E cs vs→RepVL E (cs.drop n) (vs.drop n)
 | cs,vs,0,r=>by simp_all
 | [],vs,n+1,_=>by simp [RepVL]
 | c::cs,[],n+1,r=>by grind [RepVL]
 | c::cs,v::vs,n+1,r=>by
  simpa using RepVL.drop n r.2
theorem RepVL.append {E:Env} : ∀ {cs ds:List V} {vs us:List Value},cs.length=vs.length→RepVL E cs vs→RepVL E ds us→RepVL E (cs++ds) (vs++us)
 | [],ds,[],us,_,_,r=>by simpa using r
 | [],ds,_::_,us,h,_,_=>by simp at h
 | c::cs,ds,[],us,h,_,_=>by simp at h
 | c::cs,ds,v::vs,us,h,r,r'=>by
  exact⟨r.1,RepVL.append (by simpa using h) r.2 r'⟩
theorem RepVL.ofPv {E:Env} : ∀ {cs:List PV} {vs:List Value},RepL E.H cs vs→RepVL E (pvL cs) vs
 | [],_,_=>by simp [pvL,RepVL]
 | c::cs,[],r=>by grind [RepL]
 | c::cs,v::vs,r=>by
  exact⟨r.1,RepVL.ofPv r.2⟩
theorem RepVL.toPv {E:Env} : ∀ {cs:List V} {ps:List PV} {vs:List Value},unL cs=some ps→RepVL E cs vs→RepL E.H ps vs
 | [],ps,_,h,_=>by grind [unL,RepL]
 | c::cs,ps,[],h,r=>by grind [RepVL]
 | c::cs,ps,v::vs,h,r=>by
  simp only [unL] at h
  split at h
  ·rename_i p qs hp hq
   cases h
   refine⟨?_,RepVL.toPv hq r.2⟩
   cases c<;>simp [V.un] at hp
   subst hp
   simpa [RepV] using r.1
  ·cases h
theorem qBp:∀ {cs:List V} {ps:List PV},unL cs=some ps→ps.length=cs.length
 | [],ps,h=>by grind [unL]
 | c::cs,ps,h=>by
  simp only [unL] at h
  split at h
  ·rename_i p qs hp hq
   cases h
   simp [qBp hq]
  ·cases h
theorem qW6 {E:Env} {cs:List V} {vs:List Value} (hl:vs.length=cs.length) (r:RepVL E cs vs):RepV E (qXm cs) (.agg vs.toArray):=by
 unfold qXm
 split
 ·rename_i ps e
  exact⟨vs,rfl,by rw [hl,qBp e],RepVL.toPv e r⟩
 ·exact⟨vs,rfl,hl,r⟩
theorem qJ0 (cs:List PV):qQg (pvL cs)=[]:=by
 induction cs with
 | nil=>rfl
 | cons c cs ih=>grind [pvL,qQg,V.names]
theorem qIi (es:List (List PV)):qQw (pvE es)=[]:=by
 induction es with
 | nil=>rfl
 | cons c cs ih=>grind [pvE,qQw,qJ0]
theorem RepVE.toPv {E:Env} : ∀ {es:List (List V)} {ps:List (List PV)} {vs:List Value},unE es=some ps→RepVE E es vs→RepE E.H ps vs
 := by intro x;induction x<;>grind [unE,RepE,RepVE,RepVL.toPv,qBp]
theorem qL2:∀ {es:List (List V)} {ps:List (List PV)},unE es=some ps→ps.length=es.length
 | [],ps,h=>by grind [unE]
 | e::es,ps,h=>by
  simp only [unE] at h
  split at h
  ·rename_i p qs hp hq
   cases h
   simp [qL2 hq]
  ·cases h
theorem qFl {E:Env} {es:List (List V)} {b cap:Nat} (h1:es.length≤cap) (h2:es.length≤maxLen) (r:RepVE E es (E.H b)):RepV E (qKr es) (.slice (some ⟨b,0,none⟩) es.length cap):=by
 unfold qKr
 split
 ·rename_i ps e
  have hl:=qL2 e
  exact⟨_,cap,by rw [hl],by omega,by omega,.inr ⟨b,0,rfl,by grind [RepVE.toPv]⟩⟩
 grind [RepV]
theorem qBq (es:List (List V)):∀ n∈(qKr es).names,n∈qQw es:=by
 grind [qKr,V.names]
theorem qJ8 (cs:List V):∀ n∈(qXm cs).names,n∈qQg cs:=by
 grind [qXm,V.names]
theorem mem_namesL {cs:List V} {n:Nat} : n∈qQg cs ↔ ∃ c∈cs,n∈c.names:=by
 induction cs with
 | nil=>simp [qQg]
 | cons c cs ih=>simp [qQg,ih]
theorem mem_namesE {es:List (List V)} {n:Nat} : n∈qQw es ↔ ∃ e∈es,n∈qQg e:=by
 induction es with
 | nil=>simp [qQw]
 | cons c cs ih=>simp [qQw,ih]
section
variable {P:Program} {t:Nat} {ti:TI}
theorem TIOK.run_size (h:TIOK P t ti) (w:World):(sizeOf t).run P w = .ok ti.size w:=by
 obtain⟨i,hi,hs,_⟩:=h.info
 simp [sizeOf,typeInfo,hi,hs]
theorem TIOK.run_zero (h:TIOK P t ti) (w:World):(zeroValue t).run P w = .ok ti.zero w:=by
 obtain⟨i,hi,_,_,hz⟩:=h.info
 simp [zeroValue,typeInfo,hi,hz]
theorem TIOK.run_agg (h:TIOK P t ti) (w:World):(isAgg t).run P w = .ok ti.isAgg w:=by
 obtain⟨d,hd,hk⟩:=h.desc
 unfold TI.isAgg
 cases hkk:ti.k<;>rw [hkk] at hk<;>simp only [qK9] at hk
 ·cases d<;>simp_all [isAgg,run_underlying hd]
 ·subst hk;simp [isAgg,run_underlying hd]
 ·obtain⟨e,rfl⟩:=hk;simp [isAgg,run_underlying hd]
 ·obtain⟨p,r,v,rfl⟩:=hk;simp [isAgg,run_underlying hd]
 ·obtain⟨f,rfl,_⟩:=hk;simp [isAgg,run_underlying hd]
 ·subst hk;simp [isAgg,run_underlying hd]
 ·subst hk;simp [isAgg,run_underlying hd]
 ·obtain⟨rfl,_⟩:=hk;simp [isAgg,run_underlying hd]
 ·obtain⟨rfl,_⟩:=hk;simp [isAgg,run_underlying hd]
 ·subst hk;simp [isAgg,run_underlying hd]
 ·subst hk;simp [isAgg,run_underlying hd]
 ·obtain⟨ms,rfl⟩:=hk;simp [isAgg,run_underlying hd]
 ·obtain⟨rfl,_⟩:=hk;simp [isAgg,run_underlying hd]
theorem qFm {w:World} {b off:Nat} {c:Array Value} {T:Nat} {fr:Nat × Nat} (h:w.heap[b]? = some (.cells c T fr)) (j:Nat) :
  w.cell? ((⟨b,off,none⟩:Addr).add j)=c[off+j]?:=by
 unfold Addr.add
 split
 ·rename_i e;subst e;simp [World.cell?,h]
 ·simp [World.cell?,h]
theorem qZb (hT:TIOK P t ti) (ha:ti.isAgg=true) {w:World} {b off:Nat} {c:Array Value} {T:Nat} {fr:Nat × Nat}
  (h:w.heap[b]? = some (.cells c T fr)) (hle:off+ti.size≤c.size) :
  (Instr.loadAt t (.pointer (some ⟨b,off,none⟩))).run P w = .ok (.agg ((c.toList.drop off).take ti.size).toArray) w:=by
 have hl:=run_loadCells_list (P:=P) w ⟨b,off,none⟩ ((c.toList.drop off).take ti.size) (by
  grind [qFm])
 have hlen:((c.toList.drop off).take ti.size).length=ti.size:=by simp;omega
 rw [hlen] at hl
 simp [Instr.loadAt,Instr.sureAddr,loadVar,hT.run_agg,ha,hT.run_size,hl]
theorem qZc (hT:TIOK P t ti) (ha:ti.isAgg=false) {w:World} {b off:Nat} {c:Array Value} {T:Nat} {fr:Nat × Nat} {v:Value}
  (h:w.heap[b]? = some (.cells c T fr)) (hv:c[off]? = some v) :
  (Instr.loadAt t (.pointer (some ⟨b,off,none⟩))).run P w = .ok v w:=by
 have hc:w.cell? ⟨b,off,none⟩=some v:=by simp [World.cell?,h,hv]
 simp [Instr.loadAt,Instr.sureAddr,loadVar,hT.run_agg,ha,hc]
end
def OpRes (P:Program) (o:Oper) (a:Act) (w:World) (v:Value) (w':World):Prop :=
 (execOp a.eval o).run P w = .ok (.value v) w'∨((execOp a.eval o).run P w = .ok .skip w'∧v=undef)
theorem OpRes.wp {P:Program} {o:Oper} {a:Act} {w w':World} {v:Value} (h:OpRes P o a w v w') {K:Act→World→Prop} {Q:Exit→Act→World→Prop}
  (hk:K (a.put o.dst v) w'):o.wp P a w K Q:=by
 unfold Oper.wp
 rcases h with h|⟨h,rfl⟩
 ·rw [h];exact hk
 ·rw [h];exact hk
def St.app (σ:St) (dst:Option Nat) (r:R):St :=
 ⟨qAd dst r.out σ.slots,
  match r.wr with|some (n,o)=>qKp σ.objs n o|none=>σ.objs,
  match r.wr,r.new with|some (n,_),true=>n::σ.used|_,_=>σ.used⟩
def Sound (P:Program) (C:Ctx) (E:Env) (σ:St) (a:Act) (w:World) (o:Oper) (r:R):Prop :=
 ∃ v w' E',OpRes P o a w v w'∧Ga C E' (σ.app o.dst r) (a.put o.dst v) w'∧r.fact
section
variable {P:Program} {C:Ctx} {E:Env} {σ:St} {a:Act} {w:World} {gl:Nat→Option (List PV)} {o:Oper} {T:Nat→Option TI} {note:qXa} {ob:Nat→Option Ob}
theorem Sound.pure (h:Ga C E σ a w) {v:Value} {c f:Prop} {x:V} {b:Bool} (hr:OpRes P o a w v w) (hx:RepV E x v) (hn:∀ n∈x.names,n∈σ.used)
  (hd:∀ d,o.dst=some d→d<C.nt) (hf:f):Sound P C E σ a w o ⟨c,f,x,none,b⟩ :=
 ⟨v,w,E,hr,h.pure E.H o.dst x v (Hle.refl _) (Nat.le_refl _) ⟨rfl,rfl,rfl⟩ (fun _ _=>⟨rfl,rfl⟩) h.heap hx hn hd,hf⟩
theorem qIj (h:Ga C E σ a w) (hg:GOK gl C.E0.H) (hd:∀ d,o.dst=some d→d<C.nt) {x:Operand} (ho:o.op = .move x∨o.op = .assign x) :
  Sound P C E σ a w o (R.of (σ.val gl x)):=by
 refine Sound.pure h (v:=a.eval x) (.inl ?_) (qQd h hg x) (qQi h x) hd trivial
 rcases ho with ho|ho<;>simp [execOp,ho]
theorem qZe {E:Env} {b:Bool} {v:Value} (h:RepV E (.pv (.bool b)) v):v = .bool b:=by grind [RepV,RepP]
theorem qZa {E:Env} {n:Int} {v:Value} (h:RepV E (.pv (.int n)) v):v = .int .i64 n:=by grind [RepV,RepP]
theorem qJ1 (h:Ga C E σ a w) (hd:∀ d,o.dst=some d→d<C.nt) {b:Bool} (hr:OpRes P o a w (.bool b) w):Sound P C E σ a w o (R.of (.pv (.bool b))) :=
 Sound.pure h hr (by rfl) (by simp [V.names]) hd trivial
theorem qJ2 (h:Ga C E σ a w) (hd:∀ d,o.dst=some d→d<C.nt) {n:Int} {c f:Prop} {b:Bool} (hr:OpRes P o a w (.int .i64 n) w) (hf:f):Sound P C E σ a w o ⟨c,f,.pv (.int n),none,b⟩ :=
 Sound.pure h hr (by rfl) (by simp [V.names]) hd hf
theorem qIk (h:Ga C E σ a w) (hg:GOK gl C.E0.H) (hd:∀ d,o.dst=some d→d<C.nt) {c x y:Operand} (ho:o.op = .pick c x y) {r:R}
  (hs:qQb T note (σ.val gl) ob o.dst (.pick c x y)=some r):Sound P C E σ a w o r:=by
 have hc:=qQd h hg c
 have hx:=qQd h hg x
 have hy:=qQd h hg y
 have nx:=qQi (gl:=gl) h x
 have ny:=qQi (gl:=gl) h y
 simp only [qQb] at hs
 split at hs
 ·rename_i c' a' b' e1 e2 e3
  rw [e1] at hc;rw [e2] at hx;rw [e3] at hy
  have hc:=qZe hc
  have hx:=qZe hx
  have hy:=qZe hy
  simp only [qZr,Option.some.injEq] at hs
  subst hs
  refine qJ1 h hd (.inl ?_)
  cases c'<;>simp [execOp,ho,hc,hx,hy,asBool]
 ·rename_i e1 _
  rw [e1] at hc
  have hc:=qZe hc
  simp only [Option.some.injEq] at hs
  subst hs
  refine Sound.pure h (v:=a.eval x) (.inl ?_) hx nx hd trivial
  simp [execOp,ho,hc,asBool]
 ·rename_i e1 _
  rw [e1] at hc
  have hc:=qZe hc
  simp only [Option.some.injEq] at hs
  subst hs
  refine Sound.pure h (v:=a.eval y) (.inl ?_) hy ny hd trivial
  simp [execOp,ho,hc,asBool]
 ·cases hs
theorem qL3 (h:Ga C E σ a w) (hg:GOK gl C.E0.H) (hd:∀ d,o.dst=some d→d<C.nt) {t:Nat} {x:Operand} (ho:o.op = .unOp .not t x) {r:R}
  (hs:qQb T note (σ.val gl) ob o.dst (.unOp .not t x)=some r):Sound P C E σ a w o r:=by
 have hx:=qQd h hg x
 simp only [qQb] at hs
 split at hs
 ·rename_i b e
  rw [e] at hx
  have hx:=qZe hx
  simp only [qZr,Option.some.injEq] at hs
  subst hs
  refine qJ1 h hd (.inl ?_)
  simp [execOp,ho,hx,Op.unary]
 ·cases hs
theorem qFn (h:Ga C E σ a w) (hg:GOK gl C.E0.H) (hd:∀ d,o.dst=some d→d<C.nt) {t:Nat} {x:Operand} (ho:o.op = .makeInterface t x) {r:R}
  (hT:TOK P T) (hs:qQb T note (σ.val gl) ob o.dst (.makeInterface t x)=some r):Sound P C E σ a w o r:=by
 have hx:=qQd h hg x
 simp only [qQb] at hs
 split at hs
 ·rename_i ti p et e
  cases hif:ti.k.isIface with
  | true=>rw [hif] at hs;cases hs
  | false =>
  rw [hif] at hs
  simp only [cond_false,Option.some.injEq] at hs
  subst hs
  have hrun:∀ v,(Instr.makeInterface t v).run P w = .ok (.iface t v) w:=fun v=>run_makeInterface (P:=P) w t v ((hT t _ et).conc.resolve_left (by rw [hif];simp))
  refine Sound.pure h (v:=.iface t (a.eval x)) (.inl ?_) ?_ (by simp [V.names]) hd trivial
  ·simp [execOp,ho,hrun]
  grind [RepV,RepP]
 ·cases hs
theorem qKu {P:Program} {t:Nat} {ti:TI} (h:TIOK P t ti) {z:PV} (ez:qVm ti=some z) (H:Hp):RepP H z ti.zero:=by
 unfold qVm at ez
 split at ez
 ·rename_i zz e0
  cases ez
  have hz:=h.zcells
  have h3:=h.zlen
  have h4:=h.zc
  rw [e0] at hz h3 ⊢
  simp only [Value.cells] at hz h3
  refine⟨zz.toList,by simp,?_,RepL.mono (fun _=>List.nil_prefix) _ _ _ List.prefix_rfl hz⟩
  simp;omega
 ·unfold zYy at ez
  all_goals
   first|(done)|grind [RepP,qWs,qKq]
theorem qDp (h:Ga C E σ a w) (hg:GOK gl C.E0.H) (hd:∀ d,o.dst=some d→d<C.nt) (hT:TOK P T) {x:Operand} {t0 t:Nat} {b:Bool} (ho:o.op = .typeAssert x t0 t b) {r:R}
  (hs:qQb T note (σ.val gl) ob o.dst (.typeAssert x t0 t b)=some r):Sound P C E σ a w o r:=by
 have hx:=qQd h hg x
 simp only [qQb] at hs
 split at hs
 ·rename_i ti et
  split at hs
  ·cases hs
  ·rename_i hif
   have hti:=hT t ti et
   obtain⟨d,hde,_⟩:=hti.desc
   have hconc:P.concrete t=true:=by
    rcases hti.conc with h|h
    ·simp_all
    ·exact h
   have hd':∀ ms,d ≠ .interface ms:=by
    intro ms e
    subst e
    simp [Program.concrete,hde] at hconc
   have fin:∀ (v:Value) (p:PV),RepP E.H p v→(Instr.typeAssert (a.eval x) t0 t b).run P w = .ok v w→Sound P C E σ a w o (R.of (.pv p)):=by
    intro v p hp hr
    refine Sound.pure h (v:=v) (.inl ?_) (by grind [R.of,RepV]) (by simp [V.names]) hd trivial
    simp only [execOp,ho,Sem.run_bind,hr,Result.andThen_ok]
    rfl
   have tup:∀ (v:Value) (p:PV) (c:Bool),RepP E.H p v→RepP E.H (.tuple [p,.bool c]) (.tuple #[v,.bool c]):=by
    intro v p c hp
    rw [RepP]
    exact⟨[v,.bool c],rfl,rfl,by rw [RepL,RepL,RepL];exact⟨hp,by simp [RepP],trivial⟩⟩
   unfold qV3 at hs
   split at hs
   ·rename_i t' p e
    rw [e] at hx
    simp only [RepV,RepP] at hx
    obtain⟨u,hv,hu⟩:=hx
    split at hs
    ·rename_i e'
     subst e'
     have hrun:∀ c,(Instr.typeAssert (.iface t' u) t0 t' c).run P w = .ok (if c then .tuple #[u,.bool true] else u) w:=by
      intro c
      unfold Instr.typeAssert
      simp only [Sem.run_bind,run_underlying hde,Result.andThen_ok]
      cases d<;>first|exact absurd rfl (hd' _)|(cases c<;>simp)
     grind
    ·rename_i hne
     split at hs
     ·rename_i z ez
      cases hs
      refine fin _ _ (tup ti.zero z false (qKu hti ez E.H)) ?_
      rw [hv]
      unfold Instr.typeAssert
      simp only [Sem.run_bind,run_underlying hde,Result.andThen_ok]
      cases d<;>first|exact absurd rfl (hd' _)|simp [hne,hti.run_zero]
     ·cases hs
   ·rename_i e
    rw [e] at hx
    simp only [RepV,RepP] at hx
    split at hs
    ·rename_i z ez
     cases hs
     refine fin _ _ (tup ti.zero z false (qKu hti ez E.H)) ?_
     rw [hx]
     unfold Instr.typeAssert
     simp only [Sem.run_bind,run_underlying hde,Result.andThen_ok]
     cases d<;>first|exact absurd rfl (hd' _)|simp [hti.run_zero]
    ·cases hs
   ·cases hs
 ·cases hs
theorem qAf (h:Ga C E σ a w) (hg:GOK gl C.E0.H) (hd:∀ d,o.dst=some d→d<C.nt) {x:Operand} (ho:o.op = .nilCheck x) {r:R}
  (hs:qQb T note (σ.val gl) ob o.dst (.nilCheck x)=some r):Sound P C E σ a w o r:=by
 have hx:=qQd h hg x
 have nx:=qQi (gl:=gl) h x
 simp only [qQb] at hs
 have key:∀ ad:Addr,a.eval x = .pointer (some ad)→Sound P C E σ a w o (R.of (σ.val gl x)):=by
  intro ad e
  refine Sound.pure h (v:=a.eval x) (.inl ?_) hx nx hd trivial
  simp [execOp,ho,e]
 grind [Option.some.injEq,RepV,RepP]
end
section
variable {P:Program} {C:Ctx} {E:Env} {σ:St} {a:Act} {w:World} {gl:Nat→Option (List PV)} {o:Oper} {T:Nat→Option TI} {note:qXa} {ob:Nat→Option Ob}
theorem qBr {x:Int} (h:inI x):IntKind.i64.wrap x=x:=IntWalk.i64_in x (by obtain⟨h1,h2⟩:=h;omega)
theorem qFo {b:BinOp} {t:Nat} {x y:Operand} {u v:Value} (h1:∀ c,u ≠ .agg c) (h2:u ≠ .nilIface∨(v = .nilIface ∧ ∃ c,y = .const c) ∨ ∃ t x,v = .iface t x):(eqGuard b t x y u v).run P w = .ok () w:=by
 rcases h2 with h2|⟨hv,c,hy⟩|⟨t',x',hv⟩
 case inr.inr =>
  subst hv
  cases u<;>first|exact absurd rfl (h1 _)|skip
  all_goals
   cases b<;>first|rfl|simp
 case inr.inl =>
  subst hv hy
  cases u<;>first|exact absurd rfl (h1 _)|skip
  all_goals
   unfold eqGuard
   cases b<;>first|rfl|simp
 cases u<;>first|exact absurd rfl (h1 _)|exact absurd rfl h2|skip
 all_goals
  cases b<;>rfl
theorem qV7 {b:BinOp} {t t':Nat} {x y:Operand} (ho:o.op = .binOp b t x y t') {v:Value}
  (h:(binOp b t (a.eval x) (a.eval y)).run P w = .ok v w) (h1:∀ c,a.eval x ≠ .agg c) (h2:a.eval x ≠ .nilIface∨(a.eval y = .nilIface ∧ ∃ c,y = .const c) ∨ ∃ t x,a.eval y = .iface t x):OpRes P o a w v w:=by
 refine .inl ?_
 have hq:=qFo (P:=P) (w:=w) (b:=b) (t:=t) (x:=x) (y:=y) (v:=a.eval y) h1 h2
 simp [execOp,ho,hq,h]
theorem qQr {t:Nat} {x y:Value} {b:Bool} (h:∀ d,(Op.equalIn (d+1) t x y).run P w = .ok b w):(Op.equal t x y).run P w = .ok b w:=by
 exact h 9999
theorem qIl {op:BinOp} {x y:Int} {r:R} (hs:qBk op x y=some r) (hc:r.cond) (t:Nat) :
  ∃ v,(binOp op t (.int .i64 x) (.int .i64 y)).run P w = .ok v w∧RepV E r.out v∧r.out.names=[]∧r.wr=none∧r.fact:=by
 cases op<;>simp only [qBk,qZr,Option.some.injEq,reduceCtorEq] at hs<;>subst hs
 ·exact⟨.int .i64 (x+y),by simp [binOp,Op.intArith,qBr hc],by rfl,rfl,rfl,trivial⟩
 ·exact⟨.int .i64 (x-y),by simp [binOp,Op.intArith,qBr hc],by rfl,rfl,rfl,trivial⟩
 ·exact⟨.int .i64 (x * y),by simp [binOp,Op.intArith,qBr hc],by rfl,rfl,rfl,trivial⟩
 ·have hc:y≠0:=hc
  exact⟨.int .i64 (x.tmod y),by simp [binOp,Op.intDiv,hc],by rfl,rfl,rfl,trivial⟩
 ·exact⟨.bool (decide (x=y)),by rfl,by rfl,rfl,rfl,trivial⟩
 ·exact⟨.bool (!decide (x=y)),by rfl,by rfl,rfl,rfl,trivial⟩
 ·exact⟨.bool (decide (x<y)),by rfl,by rfl,rfl,rfl,trivial⟩
 ·exact⟨.bool (decide (x≤y)),by rfl,by rfl,rfl,rfl,trivial⟩
 ·exact⟨.bool (decide (y<x)),by rfl,by rfl,rfl,rfl,trivial⟩
 ·exact⟨.bool (decide (y≤x)),by rfl,by rfl,rfl,rfl,trivial⟩
theorem qIm {op:BinOp} {k:IntKind} {x y:Int} {r:R} (hs:qBl op k x y=some r) (hk:k ≠ .i16∧k ≠ .i8) (t:Nat) :
  ∃ v,(binOp op t (.int k x) (.int k y)).run P w = .ok v w∧RepV E r.out v∧r.out.names=[]∧r.wr=none∧r.fact:=by
 have hb:(x == y)=decide (x=y):=by by_cases e:x=y<;>simp [e]
 cases op<;>simp only [qBl,qZr,Option.some.injEq,reduceCtorEq] at hs<;>subst hs
 ·exact⟨.int k (k.wrap (x+y)),by simp [binOp,Op.intArith],by grind [RepV,RepP,R.of],rfl,rfl,trivial⟩
 ·exact⟨.int k (k.wrap (x-y)),by simp [binOp,Op.intArith],by grind [RepV,RepP,R.of],rfl,rfl,trivial⟩
 ·exact⟨.int k (qQj .and k x y),by simp [binOp,Op.intBits,qQj],by grind [RepV,RepP,R.of],rfl,rfl,trivial⟩
 ·exact⟨.int k (qQj .or k x y),by simp [binOp,Op.intBits,qQj],by grind [RepV,RepP,R.of],rfl,rfl,trivial⟩
 ·exact⟨.int k (qQj .andNot k x y),by simp [binOp,Op.intBits,qQj],by grind [RepV,RepP,R.of],rfl,rfl,trivial⟩
 ·exact⟨.bool (decide (x=y)),by simp [binOp,Op.intCmp,hb],by rfl,rfl,rfl,trivial⟩
 ·exact⟨.bool (!decide (x=y)),by simp [binOp,Op.intCmp,bne,hb],by rfl,rfl,rfl,trivial⟩
 ·exact⟨.bool (decide (x<y)),by simp [binOp,Op.intCmp],by rfl,rfl,rfl,trivial⟩
 ·exact⟨.bool (decide (x≤y)),by simp [binOp,Op.intCmp],by rfl,rfl,rfl,trivial⟩
 ·exact⟨.bool (decide (y<x)),by simp [binOp,Op.intCmp],by rfl,rfl,rfl,trivial⟩
 ·exact⟨.bool (decide (y≤x)),by simp [binOp,Op.intCmp],by rfl,rfl,rfl,trivial⟩
theorem qFp {op:BinOp} {k:IntKind} {x y:Int} {r:R} (hs:qW3 op k x y=some r) (hc:r.cond) (hk:k ≠ .i16∧k ≠ .i8) (t:Nat) :
  ∃ v,(binOp op t (.int k x) (.int .i64 y)).run P w = .ok v w∧RepV E r.out v∧r.out.names=[]∧r.wr=none∧r.fact:=by
 cases op<;>simp only [qW3,Option.some.injEq,reduceCtorEq] at hs<;>subst hs
 ·have hc:0≤y:=hc
  have hn:¬ y<0:=by omega
  exact⟨.int k (k.wrap (x * 2 ^ min y.toNat k.bits)),by simp [binOp,Op.shift,hn],by grind [RepV,RepP,R.ofIf],rfl,rfl,trivial⟩
 ·have hc:0≤y:=hc
  have hn:¬ y<0:=by omega
  exact⟨.int k (x.fdiv (2 ^ min y.toNat k.bits)),by simp [binOp,Op.shift,hn],by grind [RepV,RepP,R.ofIf],rfl,rfl,trivial⟩
theorem qP0 {t:Nat} {ti:TI} (hT:TIOK P t ti) {x y:V} {yo:Operand} {b:Bool} (hs:qAt ti.k x y yo=some b) {u v:Value} (hu:RepV E x u) (hv:RepV E y v) (hyo:∀ c,yo = .const c→v=c) :
  (Op.equal t u v).run P w = .ok b w∧((∃ c,u = .bool c)∨(∃ c,u = .pointer c∧v = .pointer none)∨(∃ a b c,u = .slice a b c)∨u = .nilFunc∨(∃ a b c,u = .func a b c)∨(∃ t x,u = .iface t x∧v = .nilIface)∨(u = .nilIface∧v = .nilIface ∧ ∃ c,yo = .const c)∨u = .nilIface ∧ ∃ t x,v = .iface t x):=by
 obtain⟨d,hd,hk⟩:=hT.desc
 unfold qAt at hs
 split at hs
 ·rename_i a' b' e
  rw [e] at hk
  simp only [qK9] at hk
  subst hk
  have hu:=qZe hu
  have hv:=qZe hv
  subst hu hv
  simp only [Option.some.injEq] at hs
  subst hs
  exact⟨qQr fun d=>by simp [Op.equalIn,run_underlying hd],.inl ⟨_,rfl⟩⟩
 ·rename_i e
  rw [e] at hk
  obtain⟨el,rfl⟩:=hk
  simp only [RepV,RepP] at hu hv
  subst hu hv
  simp only [Option.some.injEq] at hs
  subst hs
  exact⟨qQr fun d=>by simp [Op.equalIn,run_underlying hd],.inr (.inl ⟨_,rfl,rfl⟩)⟩
 ·rename_i cs e
  rw [e] at hk
  obtain⟨el,rfl⟩:=hk
  simp only [RepV,RepP] at hu hv
  obtain⟨b',off,rfl,_⟩:=hu
  subst hv
  simp only [Option.some.injEq] at hs
  subst hs
  exact⟨qQr fun d=>by simp [Op.equalIn,run_underlying hd],.inr (.inl ⟨_,rfl,rfl⟩)⟩
 ·rename_i cs e
  rw [e] at hk
  obtain⟨el,rfl⟩:=hk
  simp only [RepV,RepP] at hu hv
  obtain⟨b',off,rfl,_⟩:=hu
  subst hv
  simp only [Option.some.injEq] at hs
  subst hs
  exact⟨qQr fun d=>by simp [Op.equalIn,run_underlying hd],.inr (.inl ⟨_,rfl,rfl⟩)⟩
 ·rename_i n off e
  rw [e] at hk
  obtain⟨el,rfl⟩:=hk
  simp only [RepV,RepP] at hu hv
  obtain⟨b',_,rfl⟩:=hu
  subst hv
  simp only [Option.some.injEq] at hs
  subst hs
  exact⟨qQr fun d=>by simp [Op.equalIn,run_underlying hd],.inr (.inl ⟨_,rfl,rfl⟩)⟩
 ·rename_i e
  rw [e] at hk
  obtain⟨p,r,vv,rfl⟩:=hk
  simp only [RepV,RepP] at hu hv
  subst hu hv
  simp only [Option.some.injEq] at hs
  subst hs
  exact⟨qQr fun d=>by simp [Op.equalIn,run_underlying hd],.inr (.inr (.inr (.inl rfl)))⟩
 ·rename_i f cs e
  rw [e] at hk
  obtain⟨p,r,vv,rfl⟩:=hk
  simp only [RepV,RepP] at hu hv
  obtain⟨vs,rfl,_⟩:=hu
  subst hv
  simp only [Option.some.injEq] at hs
  subst hs
  exact⟨qQr fun d=>by simp [Op.equalIn,run_underlying hd],.inr (.inr (.inr (.inr (.inl ⟨_,_,_,rfl⟩))))⟩
 ·rename_i f cs e
  rw [e] at hk
  obtain⟨p,r,vv,rfl⟩:=hk
  simp only [RepV,RepP] at hu hv
  obtain⟨vs,rfl,_⟩:=hu
  subst hv
  simp only [Option.some.injEq] at hs
  subst hs
  exact⟨qQr fun d=>by simp [Op.equalIn,run_underlying hd],.inr (.inr (.inr (.inr (.inl ⟨_,_,_,rfl⟩))))⟩
 ·rename_i t' p e
  rw [e] at hk
  obtain⟨ms,rfl⟩:=hk
  simp only [RepV,RepP] at hu hv
  obtain⟨x,rfl,_⟩:=hu
  subst hv
  simp only [Option.some.injEq] at hs
  subst hs
  exact⟨qQr fun d=>by simp [Op.equalIn,run_underlying hd],.inr (.inr (.inr (.inr (.inr (.inl ⟨_,_,rfl,rfl⟩)))))⟩
 ·rename_i t' p e
  rw [e] at hk
  obtain⟨ms,rfl⟩:=hk
  simp only [RepV,RepP] at hu hv
  obtain⟨x,rfl,_⟩:=hv
  subst hu
  simp only [Option.some.injEq] at hs
  subst hs
  exact⟨qQr fun d=>by simp [Op.equalIn,run_underlying hd],.inr (.inr (.inr (.inr (.inr (.inr (.inr ⟨rfl,_,_,rfl⟩))))))⟩
 ·rename_i e _
  rw [e] at hk
  obtain⟨ms,rfl⟩:=hk
  simp only [RepV,RepP] at hu
  subst hu
  split at hs
  ·have:=hyo _ rfl
   subst this
   simp only [Option.some.injEq] at hs
   subst hs
   exact⟨qQr fun d=>by simp [Op.equalIn,run_underlying hd],.inr (.inr (.inr (.inr (.inr (.inr (.inl ⟨rfl,rfl,_,rfl⟩))))))⟩
  ·cases hs
 ·rename_i el e
  rw [e] at hk
  simp only [qK9] at hk
  subst hk
  simp only [RepV,RepP] at hu
  subst hu
  split at hs
  ·have:=hyo _ rfl
   subst this
   simp only [Option.some.injEq] at hs
   subst hs
   exact⟨qQr fun d=>by simp [Op.equalIn,run_underlying hd],.inr (.inr (.inl ⟨_,_,_,rfl⟩))⟩
  ·cases hs
 ·rename_i el e1 e2 e
  rw [e] at hk
  simp only [qK9] at hk
  subst hk
  simp only [RepV,RepP] at hu
  obtain⟨ad,cap,rfl,_,_,h0⟩:=hu
  rcases h0 with h0|⟨b',off,rfl,_⟩
  ·cases h0
  split at hs
  ·have:=hyo _ rfl
   subst this
   simp only [Option.some.injEq] at hs
   subst hs
   exact⟨qQr fun d=>by simp [Op.equalIn,run_underlying hd],.inr (.inr (.inl ⟨_,_,_,rfl⟩))⟩
  ·cases hs
 ·cases hs
theorem qAv {t:Nat} {yo:Operand} {u v:Value} {b:Bool} (hr:(Op.equal t u v).run P w = .ok b w)
  (hu:(∃ c,u = .bool c)∨(∃ c,u = .pointer c∧v = .pointer none)∨(∃ a b c,u = .slice a b c)∨u = .nilFunc∨(∃ a b c,u = .func a b c)∨(∃ t x,u = .iface t x∧v = .nilIface)∨(u = .nilIface∧v = .nilIface ∧ ∃ c,yo = .const c)∨u = .nilIface ∧ ∃ t x,v = .iface t x) :
  (binOp .eql t u v).run P w = .ok (.bool b) w∧(binOp .neq t u v).run P w = .ok (.bool !b) w:=by
 rcases hu with ⟨c,rfl⟩|⟨c,rfl,rfl⟩|⟨a',b',c,rfl⟩|rfl|⟨a',b',c,rfl⟩|⟨t',x,rfl,rfl⟩|⟨rfl,rfl,_⟩|⟨rfl,_,_,rfl⟩
 ·cases v<;>simp [binOp,hr]
 ·simp [binOp,hr]
 ·cases v<;>simp [binOp,hr]
 ·cases v<;>simp [binOp,hr]
 ·cases v<;>simp [binOp,hr]
 ·simp [binOp,hr]
 ·simp [binOp,hr]
 ·simp [binOp,hr]
theorem qL4 (h:Ga C E σ a w) (hg:GOK gl C.E0.H) (hd:∀ d,o.dst=some d→d<C.nt) (hT:TOK P T) {b:BinOp} {t t':Nat} {x y:Operand} (ho:o.op = .binOp b t x y t') {r:R} (hc:r.cond)
  (hs:qQb T note (σ.val gl) ob o.dst (.binOp b t x y t')=some r):Sound P C E σ a w o r:=by
 have hx:=qQd h hg x
 have hy:=qQd h hg y
 simp only [qQb] at hs
 split at hs
 ·rename_i ti e
  have hti:=hT t ti e
  unfold qKs at hs
  split at hs
  ·rename_i p q e1 e2
   rw [e1] at hx;rw [e2] at hy
   have hx:=qZa hx
   have hy:=qZa hy
   obtain⟨v,hr,hv,hn,hw,hf⟩:=qIl (P:=P) (E:=E) (w:=w) hs hc t
   obtain⟨c,f,x',wr,nw⟩:=r
   simp only at hw hn hv hf
   subst hw
   refine Sound.pure h (qV7 ho (v:=v) ?_ ?_ ?_) hv (by simp [hn]) hd hf
   ·rw [hx,hy];exact hr
   ·rw [hx];simp
   simp_all
  ·rename_i k p k' q e1 e2
   rw [e1] at hx;rw [e2] at hy
   simp only [RepV,RepP] at hx hy
   split at hs
   ·rename_i ek
    subst ek
    obtain⟨v,hr,hv,hn,hw,hf⟩:=qIm (P:=P) (E:=E) (w:=w) hs hx.2 t
    obtain⟨c,f,x',wr,nw⟩:=r
    simp only at hw hn hv hf
    subst hw
    refine Sound.pure h (qV7 ho (v:=v) ?_ ?_ ?_) hv (by simp [hn]) hd hf
    ·rw [hx.1,hy.1];exact hr
    ·rw [hx.1];simp
    simp_all
   ·cases hs
  ·rename_i k p q e1 e2
   rw [e1] at hx;rw [e2] at hy
   simp only [RepV,RepP] at hx hy
   obtain⟨v,hr,hv,hn,hw,hf⟩:=qFp (P:=P) (E:=E) (w:=w) hs hc hx.2 t
   obtain⟨c,f,x',wr,nw⟩:=r
   simp only at hw hn hv hf
   subst hw
   refine Sound.pure h (qV7 ho (v:=v) ?_ ?_ ?_) hv (by simp [hn]) hd hf
   ·rw [hx.1,hy];exact hr
   ·rw [hx.1];simp
   simp_all
  ·rename_i p q e1 e2
   rw [e1] at hx;rw [e2] at hy
   simp only [RepV,RepP] at hx hy
   have hbq:=qDo hx.2 hy.2
   unfold qG6 at hs
   split at hs
   ·simp only [qZr,Option.some.injEq] at hs
    subst hs
    refine qJ1 h hd (qV7 ho ?_ ?_ ?_)
    ·rw [hx.1,hy.1,binOp_string_eql,ByteArray.toList_mk,ByteArray.toList_mk,hbq];rfl
    ·rw [hx.1];simp
    simp_all
   ·simp only [qZr,Option.some.injEq] at hs
    subst hs
    refine qJ1 h hd (qV7 ho ?_ ?_ ?_)
    ·rw [hx.1,hy.1,binOp_string_neq,ByteArray.toList_mk,ByteArray.toList_mk,hbq];rfl
    ·rw [hx.1];simp
    simp_all
   ·cases hs
  ·have hyo:∀ c,y = .const c→a.eval y=c:=by rintro c rfl;rfl
   split at hs
   all_goals (try cases hs)
   all_goals
    rename_i bb e1
    obtain⟨hr,hu⟩:=qP0 (w:=w) hti e1 hx hy hyo
    refine qJ1 h hd (qV7 ho ?_ ?_ ?_)
    ·first|exact (qAv (yo:=y) hr hu).1|exact (qAv (yo:=y) hr hu).2
    ·rcases hu with ⟨c,hu⟩|⟨c,hu,hu'⟩|⟨a',b',c,hu⟩|hu|⟨a',b',c,hu⟩|⟨t',x,hu,_⟩|⟨hu,_⟩|⟨hu,_⟩<;>rw [hu]<;>simp
    ·rcases hu with ⟨c,hu⟩|⟨c,hu,hu'⟩|⟨a',b',c,hu⟩|hu|⟨a',b',c,hu⟩|⟨t',x,hu,_⟩|⟨_,hu⟩|⟨_,hu⟩<;>first|exact .inr (.inl hu)|exact .inr (.inr hu)|(rw [hu];simp)
 ·cases hs
end
theorem qJ9 (b o k:Nat):(⟨b,o,none⟩:Addr).add k=⟨b,o+k,none⟩:=by
 unfold Addr.add
 split<;>simp_all
theorem RepE.get {H:Hp} {s:Nat} : ∀ {es:List (List PV)} {vs:List Value},RepE H es vs→(∀ e∈es,e.length=s)→∀ i,i<es.length→RepL H (es.getD i []) (vs.drop (i * s))
 | [],_,_,_,i,hi=>by simp at hi
 | e::es,vs,r,hs,0,_=>by grind [RepE]
 | e::es,vs,r,hs,i+1,hi=>by
  have:=RepE.get r.2 (fun x hx=>hs x (by simp [hx])) i (by simpa using hi)
  rw [List.drop_drop,hs e (by simp)] at this
  simpa [Nat.succ_mul,Nat.add_comm] using this
theorem RepVE.get {E:Env} {s:Nat} : ∀ {es:List (List V)} {vs:List Value},RepVE E es vs→(∀ e∈es,e.length=s)→∀ i,i<es.length→RepVL E (es.getD i []) (vs.drop (i * s))
 | [],_,_,_,i,hi=>by simp at hi
 | e::es,vs,r,hs,0,_=>by simpa using r.1
 | e::es,vs,r,hs,i+1,hi=>by
  have:=RepVE.get r.2 (fun x hx=>hs x (by simp [hx])) i (by simpa using hi)
  rw [List.drop_drop,hs e (by simp)] at this
  simpa [Nat.succ_mul,Nat.add_comm] using this
theorem RepE.dropE {H:Hp} {s:Nat} : ∀ {es:List (List PV)} {vs:List Value},RepE H es vs→(∀ e∈es,e.length=s)→∀ i,RepE H (es.drop i) (vs.drop (i * s))
 | es,vs,r,_,0=>by simp_all
 | [],vs,r,_,i+1=>by simp [RepE]
 | e::es,vs,r,hs,i+1=>by
  have:=RepE.dropE r.2 (fun x hx=>hs x (by simp [hx])) i
  rw [List.drop_drop,hs e (by simp)] at this
  simpa [Nat.succ_mul,Nat.add_comm] using this
theorem RepE.takeE {H:Hp} : ∀ {es:List (List PV)} {vs:List Value},RepE H es vs→∀ i,RepE H (es.take i) vs
 | es,vs,r,0=>by simp [RepE]
 | [],vs,r,i+1=>by simp [RepE]
 | e::es,vs,r,i+1=>by
  exact⟨r.1,RepE.takeE r.2 i⟩
section
variable {P:Program} {C:Ctx} {E:Env} {σ:St} {a:Act} {w:World} {gl:Nat→Option (List PV)} {o:Oper} {T:Nat→Option TI} {note:qXa}
theorem qYf {x y:V} {off:Nat} {v:Value} (h:qVs x off=some y) (hx:RepV E x v) :
  ∃ ad:Addr,v = .pointer (some ad)∧RepV E y (.pointer (some (ad.add off)))∧y.names=x.names:=by
 unfold qVs at h
 split at h
 ·cases h
  obtain⟨b,o',rfl,hr⟩:=hx
  refine⟨_,rfl,?_,by rfl⟩
  rw [qJ9]
  exact⟨b,o'+off,rfl,by rw [← List.drop_drop];grind [RepL.drop]⟩
 ·cases h
  obtain⟨b,o',rfl,hr⟩:=hx
  refine⟨_,rfl,?_,by rfl⟩
  rw [qJ9]
  exact⟨b,o'+off,rfl,by rw [← List.drop_drop];grind [RepK.drop]⟩
 ·cases h
  obtain⟨b,hg,rfl⟩:=hx
  refine⟨_,rfl,?_,by rfl⟩
  rw [qJ9]
  exact⟨b,hg,rfl⟩
 ·cases h
  obtain⟨h1,⟨ad,rfl⟩,h2⟩:=hx
  refine⟨ad,rfl,?_,by rfl⟩
  simp only [RepV]
  grind [qJ9,Nat.add_assoc]
 ·cases h
theorem qYg (h:Ga C E σ a w) (hg:GOK gl C.E0.H) (hd:∀ d,o.dst=some d→d<C.nt) (hT:TOK P T) {t f:Nat} {x:Operand} (ho:o.op = .fieldAddr t x f) {r:R} {ob:Nat→Option Ob}
  (hs:qQb T note (σ.val gl) ob o.dst (.fieldAddr t x f)=some r):Sound P C E σ a w o r:=by
 have hx:=qQd h hg x
 have nx:=qQi (gl:=gl) h x
 simp only [qQb] at hs
 split at hs
 ·rename_i fs s1 s2 s3 s4 e
  have hti:=hT t _ e
  obtain⟨d,hde,hk⟩:=hti.desc
  obtain⟨ff,rfl,hmap,_⟩:=hk
  split at hs
  ·rename_i off size ef
   split at hs
   ·cases hs
   ·rename_i hz
    cases ha:qVs (σ.val gl x) off with
    | none=>rw [ha] at hs;cases hs
    | some y =>
     rw [ha] at hs
     simp only [Option.map_some,Option.some.injEq] at hs
     subst hs
     obtain⟨ad,hv,hy,hny⟩:=qYf ha hx
     have hget:(ff.toList.map (fun x=>(x.offset,(P.info? x.type).map (·.size))))[f]? = some (off,some size):=by
      rw [hmap];simp [ef]
     rw [List.getElem?_map] at hget
     cases hff:ff.toList[f]? with
     | none=>rw [hff] at hget;cases hget
     | some fd =>
      rw [hff] at hget
      simp only [Option.map_some,Option.some.injEq,Prod.mk.injEq] at hget
      have hff':ff[f]? = some fd:=by simp_all
      obtain⟨hoff,hsz⟩:=hget
      cases hi:P.info? fd.type with
      | none=>rw [hi] at hsz;cases hsz
      | some i =>
       have hsz:i.size=size:=by simp_all
       refine Sound.pure h (v:=.pointer (some (ad.add off))) (.inl ?_) hy (by rw [hny];exact nx) hd trivial
       simp [execOp,ho,Instr.fieldAt,run_underlying hde,hff',hv,Instr.sureAddr,fieldPlace,sizeOf,typeInfo,hi,hsz,hz,hoff]
  ·cases hs
 ·cases hs
theorem qBs (h:Ga C E σ a w) (hg:GOK gl C.E0.H) (hd:∀ d,o.dst=some d→d<C.nt) {i:Nat} {x:Operand} (ho:o.op = .extract x i) {r:R} {ob:Nat→Option Ob}
  (hs:qQb T note (σ.val gl) ob o.dst (.extract x i)=some r):Sound P C E σ a w o r:=by
 have hx:=qQd h hg x
 have nx:=qQi (gl:=gl) h x
 have getP:∀ (cs:List PV) (vs:List Value) (i:Nat) (c:PV),RepL E.H cs vs→cs[i]? = some c→∃ v,vs[i]? = some v∧RepP E.H c v:=by
  intro cs
  induction cs with
  | nil=>simp
  | cons d cs ih =>
   intro vs i c hr hc
   cases vs with
   | nil=>grind [RepL]
   | cons v vs =>
    simp only [RepL] at hr
    grind
 have getV:∀ (cs:List V) (vs:List Value) (i:Nat) (c:V),RepVL E cs vs→cs[i]? = some c→∃ v,vs[i]? = some v∧RepV E c v:=by
  intro cs
  induction cs with
  | nil=>simp
  | cons d cs ih =>
   intro vs i c hr hc
   cases vs with
   | nil=>grind [RepVL]
   | cons v vs =>
    simp only [RepVL] at hr
    grind
 simp only [qQb] at hs
 split at hs
 ·rename_i cs e
  rw [e] at hx
  simp only [RepV,RepP] at hx
  obtain⟨vs,hv,hl,hr⟩:=hx
  cases hc:cs[i]? with
  | none=>rw [hc] at hs;cases hs
  | some c =>
   rw [hc] at hs
   simp only [Option.map_some,Option.some.injEq] at hs
   subst hs
   obtain⟨v,hvi,hrc⟩:=getP cs vs i c hr hc
   refine Sound.pure h (v:=v) (.inl ?_) (by grind [RepV]) (by simp [V.names]) hd trivial
   simp [execOp,ho,hv,Instr.extract,hvi]
 ·rename_i cs e
  rw [e] at hx nx
  obtain⟨vs,hv,hl,hr⟩:=hx
  cases hc:cs[i]? with
  | none=>rw [hc] at hs;cases hs
  | some c =>
   rw [hc] at hs
   simp only [Option.map_some,Option.some.injEq] at hs
   subst hs
   obtain⟨v,hvi,hrc⟩:=getV cs vs i c hr hc
   refine Sound.pure h (v:=v) (.inl ?_) hrc (fun n hn=>nx n ?_) hd trivial
   ·simp [execOp,ho,hv,Instr.extract,hvi]
   ·exact mem_namesL.2 ⟨c,List.mem_of_getElem? hc,hn⟩
 ·cases hs
theorem qBt (a b:Nat):Nat.blt a b=decide (a<b):=by
 rw [Bool.eq_iff_iff]
 simp [Nat.blt,Nat.lt_iff_add_one_le]
theorem qAw {P:Program} {f:List Field} {i:Nat} (hi:i<1000):∀ {pl:List Nat},qYb P f pl=true→pl.elem i=true→∃ x d,f[i]? = some x∧P.underlying x.type=some d∧(∀ ff,d ≠ .struct ff) ∧ ∀ n e,d ≠ .array n e
 | [],_,h=>by cases h
 | k::pl,h,he=>by
  unfold qYb at h
  rw [Bool.and_eq_true] at h
  by_cases e:i=k
  ·subst e
   have h:=h.1
   rw [show Nat.blt i 1000=true by rw [qBt];simpa using hi,cond_true] at h
   grind
  ·exact qAw hi h.2 (by simp only [List.elem_cons] at he;grind)
theorem qG8 {P:Program} {f:List Field} {i:Nat} : ∀ {pl:List Nat},qYb P f pl=true→pl.elem (i+1000)=true→∃ x d,f[i]? = some x∧P.underlying x.type=some d∧((∃ ff,d = .struct ff) ∨ ∃ n e,d = .array n e)
 | [],_,h=>by cases h
 | k::pl,h,he=>by
  unfold qYb at h
  rw [Bool.and_eq_true] at h
  by_cases e:i+1000=k
  ·subst e
   have h:=h.1
   rw [show Nat.blt (i+1000) 1000=false by rw [qBt];simp,cond_false,Nat.add_sub_cancel] at h
   grind
  ·exact qG8 h.2 (by simp only [List.elem_cons] at he;grind)
theorem qFq (h:Ga C E σ a w) (hg:GOK gl C.E0.H) (hd:∀ d,o.dst=some d→d<C.nt) (hT:TOK P T) {t f:Nat} {x:Operand} (ho:o.op = .field t x f) {r:R} {ob:Nat→Option Ob} (hcd:r.cond)
  (hs:qQb T note (σ.val gl) ob o.dst (.field t x f)=some r):Sound P C E σ a w o r:=by
 have hx:=qQd h hg x
 have nx:=qQi (gl:=gl) h x
 have getP:∀ (cs:List PV) (vs:List Value) (i:Nat) (c:PV),RepL E.H cs vs→cs[i]? = some c→∃ v,vs[i]? = some v∧RepP E.H c v:=by
  intro cs
  induction cs with
  | nil=>simp
  | cons d cs ih =>
   intro vs i c hr hc
   cases vs with
   | nil=>grind [RepL]
   | cons v vs =>
    simp only [RepL] at hr
    grind
 have getV:∀ (cs:List V) (vs:List Value) (i:Nat) (c:V),RepVL E cs vs→cs[i]? = some c→∃ v,vs[i]? = some v∧RepV E c v:=by
  intro cs
  induction cs with
  | nil=>simp
  | cons d cs ih =>
   intro vs i c hr hc
   cases vs with
   | nil=>grind [RepVL]
   | cons v vs =>
    simp only [RepVL] at hr
    grind
 simp only [qQb] at hs
 split at hs
 ·rename_i fs pl s1 s2 s3 s4 e
  have hti:=hT t _ e
  obtain⟨d,hde,hk⟩:=hti.desc
  simp only [qK9] at hk
  obtain⟨ff,rfl,hmap,hpl⟩:=hk
  cases he0:(Nat.blt f 1000 && pl.elem f) with
  | false =>
   rw [he0,cond_false] at hs
   cases he:pl.elem (f+1000) with
   | false=>rw [he] at hs;cases hs
   | true =>
   rw [he,cond_true] at hs
   obtain⟨fd,dd,hfd,hdd,hn⟩:=qG8 hpl he
   split at hs
   ·rename_i off size ef
    have hget:(ff.toList.map (fun x=>(x.offset,(P.info? x.type).map (·.size))))[f]? = some (off,some size):=by
     rw [hmap];simp [ef]
    rw [List.getElem?_map,hfd] at hget
    simp only [Option.map_some,Option.some.injEq,Prod.mk.injEq] at hget
    obtain⟨hoff,hsz⟩:=hget
    have hff':ff[f]? = some fd:=by simp_all
    have hag:(isAgg fd.type).run P w = .ok true w:=by
     rcases hn with ⟨ff,rfl⟩|⟨n,e,rfl⟩<;>simp [isAgg,run_underlying hdd]
    obtain⟨ti,hti2,hsz⟩:=Option.map_eq_some_iff.1 hsz
    have hso:(sizeOf fd.type).run P w = .ok size w:=by simp [sizeOf,typeInfo,hti2,hsz]
    split at hs
    ·rename_i cs ev
     rw [ev] at hx
     simp only [RepV,RepP] at hx
     obtain⟨vs,hv,hl,hr⟩:=hx
     cases hs
     have hc:off+size≤cs.length:=hcd
     refine Sound.pure h (v:=.agg ((vs.drop off).take size).toArray) (.inl ?_) ?_ (by simp [V.names]) hd trivial
     ·have he:vs.toArray.extract off (off+size)=((vs.drop off).take size).toArray:=by simp
      simp [execOp,ho,hv,Instr.field,run_underlying hde,hff',asAgg,part,hag,hso,hoff,he]
     ·simp only [RepV,RepP]
      refine⟨_,rfl,?_,(hr.drop _).take _⟩
      simp [hl]
    ·cases hs
   ·cases hs
  | true =>
  rw [he0] at hs
  simp only [cond_true] at hs
  rw [Bool.and_eq_true] at he0
  have he:=he0.2
  have hf1:f<1000:=by have:=he0.1;rw [qBt] at this;exact of_decide_eq_true this
  obtain⟨fd,dd,hfd,hdd,hn1,hn2⟩:=qAw hf1 hpl he
  split at hs
  ·rename_i off size ef
   have hget:(ff.toList.map (fun x=>(x.offset,(P.info? x.type).map (·.size))))[f]? = some (off,some size):=by
    rw [hmap];simp [ef]
   rw [List.getElem?_map,hfd] at hget
   simp only [Option.map_some,Option.some.injEq,Prod.mk.injEq] at hget
   obtain⟨hoff,_⟩:=hget
   have hff':ff[f]? = some fd:=by simp_all
   have hag:(isAgg fd.type).run P w = .ok false w:=by
    cases dd<;>first|exact absurd rfl (hn1 _)|exact absurd rfl (hn2 _ _)|simp [isAgg,run_underlying hdd]
   split at hs
   ·rename_i cs ev
    rw [ev] at hx
    simp only [RepV,RepP] at hx
    obtain⟨vs,hv,hl,hr⟩:=hx
    cases hc:cs[off]? with
    | none=>rw [hc] at hs;cases hs
    | some c =>
     rw [hc] at hs
     simp only [Option.map_some,Option.some.injEq] at hs
     subst hs
     obtain⟨v,hvi,hrc⟩:=getP cs vs off c hr hc
     refine Sound.pure h (v:=v) (.inl ?_) (by simpa [RepV] using hrc) (by simp [V.names]) hd trivial
     simp [execOp,ho,hv,Instr.field,run_underlying hde,hff',asAgg,part,hag,hoff,hvi]
   ·rename_i cs ev
    rw [ev] at hx nx
    obtain⟨vs,hv,hl,hr⟩:=hx
    cases hc:cs[off]? with
    | none=>rw [hc] at hs;cases hs
    | some c =>
     rw [hc] at hs
     simp only [Option.map_some,Option.some.injEq] at hs
     subst hs
     obtain⟨v,hvi,hrc⟩:=getV cs vs off c hr hc
     refine Sound.pure h (v:=v) (.inl ?_) hrc (fun n hn=>nx n ?_) hd trivial
     ·simp [execOp,ho,hv,Instr.field,run_underlying hde,hff',asAgg,part,hag,hoff,hvi]
     ·exact mem_namesL.2 ⟨c,List.mem_of_getElem? hc,hn⟩
   ·cases hs
  ·cases hs
 ·cases hs
end
end Go.Lg
