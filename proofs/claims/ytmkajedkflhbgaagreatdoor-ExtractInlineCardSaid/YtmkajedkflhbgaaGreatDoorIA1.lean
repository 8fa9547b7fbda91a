/- The logic of contracts; no conditions. -/
import Derived.Laws.AppendOwn
import Derived.Laws.OwnMore
import Derived.Laws.AppendOwnNone
import Derived.Orders
import Derived.Tactics
import Derived.Laws.Strings2
import Derived.Laws.Build
import Derived.IntWalk
set_option linter.all false
namespace Go.Lg
inductive PV where
 | int (n:Int)
 | bool (b:Bool)
 | nil
 | nils
 | nilfn
 | nilm
 | nilif
 | ptr (cs:List PV)
 | slice (es:List (List PV))
 | agg (cs:List PV)
 | tuple (cs:List PV)
 | iface (t:Nat) (p:PV)
 | fnc (f:Nat)
 | num (k:IntKind) (n:Int)
 | flg (b:Bool)
 | nptr (cs:List PV)
 | str (l:List Nat)
def mark (b:Bool):Value:=.int .i16 (if b then 1 else 0)
inductive V where
 | undef
 | pv (p:PV)
 | loc (n off:Nat)
 | eloc (n ver i off:Nat)
 | arr (n ver len:Nat)
 | map (n:Nat)
 | vsl (es:List (List V))
 | fsl (es:List (List PV))
 | gsl (n ver:Nat) (es:List (List PV))
 | fn (f:Nat) (caps:List V)
 | bfn (f:Nat) (bs:List V)
 | agg (cs:List V)
 | tuple (cs:List V)
abbrev Hp:=Nat->List Value
mutual
def RepP (H:Hp):PV->Value->Prop
 | .int n,v=>v = .int .i64 n
 | .bool b,v=>v = .bool b
 | .nil,v=>v = .pointer none
 | .nils,v=>v = .slice none 0 0
 | .nilfn,v=>v = .nilFunc
 | .nilm,v=>v = .map none
 | .nilif,v=>v = .nilIface
 | .ptr cs,v => ∃ b off,v = .pointer (some ⟨b,off,none⟩)/\RepL H cs ((H b).drop off)
 | .nptr cs,v => ∃ b off,v = .pointer (some ⟨b,off,none⟩)/\RepK H cs ((H b).drop off)
 | .slice es,v => ∃ a cap,v = .slice a es.length cap/\es.length<=cap/\es.length<=maxLen /\
   (es=[] \/ ∃ b off,a=some ⟨b,off,none⟩/\RepE H es ((H b).drop off))
 | .agg cs,v => ∃ vs:List Value,v = .agg vs.toArray/\vs.length=cs.length/\RepL H cs vs
 | .tuple cs,v => ∃ vs:List Value,v = .tuple vs.toArray/\vs.length=cs.length/\RepL H cs vs
 | .iface t p,v => ∃ u,v = .iface t u/\RepP H p u
 | .fnc f,v=>v = .func (.func f) #[] #[]
 | .num k n,v=>v = .int k n/\k ≠ .i16/\k ≠ .i8
 | .flg b,v => ∃ c,v = .bool c/\(c=true->b=true)
 | .str l,v=>v = .string ⟨(l.map UInt8.ofNat).toArray⟩ /\ ∀ b∈l,b<256
def RepL (H:Hp):List PV->List Value->Prop
 | [],_=>True
 | _::_,[]=>False
 | c::cs,v::vs=>RepP H c v/\RepL H cs vs
def RepK (H:Hp):List PV->List Value->Prop
 | [],_=>True
 | _::_,[]=>False
 | .flg b::cs,v::vs=>v=mark b/\RepK H cs vs
 | c::cs,v::vs=>RepP H c v/\RepK H cs vs
def RepE (H:Hp):List (List PV)->List Value->Prop
 | [],_=>True
 | e::es,vs=>RepL H e vs/\RepE H es (vs.drop e.length)
end
structure Env where
 H:Hp
 g:Nat->Value
 ver:Nat->Nat
 sz:Nat->Nat
mutual
def RepV (E:Env):V->Value->Prop
 | .undef,_=>True
 | .pv p,v=>RepP E.H p v
 | .loc n off,v => ∃ b,E.g n = .pointer (some ⟨b,0,none⟩)/\v = .pointer (some ⟨b,off,none⟩)
 | .eloc n ver i off,v=>ver<=E.ver n/\(∃ a:Addr,v = .pointer (some a)) /\
   (ver=E.ver n->∃ b L cap,E.g n = .slice (some ⟨b,0,none⟩) L cap/\v = .pointer (some ⟨b,i * E.sz n+off,none⟩)/\i<L)
 | .arr n ver len,v=>ver<=E.ver n/\(∃ a l c,v = .slice a l c) /\
   (ver=E.ver n->∃ a L cap,E.g n = .slice a L cap/\v = .slice a len cap/\len<=L)
 | .map n,v => ∃ b,E.g n = .map (some b)/\v = .map (some b)
 | .gsl n ver es,v=>RepP E.H (.slice es) v/\ver<=E.ver n/\(ver=E.ver n->E.g n=v)
 | .vsl es,v => ∃ a cap,v = .slice a es.length cap/\es.length<=cap/\es.length<=maxLen /\
   (es=[] \/ ∃ b off,a=some ⟨b,off,none⟩/\RepVE E es ((E.H b).drop off))
 | .fsl es,v => ∃ a,v = .slice a es.length es.length/\es.length<=maxLen/\(es=[] \/ ∃ b off,a=some ⟨b,off,none⟩/\RepE E.H es ((E.H b).drop off))
 | .fn f cs,v => ∃ vs:List Value,v = .func (.func f) #[] vs.toArray/\vs.length=cs.length/\RepVL E cs vs
 | .bfn f bs,v => ∃ vs:List Value,v = .func (.func f) vs.toArray #[]/\vs.length=bs.length/\RepVL E bs vs
 | .agg cs,v => ∃ vs:List Value,v = .agg vs.toArray/\vs.length=cs.length/\RepVL E cs vs
 | .tuple cs,v => ∃ vs:List Value,v = .tuple vs.toArray/\vs.length=cs.length/\RepVL E cs vs
def RepVL (E:Env):List V->List Value->Prop
 | [],_=>True
 | _::_,[]=>False
 | c::cs,v::vs=>RepV E c v/\RepVL E cs vs
def RepVE (E:Env):List (List V)->List Value->Prop
 | [],_=>True
 | e::es,vs=>RepVL E e vs/\RepVE E es (vs.drop e.length)
end
mutual
def V.names:V->List Nat
 | .loc n _=>[n]
 | .eloc n _ _ _=>[n]
 | .arr n _ _=>[n]
 | .map n=>[n]
 | .gsl n _ _=>[n]
 | .vsl es=>qB es
 | .fn _ cs=>GA cs
 | .bfn _ bs=>GA bs
 | .agg cs=>GA cs
 | .tuple cs=>GA cs
 | _=>[]
def GA:List V->List Nat
 | []=>[]
 | c::cs=>c.names++GA cs
def qB:List (List V)->List Nat
 | []=>[]
 | e::es=>GA e++qB es
end
def Hle (H H':Hp):Prop:=∀ b,H b <+: H' b
theorem Hle.refl (H:Hp):Hle H H:=λ _=>List.prefix_rfl
theorem Hle.trans {A B C:Hp} (h:Hle A B) (h':Hle B C):Hle A C:=λ b=>(h b).trans (h' b)
theorem ZK {α:Type} {l m:List α} (h:l <+: m) (n:Nat):l.drop n <+: m.drop n:=by
 obtain⟨t,rfl⟩:=h;rw [List.drop_append];exact List.prefix_append _ _
mutual
theorem RepP.mono {H H':Hp} (h:Hle H H'):∀ (p:PV) (v:Value),RepP H p v->RepP H' p v
 | .int _,_,r=>by simpa only [RepP] using r
 | .bool _,_,r=>by simpa only [RepP] using r
 | .nil,_,r=>by simpa only [RepP] using r
 | .nils,_,r=>by simpa only [RepP] using r
 | .nilfn,_,r=>by simpa only [RepP] using r
 | .nilm,_,r=>by simpa only [RepP] using r
 | .nilif,_,r=>by simpa only [RepP] using r
 | .fnc _,_,r=>by simpa only [RepP] using r
 | .num _ _,_,r=>by simpa only [RepP] using r
 | .flg _,_,r=>by simpa only [RepP] using r
 | .str _,_,r=>by simpa only [RepP] using r
 | .ptr cs,v,r=>by
  simp only [RepP] at r ⊢;obtain⟨b,off,hv,hr⟩:=r;exact⟨b,off,hv,RepL.mono h cs _ _ (ZK (h b) off) hr⟩
 | .nptr cs,v,r=>by
  simp only [RepP] at r ⊢;obtain⟨b,off,hv,hr⟩:=r;exact⟨b,off,hv,RepK.mono h cs _ _ (ZK (h b) off) hr⟩
 | .slice es,v,r=>by
  simp only [RepP] at r ⊢;obtain⟨a,cap,hv,h1,h2,h3⟩:=r;refine⟨a,cap,hv,h1,h2,?_⟩;rcases h3 with h3|⟨b,off,ha,hr⟩
  ·exact .inl h3
  ·exact .inr ⟨b,off,ha,RepE.mono h es _ _ (ZK (h b) off) hr⟩
 | .agg cs,v,r=>by
  simp only [RepP] at r ⊢;obtain⟨vs,hv,hl,hr⟩:=r;exact⟨vs,hv,hl,RepL.mono h cs _ _ List.prefix_rfl hr⟩
 | .tuple cs,v,r=>by
  simp only [RepP] at r ⊢;obtain⟨vs,hv,hl,hr⟩:=r;exact⟨vs,hv,hl,RepL.mono h cs _ _ List.prefix_rfl hr⟩
 | .iface t p,v,r=>by
  simp only [RepP] at r ⊢;obtain⟨u,hv,hr⟩:=r;exact⟨u,hv,RepP.mono h p u hr⟩
theorem RepL.mono {H H':Hp} (h:Hle H H'):∀ (cs:List PV) (vs vs':List Value),vs <+: vs'->RepL H cs vs->RepL H' cs vs'
 | [],_,_,_,_=>by simp only [RepL]
 | c::cs,vs,vs',hp,r=>by
  cases vs with
  | nil=>simp only [RepL] at r
  | cons v vs =>
   obtain⟨t,rfl⟩:=hp;simp only [RepL,List.cons_append] at r ⊢;exact⟨RepP.mono h c v r.1,RepL.mono h cs vs _ (List.prefix_append _ _) r.2⟩
theorem RepK.mono {H H':Hp} (h:Hle H H'):∀ (cs:List PV) (vs vs':List Value),vs <+: vs'->RepK H cs vs->RepK H' cs vs'
 | [],_,_,_,_=>by simp only [RepK]
 | c::cs,vs,vs',hp,r=>by
  cases vs with
  | nil=>simp only [RepK] at r
  | cons v vs =>
   obtain⟨t,rfl⟩:=hp;by_cases hc:∃ b,c = .flg b
   ·obtain⟨b,rfl⟩:=hc;simp only [RepK,List.cons_append] at r ⊢;exact⟨r.1,RepK.mono h cs vs _ (List.prefix_append _ _) r.2⟩
   ·have hc:∀ b,c = .flg b->False:=λ b e=>hc ⟨b,e⟩
    rw [RepK.eq_4 _ _ _ _ _ hc] at r;rw [List.cons_append,RepK.eq_4 _ _ _ _ _ hc];exact⟨RepP.mono h c v r.1,RepK.mono h cs vs _ (List.prefix_append _ _) r.2⟩
theorem RepE.mono {H H':Hp} (h:Hle H H'):∀ (es:List (List PV)) (vs vs':List Value),vs <+: vs'->RepE H es vs->RepE H' es vs'
 | [],_,_,_,_=>by simp only [RepE]
 | e::es,vs,vs',hp,r=>by
  simp only [RepE] at r ⊢;exact⟨RepL.mono h e vs vs' hp r.1,RepE.mono h es _ _ (ZK hp _) r.2⟩
end
theorem RepK.cons {H:Hp} {c:PV} {cs:List PV} {v:Value} {vs:List Value} (h:(RepP H c v /\ ∀ b,c ≠ .flg b) \/ ∃ b,c = .flg b/\v=mark b) (h':RepK H cs vs):RepK H (c::cs) (v::vs):=by
 rcases h with ⟨h,hc⟩|⟨b,rfl,rfl⟩
 ·rw [RepK.eq_4 _ _ _ _ _ (λ b e=>hc b e)];exact⟨h,h'⟩
 ·simp only [RepK];exact⟨trivial,h'⟩
theorem RepK.uncons {H:Hp} {c:PV} {cs:List PV} {v:Value} {vs:List Value} (h:RepK H (c::cs) (v::vs)):(RepP H c v \/ ∃ b,c = .flg b/\v=mark b)/\RepK H cs vs:=by
 by_cases hc:∃ b,c = .flg b
 ·obtain⟨b,rfl⟩:=hc;simp only [RepK] at h;exact⟨.inr ⟨b,rfl,h.1⟩,h.2⟩
 ·have hc:∀ b,c = .flg b->False:=λ b e=>hc ⟨b,e⟩
  rw [RepK.eq_4 _ _ _ _ _ hc] at h;exact⟨.inl h.1,h.2⟩
theorem RepL.len {H:Hp} : ∀ {cs:List PV} {vs:List Value},RepL H cs vs->cs.length<=vs.length
 | [],_,_=>Nat.zero_le _
 | c::cs,[],r=>by simp only [RepL] at r
 | c::cs,v::vs,r=>by
  simp only [RepL] at r;have:=RepL.len r.2;simp;omega
theorem RepK.len {H:Hp} : ∀ {cs:List PV} {vs:List Value},RepK H cs vs->cs.length<=vs.length
 | [],_,_=>Nat.zero_le _
 | c::cs,[],r=>by simp only [RepK] at r
 | c::cs,v::vs,r=>by
  have:=RepK.len r.uncons.2;simp;omega
theorem RepVL.len {E:Env} : ∀ {cs:List V} {vs:List Value},RepVL E cs vs->cs.length<=vs.length
 | [],_,_=>Nat.zero_le _
 | c::cs,[],r=>by simp only [RepVL] at r
 | c::cs,v::vs,r=>by
  simp only [RepVL] at r;have:=RepVL.len r.2;simp;omega
def EExt (E E':Env) (n:Nat):Prop :=
 E'.sz n=E.sz n/\(E'.g n=E.g n/\E'.ver n=E.ver n\/E.ver n<E'.ver n /\ ∃ a l c,E.g n = .slice a l c)
theorem EExt.refl (E:Env) (n:Nat):EExt E E n:=⟨rfl,.inl ⟨rfl,rfl⟩⟩
theorem EExt.trans {A B C:Env} {n:Nat} (h:EExt A B n) (h':EExt B C n):EExt A C n:=by
 obtain⟨s,h⟩:=h;obtain⟨s',h'⟩:=h';refine⟨s'.trans s,?_⟩;rcases h with ⟨g,v⟩|⟨v,e⟩<;>rcases h' with ⟨g',v'⟩|⟨v',e'⟩
 ·exact .inl ⟨g'.trans g,v'.trans v⟩
 ·exact .inr ⟨by omega,by rwa [g] at e'⟩
 ·exact .inr ⟨by omega,e⟩
 ·exact .inr ⟨by omega,e⟩
theorem EExt.of_eq {E E':Env} {n:Nat} (hg:E'.g n=E.g n) (hv:E'.ver n=E.ver n) (hs:E'.sz n=E.sz n):EExt E E' n:=⟨hs,.inl ⟨hg,hv⟩⟩
mutual
theorem RepV.mono {E E':Env} (h:Hle E.H E'.H):∀ (x:V) (v:Value),(∀ n∈x.names,EExt E E' n)->RepV E x v->RepV E' x v
 | .undef,_,_,_=>by simp only [RepV]
 | .pv p,v,_,r=>by simp only [RepV] at r ⊢;exact RepP.mono h p v r
 | .loc n off,v,hn,r=>by
  simp only [RepV] at r ⊢;obtain⟨b,hg,hv⟩:=r;rcases (hn n (by simp [V.names])).2 with ⟨g,_⟩|⟨_,a,l,c,e⟩
  ·exact⟨b,g.trans hg,hv⟩
  ·rw [hg] at e;cases e
 | .eloc n ver i off,v,hn,r=>by
  simp only [RepV] at r ⊢;obtain⟨hle,hp,hr⟩:=r;obtain⟨hs,hx⟩:=hn n (by simp [V.names]);rcases hx with ⟨g,hv⟩|⟨hv,_⟩
  ·refine⟨by omega,hp,λ e => ?_⟩;rw [g,hs];exact hr (by omega)
  ·exact⟨by omega,hp,λ e=>by omega⟩
 | .arr n ver len,v,hn,r=>by
  simp only [RepV] at r ⊢;obtain⟨hle,hp,hr⟩:=r;obtain⟨_,hx⟩:=hn n (by simp [V.names]);rcases hx with ⟨g,hv⟩|⟨hv,_⟩
  ·refine⟨by omega,hp,λ e => ?_⟩;rw [g];exact hr (by omega)
  ·exact⟨by omega,hp,λ e=>by omega⟩
 | .gsl n ver es,v,hn,r=>by
  simp only [RepV] at r ⊢;obtain⟨hp,hle,hr⟩:=r;refine⟨RepP.mono h _ _ hp,?_⟩;rcases (hn n (by simp [V.names])).2 with ⟨g,hv⟩|⟨hv,_⟩
  ·exact⟨by omega,λ e=>by rw [g];exact hr (by omega)⟩
  ·exact⟨by omega,λ e=>by omega⟩
 | .map n,v,hn,r=>by
  simp only [RepV] at r ⊢;obtain⟨b,hg,hv⟩:=r;rcases (hn n (by simp [V.names])).2 with ⟨g,_⟩|⟨_,a,l,c,e⟩
  ·exact⟨b,g.trans hg,hv⟩
  ·rw [hg] at e;cases e
 | .vsl es,v,hn,r=>by
  simp only [RepV] at r ⊢;obtain⟨a,cap,hv,h1,h2,h3⟩:=r;refine⟨a,cap,hv,h1,h2,?_⟩;rcases h3 with h3|⟨b,off,ha,hr⟩
  ·exact .inl h3
  ·exact .inr ⟨b,off,ha,RepVE.mono h es _ _ (ZK (h b) off) (by simpa only [V.names] using hn) hr⟩
 | .fsl es,v,hn,r=>by
  simp only [RepV] at r ⊢;obtain⟨a,hv,h2,h3⟩:=r;refine⟨a,hv,h2,?_⟩;rcases h3 with h3|⟨b,off,ha,hr⟩
  ·exact .inl h3
  ·exact .inr ⟨b,off,ha,RepE.mono h es _ _ (ZK (h b) off) hr⟩
 | .fn f cs,v,hn,r=>by
  simp only [RepV] at r ⊢;obtain⟨vs,hv,hl,hr⟩:=r;exact⟨vs,hv,hl,RepVL.mono h cs _ _ List.prefix_rfl (by simpa only [V.names] using hn) hr⟩
 | .bfn f cs,v,hn,r=>by
  simp only [RepV] at r ⊢;obtain⟨vs,hv,hl,hr⟩:=r;exact⟨vs,hv,hl,RepVL.mono h cs _ _ List.prefix_rfl (by simpa only [V.names] using hn) hr⟩
 | .agg cs,v,hn,r=>by
  simp only [RepV] at r ⊢;obtain⟨vs,hv,hl,hr⟩:=r;exact⟨vs,hv,hl,RepVL.mono h cs _ _ List.prefix_rfl (by simpa only [V.names] using hn) hr⟩
 | .tuple cs,v,hn,r=>by
  simp only [RepV] at r ⊢;obtain⟨vs,hv,hl,hr⟩:=r;exact⟨vs,hv,hl,RepVL.mono h cs _ _ List.prefix_rfl (by simpa only [V.names] using hn) hr⟩
theorem RepVL.mono {E E':Env} (h:Hle E.H E'.H):∀ (cs:List V) (vs vs':List Value),vs <+: vs'->(∀ n∈GA cs,EExt E E' n)->RepVL E cs vs->RepVL E' cs vs'
 | [],_,_,_,_,_=>by simp only [RepVL]
 | c::cs,vs,vs',hp,hn,r=>by
  cases vs with
  | nil=>simp only [RepVL] at r
  | cons v vs =>
   obtain⟨t,rfl⟩:=hp;simp only [RepVL,List.cons_append] at r ⊢;exact⟨RepV.mono h c v (λ n hm=>hn n (by simp [GA,hm])) r.1,RepVL.mono h cs vs _ (List.prefix_append _ _) (λ n hm=>hn n (by simp [GA,hm])) r.2⟩
theorem RepVE.mono {E E':Env} (h:Hle E.H E'.H):∀ (es:List (List V)) (vs vs':List Value),vs <+: vs'->(∀ n∈qB es,EExt E E' n)->RepVE E es vs->RepVE E' es vs'
 | [],_,_,_,_,_=>by simp only [RepVE]
 | e::es,vs,vs',hp,hn,r=>by
  simp only [RepVE] at r ⊢;exact⟨RepVL.mono h e vs vs' hp (λ n hm=>hn n (by simp [qB,hm])) r.1,RepVE.mono h es _ _ (ZK hp _) (λ n hm=>hn n (by simp [qB,hm])) r.2⟩
end
inductive SK where
 | int (n:Int)
 | str (l:List Nat)
def SK.kind:SK->Bool
 | .int _=>false
 | .str _=>true
def SK.v:SK->Value
 | .int n => .int .i64 n
 | .str l => .string ⟨(l.map UInt8.ofNat).toArray⟩
def SK.ok:SK->Prop
 | .int _=>True
 | .str l => ∀ b∈l,b<256
def oD:List Nat->List Nat->Bool
 | [],[]=>true
 | a::x,b::y=>Nat.beq a b && oD x y
 | _,_=>false
theorem mM:∀ (x y:List Nat),oD x y=true↔x=y
 | [],[]=>by simp [oD]
 | [],_::_=>by simp [oD]
 | _::_,[]=>by simp [oD]
 | a::x,b::y=>by simp [oD,mM x y]
def SK.eqB:SK->SK->Bool
 | .int a,.int b=>decide (a=b)
 | .str x,.str y=>oD x y
 | _,_=>false
theorem SK.eqB_iff (a b:SK):SK.eqB a b=true↔a=b:=by
 cases a<;>cases b<;>simp [SK.eqB,mM]
def OB:List (SK × V)->List Nat
 | []=>[]
 | (_,x)::r=>x.names++OB r
inductive Ob where
 | box (cs:List V)
 | arr (ver sz ty:Nat) (es:List (List V))
 | smap (s:Bool) (es:List (SK × V))
 | siter (l:List Nat) (p:Nat)
 | raw (v:Value) (x:Obj)
 | grow (ver sz ty:Nat) (es:List (List PV))
def Ob.gr:Ob->Bool
 | .grow _ _ _ _=>true
 | _=>false
def Ob.names:Ob->List Nat
 | .box cs=>GA cs
 | .arr _ _ _ es=>qB es
 | .smap _ es=>OB es
 | .siter _ _=>[]
 | .raw _ _=>[]
 | .grow _ _ _ _=>[]
def xA:Value->Option Nat
 | .pointer (some a)=>some a.block
 | .slice (some a) _ _=>some a.block
 | .map (some b)=>some b
 | _=>none
def EntsS (E:Env) (s:Bool):List (SK × V)->List MapEntry->Prop
 | [],[]=>True
 | (k,x)::es,e::ms=>(e.key=k.v/\k.kind=s/\k.ok/\RepV E x e.val)/\EntsS E s es ms
 | _,_=>False
def StampOK (ms:List MapEntry) (ck:Nat):Prop:=(∀ x∈ms,x.born<ck)/\(ms.map (·.born)).Nodup
def zC:Value:=.int .i8 0
def sn (v:Value):Value:=match v with
 | .int .i8 _=>zC
 | .int .i16 _=>zC
 | v=>v
def ObOK (E:Env) (w:World) (n:Nat):Ob->Prop
 | .box cs => ∃ b c T,E.g n = .pointer (some ⟨b,0,none⟩)/\w.heap[b]? = some (.cells c T (0,0))/\c.size=cs.length/\RepVL E cs c.toList/\E.H b=[]
 | .arr ver sz ty es=>E.ver n=ver/\E.sz n=sz/\(∀ e∈es,e.length=sz) /\
   ∃ xs,w.ownsRow 0 ty sz (E.g n) es.length xs/\RepVE E es xs /\ ∀ b,(E.g n).ownBlock=some b->E.H b=[]
 | .smap s es => ∃ b ms ck,E.g n = .map (some b)/\w.heap[b]? = some (.map ms ck)/\E.H b=[]/\EntsS E s es ms.toList/\StampOK ms.toList ck
 | .siter l p => ∃ b,E.g n = .pointer (some ⟨b,0,none⟩)/\w.heap[b]? = some (.stringIter ⟨(l.map UInt8.ofNat).toArray⟩ p)/\E.H b=[] /\ ∀ x∈l,x<256
 | .raw v x=>E.g n=v /\ ∃ b,xA v=some b/\w.heap[b]? = some x/\E.H b=[]
 | .grow ver sz ty es=>E.ver n=ver/\E.sz n=sz/\(∀ e∈es,e.length=sz) /\
   ∃ xs,w.ownsRow 0 ty sz (E.g n) es.length xs/\RepE E.H es xs /\ ∀ b,(E.g n).ownBlock=some b->E.H b=xs.map sn
def nf (l:List Value):Prop:=∀ v∈l,∀ b,v≠mark b
def Msk (l m:List Value):Prop:=l.length<=m.length/\(∀ (i:Nat) (v:Value),l[i]? = some v->v≠zC->(∀ b,v≠mark b)->m[i]? = some v) /\
 ∀ (i:Nat) (b:Bool),l[i]? = some (mark b)->∃ c,m[i]? = some (.bool c)/\(c=true->b=true)
theorem Dh (b:Bool):mark b≠zC:=by simp [mark,zC]
theorem Msk.drop {l m:List Value} (h:Msk l m) (k:Nat):Msk (l.drop k) (m.drop k):=by
 refine⟨by have:=h.1;simp;omega,λ i v hi hv hb => ?_,λ i b hi => ?_⟩
 ·rw [List.getElem?_drop] at hi ⊢;exact h.2.1 _ v hi hv hb
 ·rw [List.getElem?_drop] at hi ⊢;exact h.2.2 _ b hi
theorem Msk.tail {x y:Value} {l m:List Value} (h:Msk (x::l) (y::m)):Msk l m:=by simpa using h.drop 1
theorem Msk.take {l m:List Value} (h:Msk l m) (k:Nat):Msk (l.take k) (m.take k):=by
 refine⟨by have:=h.1;simp;omega,λ i v hi hv hb => ?_,λ i b hi => ?_⟩
 ·rw [List.getElem?_take] at hi ⊢;split at hi
  ·rename_i hk;rw [if_pos hk];exact h.2.1 _ v hi hv hb
  ·cases hi
 ·rw [List.getElem?_take] at hi ⊢;split at hi
  ·rename_i hk;rw [if_pos hk];exact h.2.2 _ b hi
  ·cases hi
theorem iQ {H:Hp} {p:PV} {v:Value} (h:RepP H p v):v≠zC:=by
 intro e;subst e;cases p<;>simp [RepP,zC] at h;rename_i k n;exact h.2.2 h.1.1.symm
theorem RY {a b:Bool} (h:mark a=mark b):a=b:=by cases a<;>cases b<;>simp_all [mark]
theorem oQ {H:Hp} {p:PV} {v:Value} (h:RepP H p v) (b:Bool):v≠mark b:=by
 intro e;subst e;cases p<;>simp [RepP,mark] at h;rename_i k n;exact h.2.1 h.1.1.symm
theorem Eh {E:Env} {x:V} (h:RepV E x zC):x = .undef:=by
 cases x with
 | undef=>rfl
 | pv p=>exact absurd rfl (iQ (p:=p) (by simpa [RepV] using h))
 | gsl n ver es=>simp [RepV,RepP,zC] at h
 | _=>simp [RepV,zC] at h
theorem Fh {E:Env} {x:V} {b:Bool} (h:RepV E x (mark b)):x = .undef:=by
 cases x with
 | undef=>rfl
 | pv p=>exact absurd rfl (oQ (p:=p) (by simpa [RepV] using h) b)
 | gsl n ver es=>simp [RepV,RepP,mark] at h
 | _=>simp [RepV,mark] at h
theorem RepP.flg_of {H:Hp} {b c:Bool} (h:c=true->b=true):RepP H (.flg b) (.bool c):=by simp only [RepP];exact⟨c,rfl,h⟩
theorem Msk.head {v u:Value} {l m:List Value} (h:Msk (v::l) (u::m)) (h1:v≠zC) (h2:∀ b,v≠mark b):u=v:=by
 have e:=h.2.1 0 v rfl h1 h2;simpa using e
theorem RepL.msk {H:Hp} : ∀ {cs:List PV} {l m:List Value},RepL H cs l->Msk l m->RepL H cs m
 | [],_,_,_,_=>by simp only [RepL]
 | c::cs,[],m,r,_=>by simp only [RepL] at r
 | c::cs,v::l,[],_,h=>by have:=h.1;simp at this
 | c::cs,v::l,u::m,r,h=>by
  simp only [RepL] at r ⊢;rw [h.head (iQ r.1) (oQ r.1)];exact⟨r.1,RepL.msk r.2 h.tail⟩
theorem RepK.msk {H:Hp} : ∀ {cs:List PV} {l m:List Value},RepK H cs l->Msk l m->RepL H cs m
 | [],_,_,_,_=>by simp only [RepL]
 | c::cs,[],m,r,_=>by simp only [RepK] at r
 | c::cs,v::l,[],_,h=>by have:=h.1;simp at this
 | c::cs,v::l,u::m,r,h=>by
  obtain⟨r1,r2⟩:=r.uncons;simp only [RepL];refine⟨?_,RepK.msk r2 h.tail⟩;rcases r1 with r1|⟨b,rfl,rfl⟩
  ·rw [h.head (iQ r1) (oQ r1)];exact r1
  ·obtain⟨d,hd,hi⟩:=h.2.2 0 b rfl;simp at hd;subst hd;exact RepP.flg_of hi
theorem SY {v:Value} (h1:∀ n,v ≠ .int .i8 n) (h2:∀ n,v ≠ .int .i16 n):sn v=v:=by
 unfold sn;split
 ·exact absurd rfl (h1 _)
 ·exact absurd rfl (h2 _)
 ·rfl
theorem aU (v:Value) (b:Bool):sn v≠mark b:=by
 unfold sn;split
 ·simp [zC,mark]
 ·simp [zC,mark]
 ·rename_i h1 h2;intro e;exact h2 _ (by rw [e];rfl)
theorem TY {v:Value} (h:sn v≠zC):sn v=v:=by
 unfold sn at h ⊢;split
 ·simp at h
 ·simp at h
 ·rfl
theorem Msk.sn (l:List Value):Msk (l.map Go.Lg.sn) l:=by
 refine⟨by simp,λ i v hi hv hb => ?_,λ i b hi => ?_⟩
 ·rw [List.getElem?_map] at hi
  cases e:l[i]? with
  | none=>rw [e] at hi;cases hi
  | some u =>
   rw [e] at hi;simp at hi;subst hi;rw [TY hv]
 ·rw [List.getElem?_map] at hi
  cases e:l[i]? with
  | none=>rw [e] at hi;cases hi
  | some u =>
   rw [e] at hi;simp at hi;exact absurd hi (aU u b)
theorem RepP.sn {H:Hp} {p:PV} {v:Value} (h:RepP H p v):Go.Lg.sn v=v:=by
 refine SY (λ n e => ?_) (λ n e => ?_)<;>subst e<;>cases p<;>simp [RepP] at h<;>first|exact h.2.2 h.1.1.symm|exact h.2.1 h.1.1.symm
theorem RepV.sn {E:Env} {x:V} {v:Value} (h:RepV E x v):RepV E x (Go.Lg.sn v):=by
 cases x with
 | undef=>simp [RepV]
 | pv p=>simp only [RepV] at h ⊢;rw [h.sn];exact h
 | gsl n ver es=>rw [RepP.sn (by simp only [RepV] at h;exact h.1)];exact h
 | _ =>
  rw [SY]<;>first|exact h|(intro n e;subst e;simp [RepV] at h)
theorem RepL.sn {H:Hp} : ∀ {cs:List PV} {l:List Value},RepL H cs l->RepL H cs (l.map Go.Lg.sn)
 | [],_,_=>by simp only [RepL]
 | c::cs,[],r=>by simp only [RepL] at r
 | c::cs,v::l,r=>by
  simp only [RepL,List.map_cons] at r ⊢;rw [r.1.sn];exact⟨r.1,r.2.sn⟩
theorem RepE.sn {H:Hp} : ∀ {es:List (List PV)} {l:List Value},RepE H es l->RepE H es (l.map Go.Lg.sn)
 | [],_,_=>by simp only [RepE]
 | e::es,l,r=>by
  simp only [RepE] at r ⊢;refine⟨r.1.sn,?_⟩;rw [<- List.map_drop];exact r.2.sn
theorem RepVL.sn {E:Env} : ∀ {cs:List V} {l:List Value},RepVL E cs l->RepVL E cs (l.map Go.Lg.sn)
 | [],_,_=>by simp only [RepVL]
 | c::cs,[],r=>by simp only [RepVL] at r
 | c::cs,v::l,r=>by
  simp only [RepVL,List.map_cons] at r ⊢;exact⟨r.1.sn,r.2.sn⟩
theorem RepVE.sn {E:Env} : ∀ {es:List (List V)} {l:List Value},RepVE E es l->RepVE E es (l.map Go.Lg.sn)
 | [],_,_=>by simp only [RepVE]
 | e::es,l,r=>by
  simp only [RepVE] at r ⊢;refine⟨r.1.sn,?_⟩;rw [<- List.map_drop];exact r.2.sn
theorem Msk.cell {H:Hp} {l m:List Value} (h:Msk l m) {i:Nat} {v:Value} {p:PV} (hi:l[i]? = some v) (hp:RepP H p v \/ ∃ b,p = .flg b/\v=mark b):∃ u,m[i]? = some u/\RepP H p u:=by
 rcases hp with hp|⟨b,rfl,rfl⟩
 ·exact⟨v,h.2.1 i v hi (iQ hp) (oQ hp),hp⟩
 ·obtain⟨c,h1,h2⟩:=h.2.2 i b hi;exact⟨_,h1,RepP.flg_of h2⟩
open Classical in
theorem RepVL.msk {E:Env} : ∀ {cs:List V} {l m:List Value},RepVL E cs l->Msk l m->RepVL E cs m
 | [],_,_,_,_=>by simp only [RepVL]
 | c::cs,[],m,r,_=>by simp only [RepVL] at r
 | c::cs,v::l,[],_,h=>by have:=h.1;simp at this
 | c::cs,v::l,u::m,r,h=>by
  simp only [RepVL] at r ⊢;refine⟨?_,RepVL.msk r.2 h.tail⟩;by_cases hv:v=zC
  ·subst hv;rw [Eh r.1];simp [RepV]
  ·by_cases hb:∃ b,v=mark b
   ·obtain⟨b,rfl⟩:=hb;rw [Fh r.1];simp only [RepV]
   ·rw [h.head hv (λ b e=>hb ⟨b,e⟩)];exact r.1
theorem RepVE.msk {E:Env} : ∀ {es:List (List V)} {l m:List Value},RepVE E es l->Msk l m->RepVE E es m
 | [],_,_,_,_=>by simp only [RepVE]
 | e::es,l,m,r,h=>by
  simp only [RepVE] at r ⊢;exact⟨r.1.msk h,RepVE.msk r.2 (h.drop _)⟩
def HeapOK (E:Env) (w:World):Prop :=
 ∀ b,E.H b≠[]->∃ c T fr,w.heap[b]? = some (.cells c T fr)/\Msk (E.H b) c.toList/\(fr=(0,0) \/ ∀ v∈E.H b,∃ k n,v = .int k n/\k ≠ .i16)
theorem HeapOK.lt {E:Env} {w:World} (h:HeapOK E w) {b:Nat} (hb:w.heap.size<=b):E.H b=[]:=by
 by_cases e:E.H b=[]
 ·exact e
 ·obtain⟨c,T,fr,hc,_⟩:=h b e;have:=(Array.getElem?_eq_some_iff.1 hc).1;omega
theorem ObOK.blk_lt {E:Env} {w:World} {n:Nat} {o:Ob} (h:ObOK E w n o) {b:Nat} (hb:xA (E.g n)=some b):b<w.heap.size:=by
 cases o with
 | box cs =>
  obtain⟨b',c,T,hg,hc,_⟩:=h;rw [hg] at hb;simp [xA] at hb;subst hb;exact (Array.getElem?_eq_some_iff.1 hc).1
 | arr ver sz ty es =>
  obtain⟨_,_,_,xs,ho,_⟩:=h;rcases ho.2 with ⟨e,_⟩|⟨g,cap,cur,e,_,hc,_⟩
  ·rw [e] at hb;simp [xA] at hb
  ·rw [e] at hb;simp [xA] at hb;subst hb;exact (Array.getElem?_eq_some_iff.1 hc).1
 | smap s es =>
  obtain⟨b',ms,ck,hg,hc,_⟩:=h;rw [hg] at hb;simp [xA] at hb;subst hb;exact (Array.getElem?_eq_some_iff.1 hc).1
 | siter l p =>
  obtain⟨b',hg,hc,_⟩:=h;rw [hg] at hb;simp [xA] at hb;subst hb;exact (Array.getElem?_eq_some_iff.1 hc).1
 | raw v x =>
  obtain⟨hg,b',h1,hc,_⟩:=h;rw [hg,h1] at hb;cases hb;exact (Array.getElem?_eq_some_iff.1 hc).1
 | grow ver sz ty es =>
  obtain⟨_,_,_,xs,ho,_⟩:=h;rcases ho.2 with ⟨e,_⟩|⟨g,cap,cur,e,_,hc,_⟩
  ·rw [e] at hb;simp [xA] at hb
  ·rw [e] at hb;simp [xA] at hb;subst hb;exact (Array.getElem?_eq_some_iff.1 hc).1
theorem ObOK.free {E:Env} {w:World} {n:Nat} {o:Ob} (h:ObOK E w n o) (hg:o.gr=false) {b:Nat} (hb:xA (E.g n)=some b):E.H b=[]:=by
 cases o with
 | box cs =>
  obtain⟨b',c,T,hg,hc,_,_,h0⟩:=h;rw [hg] at hb;simp [xA] at hb;subst hb;exact h0
 | arr ver sz ty es =>
  obtain⟨_,_,_,xs,ho,_,hf⟩:=h;rcases ho.2 with ⟨e,_⟩|⟨g,cap,cur,e,_,hc,_⟩
  ·rw [e] at hb;simp [xA] at hb
  ·refine hf b ?_;rw [e] at hb ⊢;simpa [xA,Value.ownBlock] using hb
 | smap s es =>
  obtain⟨b',ms,ck,hg,hc,h0,_⟩:=h;rw [hg] at hb;simp [xA] at hb;subst hb;exact h0
 | siter l p =>
  obtain⟨b',hg,hc,h0,_⟩:=h;rw [hg] at hb;simp [xA] at hb;subst hb;exact h0
 | raw v x =>
  obtain⟨hg,b',h1,hc,h0⟩:=h;rw [hg,h1] at hb;cases hb;exact h0
 | grow ver sz ty es=>cases hg
theorem ObOK.nf {E:Env} {w:World} {n:Nat} {o:Ob} (h:ObOK E w n o) {b:Nat} (hb:xA (E.g n)=some b):nf (E.H b):=by
 cases hg:o.gr with
 | false=>rw [h.free hg hb];intro v hv;cases hv
 | true =>
  cases o with
  | grow ver sz ty es =>
   obtain⟨_,_,_,xs,ho,_,hf⟩:=h;rcases ho.2 with ⟨e,_⟩|⟨g,cap,cur,e,_,hc,_⟩
   ·rw [e] at hb;simp [xA] at hb
   ·rw [hf b (by rw [e] at hb ⊢;simpa [xA,Value.ownBlock] using hb)];intro v hv q e';obtain⟨u,_,rfl⟩:=List.mem_map.1 hv;exact aU u q e'
  | _=>cases hg
theorem EntsS.mono {E E':Env} (h:Hle E.H E'.H) {s:Bool} : ∀ {es:List (SK × V)} {ms:List MapEntry},(∀ n∈OB es,EExt E E' n)->EntsS E s es ms->EntsS E' s es ms
 | [],[],_,_=>trivial
 | (k,x)::es,e::ms,hn,r=>⟨⟨r.1.1,r.1.2.1,r.1.2.2.1,RepV.mono h x _ (λ n hm=>hn n (by simp [OB,hm])) r.1.2.2.2⟩,EntsS.mono h (λ n hm=>hn n (by simp [OB,hm])) r.2⟩
 | [],_::_,_,r=>r.elim
 | (_,_)::_,[],_,r=>r.elim
theorem EntsS.length {E:Env} {s:Bool} : ∀ {es:List (SK × V)} {ms:List MapEntry},EntsS E s es ms->es.length=ms.length
 | [],[],_=>rfl
 | (_,_)::_,_::_,r=>by simp [EntsS.length r.2]
 | [],_::_,r=>r.elim
 | (_,_)::_,[],r=>r.elim
theorem ObOK.mono {E E':Env} {w w':World} {n:Nat} {o:Ob} (h:ObOK E w n o) (hH:Hle E.H E'.H)
  (hg:E'.g n=E.g n) (hv:E'.ver n=E.ver n) (hs:E'.sz n=E.sz n) (hn:∀ m∈o.names,EExt E E' m)
  (hb:∀ b,xA (E.g n)=some b->w'.heap[b]? = w.heap[b]? /\ E'.H b=E.H b):ObOK E' w' n o:=by
 cases o with
 | box cs =>
  obtain⟨b,c,T,hgb,hc,hl,hr,h0⟩:=h;obtain⟨h1,h2⟩:=hb b (by rw [hgb];rfl);exact⟨b,c,T,hg.trans hgb,h1.trans hc,hl,RepVL.mono hH cs _ _ List.prefix_rfl hn hr,h2.trans h0⟩
 | arr ver sz ty es =>
  obtain⟨h1,h2,h3,xs,ho,hr,h0⟩:=h;have hown:∀ b,(E.g n).ownBlock=some b->xA (E.g n)=some b:=by
   intro b hb';revert hb';cases E.g n<;>simp [Value.ownBlock,xA];rename_i a _ _;cases a<;>simp
  refine⟨hv.trans h1,hs.trans h2,h3,xs,?_,RepVE.mono hH es _ _ List.prefix_rfl hn hr,?_⟩
  ·rw [hg];refine⟨ho.1,?_⟩;rcases ho.2 with e|⟨g,cap,cur,e,hb0,hc,rest⟩
   ·exact .inl e
   ·refine .inr ⟨g,cap,cur,e,hb0,?_,rest⟩;rw [(hb g (by rw [e];rfl)).1];exact hc
  ·intro b hb';rw [hg] at hb';rw [(hb b (hown b hb')).2];exact h0 b hb'
 | smap s es =>
  obtain⟨b,ms,ck,hgb,hc,h1,h2⟩:=h;obtain⟨h3,h4⟩:=hb b (by rw [hgb];rfl);exact⟨b,ms,ck,hg.trans hgb,h3.trans hc,h4.trans h1,h2.1.mono hH hn,h2.2⟩
 | siter l p =>
  obtain⟨b,hgb,hc,h1,h2⟩:=h;obtain⟨h3,h4⟩:=hb b (by rw [hgb];rfl);exact⟨b,hg.trans hgb,h3.trans hc,h4.trans h1,h2⟩
 | raw v x =>
  obtain⟨hgb,b,h0,hc,h1⟩:=h;obtain⟨h3,h4⟩:=hb b (by rw [hgb];exact h0);exact⟨hg.trans hgb,b,h0,h3.trans hc,h4.trans h1⟩
 | grow ver sz ty es =>
  obtain⟨h1,h2,h3,xs,ho,hr,h0⟩:=h;have hown:∀ b,(E.g n).ownBlock=some b->xA (E.g n)=some b:=by
   intro b hb';revert hb';cases E.g n<;>simp [Value.ownBlock,xA];rename_i a _ _;cases a<;>simp
  refine⟨hv.trans h1,hs.trans h2,h3,xs,?_,RepE.mono hH es _ _ List.prefix_rfl hr,?_⟩
  ·rw [hg];refine⟨ho.1,?_⟩;rcases ho.2 with e|⟨g,cap,cur,e,hb0,hc,rest⟩
   ·exact .inl e
   ·refine .inr ⟨g,cap,cur,e,hb0,?_,rest⟩;rw [(hb g (by rw [e];rfl)).1];exact hc
  ·intro b hb';rw [hg] at hb';rw [(hb b (hown b hb')).2];exact h0 b hb'
structure St where
 slots:List (Nat × V)
 objs:List (Nat × Ob)
 used:List Nat
def JA:List (Nat × V)->Nat->V
 | [],_ => .undef
 | (k,x)::r,t=>if k=t then x else JA r t
def zA:List (Nat × Ob)->Nat->Option Ob
 | [],_=>none
 | (k,x)::r,t=>if k=t then some x else zA r t
def XE:List (Nat × Ob)->Nat->List (Nat × Ob)
 | [],_=>[]
 | (k,x)::r,t=>if k=t then XE r t else (k,x)::XE r t
def kB:List (Nat × Ob)->Nat->Ob->List (Nat × Ob)
 | [],t,o=>[(t,o)]
 | (k,x)::r,t,o=>if k=t then (k,o)::r else (k,x)::kB r t o
theorem qO (l:List (Nat × Ob)) (k n:Nat):zA (XE l k) n=if n=k then none else zA l n:=by
 induction l with
 | nil=>simp [XE,zA]
 | cons p r ih =>
  obtain⟨j,x⟩:=p;by_cases h:j=k
  ·subst h;by_cases hn:n=j
   ·subst hn;simp [XE,ih]
   ·have:¬ j=n:=λ e=>hn e.symm
    simp [XE,ih,zA,hn,this]
  ·by_cases hn:n=k
   ·subst hn;simp [XE,zA,h,ih]
   ·simp [XE,zA,h,ih,hn]
theorem QC (l:List (Nat × Ob)) (k n:Nat) (o:Ob):zA (kB l k o) n=if n=k then some o else zA l n:=by
 induction l with
 | nil =>
  by_cases h:n=k
  ·subst h;simp [kB,zA]
  ·have:¬ k=n:=λ e=>h e.symm
   simp [kB,zA,h,this]
 | cons p r ih =>
  obtain⟨j,x⟩:=p;by_cases h:j=k
  ·subst h;by_cases hn:n=j
   ·subst hn;simp [kB,zA]
   ·have:¬ j=n:=λ e=>hn e.symm
    simp [kB,zA,hn,this]
  ·by_cases hn:n=k
   ·subst hn;simp [kB,zA,h,ih]
   ·simp [kB,zA,h,ih,hn]
structure Ctx where
 E0:Env
 w0:World
 given:List (Nat × Ob)
 ms:List Nat
 nt:Nat
 defs:List (Nat × List V)
def Ctx.F (C:Ctx) (b:Nat):Prop:=∃ n o,zA C.given n=some o/\xA (C.E0.g n)=some b
def DefOK (E:Env):List (Nat × List V)->List Deferred->Prop
 | [],ds=>ds=[]
 | (f,caps)::r,ds => ∃ cv rest,ds = { target:=.fn (.func f) (cv:List Value).toArray,args:=#[] } :: rest/\cv.length=caps.length/\RepVL E caps cv/\DefOK E r rest
def fJ:List (Nat × List V)->List Nat
 | []=>[]
 | (_,caps)::r=>GA caps++fJ r
theorem DefOK.mono {E E':Env} (h:Hle E.H E'.H):∀ (l:List (Nat × List V)) (ds:List Deferred),(∀ n∈fJ l,EExt E E' n)->DefOK E l ds->DefOK E' l ds
 | [],_,_,hd=>hd
 | (f,caps)::r,ds,hn,hd=>by
  obtain⟨cv,rest,h1,h2,h3,h4⟩:=hd;exact⟨cv,rest,h1,h2,RepVL.mono h caps _ _ List.prefix_rfl (λ n hm=>hn n (by simp [fJ,hm])) h3,DefOK.mono h r rest (λ n hm=>hn n (by simp [fJ,hm])) h4⟩
structure Ga (C:Ctx) (E:Env) (σ:St) (a:Act) (w:World):Prop where
 slots:∀ t,RepV E (JA σ.slots t) (a.tmps.getD t undef)
 size:a.tmps.size=C.nt
 defers:DefOK E C.defs a.defers /\ ∀ n∈fJ C.defs,n∈σ.used
 heap:HeapOK E w
 objs:∀ n o,zA σ.objs n=some o->ObOK E w n o
 apart:∀ n m o o',zA σ.objs n=some o->zA σ.objs m=some o'->n≠m->∀ b,xA (E.g n)=some b->xA (E.g m)≠some b
 usedS:∀ t,∀ n∈(JA σ.slots t).names,n∈σ.used
 usedO:∀ n o,zA σ.objs n=some o->n∈σ.used /\ ∀ m∈o.names,m∈σ.used
 usedG:∀ n o,zA C.given n=some o->n∈σ.used
 grown:C.w0.heap.size<=w.heap.size
 rest:w.os=C.w0.os/\w.tape=C.w0.tape/\w.output=C.w0.output
 same:∀ b,b<C.w0.heap.size->¬ C.F b->(nf (C.E0.H b)->w.heap[b]? = C.w0.heap[b]?)/\E.H b=C.E0.H b
 hle:Hle C.E0.H E.H
 own:∀ n o b,zA σ.objs n=some o->xA (E.g n)=some b->b<C.w0.heap.size->C.F b
 ext:∀ n o,zA C.given n=some o->EExt C.E0 E n
 keep:∀ n∈C.ms,n∈σ.used/\zA σ.objs n=none/\E.g n=C.E0.g n/\E.ver n=C.E0.ver n/\E.sz n=C.E0.sz n
def iC (dst:Option Nat) (x:V) (l:List (Nat × V)):List (Nat × V) :=
 match dst with
 | some d=>(d,x)::l
 | none=>l
theorem Ga.changeF {C:Ctx} {E E':Env} {σ:St} {a:Act} {w w':World} (h:Ga C E σ a w) (k:Nat) (oNew:Option Ob) (objs':List (Nat × Ob)) (used':List Nat) (dst:Option Nat) (x:V) (v:Value)
  (ho:∀ n,zA objs' n=if n=k then oNew else zA σ.objs n)
  (hH:Hle E.H E'.H)
  (hE:∀ n,n≠k->E'.g n=E.g n/\E'.ver n=E.ver n/\E'.sz n=E.sz n)
  (hk:k∈σ.used->EExt E E' k) (hown:k∈σ.used->∃ o,zA σ.objs k=some o)
  (hsize:w.heap.size<=w'.heap.size)
  (hrest:w'.os=w.os/\w'.tape=w.tape/\w'.output=w.output)
  (hw:∀ b,b<w.heap.size->(∀ o,zA σ.objs k=some o->xA (E.g k)≠some b)->(nf (E.H b)->w'.heap[b]? = w.heap[b]?)/\E'.H b=E.H b)
  (hheap:HeapOK E' w')
  (hnew:∀ o,oNew=some o->ObOK E' w' k o/\k∈used' /\ ∀ m∈o.names,m∈used')
  (hblk:∀ o b,oNew=some o->xA (E'.g k)=some b->w.heap.size<=b\/(xA (E.g k)=some b /\ ∃ o',zA σ.objs k=some o'))
  (hused:∀ n∈σ.used,n∈used')
  (hx:RepV E' x v) (hxn:∀ n∈x.names,n∈used') (hd:∀ d,dst=some d->d<C.nt) :
  Ga C E' ⟨iC dst x σ.slots,objs',used'⟩ (a.put dst v) w':=by
 have hee:∀ n∈σ.used,EExt E E' n:=by
  intro n hn;by_cases e:n=k
  ·subst e;exact hk hn
  ·exact EExt.of_eq (hE n e).1 (hE n e).2.1 (hE n e).2.2
 have hbk:∀ n o,zA σ.objs n=some o->n≠k->∀ b,xA (E.g n)=some b->w'.heap[b]? = w.heap[b]? /\ E'.H b=E.H b:=by
  intro n o hn hne b hb;have hh:=hw b ((h.objs n o hn).blk_lt hb) (λ o' hk' e=>h.apart n k o o' hn hk' hne b hb e);exact⟨hh.1 ((h.objs n o hn).nf hb),hh.2⟩
 have hold:∀ t,RepV E' (JA σ.slots t) (a.tmps.getD t undef):=λ t =>
  RepV.mono hH _ _ (λ n hn=>hee n (h.usedS t n hn)) (h.slots t)
 constructor
 ·intro t
  cases dst with
  | none=>exact hold t
  | some d =>
   simp only [iC,JA,Act.put];by_cases e:d=t
   ·subst e;have hlt:d<a.tmps.size:=by rw [h.size];exact hd d rfl
    simp [hlt,hx]
   ·simp only [e,if_false];have:=hold t;simpa [Array.getD_eq_getD_getElem?,Array.getElem?_setIfInBounds_ne e] using this
 ·cases dst<;>simp [Act.put,h.size]
 ·refine⟨?_,λ n hn=>hused n (h.defers.2 n hn)⟩;have:=DefOK.mono hH _ _ (λ n hn=>hee n (h.defers.2 n hn)) h.defers.1;cases dst<;>simpa [Act.put] using this
 ·exact hheap
 ·intro n o hn;simp only [ho n] at hn;split at hn
  ·rename_i e;subst e;exact (hnew o hn).1
  ·rename_i e;exact (h.objs n o hn).mono hH (hE n e).1 (hE n e).2.1 (hE n e).2.2 (λ m hm=>hee m ((h.usedO n o hn).2 m hm)) (hbk n o hn e)
 ·have key:∀ n o,oNew=some o->n≠k->∀ o',zA σ.objs n=some o'->∀ b,xA (E'.g k)=some b->xA (E'.g n)≠some b:=by
   intro n o hn hne o' hn' b hb hb';rw [(hE n hne).1] at hb';rcases hblk o b hn hb with hlt|⟨hb0,o'',hk'⟩
   ·have:=(h.objs n o' hn').blk_lt hb';omega
   ·exact h.apart n k o' o'' hn' hk' hne b hb' hb0
  intro n m o o' hn hm hne b hb hb';simp only [ho n] at hn;simp only [ho m] at hm;split at hn
  ·rename_i e;subst e;have hmk:m≠n:=λ e=>hne e.symm
   simp only [hmk,if_false] at hm;exact key m o hn hmk o' hm b hb hb'
  ·rename_i e;split at hm
   ·rename_i e';subst e';exact key n o' hm e o hn b hb' hb
   ·rename_i e';rw [(hE n e).1] at hb;rw [(hE m e').1] at hb';exact h.apart n m o o' hn hm hne b hb hb'
 ·intro t n hn
  cases dst with
  | none=>exact hused n (h.usedS t n hn)
  | some d =>
   simp only [iC,JA] at hn;split at hn
   ·exact hxn n hn
   ·exact hused n (h.usedS t n hn)
 ·intro n o hn;simp only [ho n] at hn;split at hn
  ·rename_i e;subst e;exact (hnew o hn).2
  ·exact⟨hused n (h.usedO n o hn).1,λ m hm=>hused m ((h.usedO n o hn).2 m hm)⟩
 ·exact λ n o hn=>hused n (h.usedG n o hn)
 ·exact Nat.le_trans h.grown hsize
 ·exact⟨hrest.1.trans h.rest.1,hrest.2.1.trans h.rest.2.1,hrest.2.2.trans h.rest.2.2⟩
 ·intro b hb hF;obtain⟨h1,h2⟩:=h.same b hb hF;obtain⟨h3,h4⟩:=hw b (Nat.lt_of_lt_of_le hb h.grown) (λ o hk' e=>hF (h.own k o b hk' e hb));exact⟨λ hn=>(h3 (by rw [h2];exact hn)).trans (h1 hn),h4.trans h2⟩
 ·exact h.hle.trans hH
 ·intro n o b hn hb hlt;simp only [ho n] at hn;split at hn
  ·rename_i e;subst e;rcases hblk o b hn hb with hge|⟨hb0,o',hk'⟩
   ·have:=h.grown;omega
   ·exact h.own n o' b hk' hb0 hlt
  ·rename_i e;rw [(hE n e).1] at hb;exact h.own n o b hn hb hlt
 ·intro n o hn;exact (h.ext n o hn).trans (hee n (h.usedG n o hn))
 ·intro n hn;obtain⟨h1,h2,h3,h4,h5⟩:=h.keep n hn;have hne:n≠k:=by
   intro e;subst e;obtain⟨o,ho'⟩:=hown h1;rw [h2] at ho';cases ho'
  refine⟨hused n h1,?_,(hE n hne).1.trans h3,(hE n hne).2.1.trans h4,(hE n hne).2.2.trans h5⟩;simp only [ho n,hne,if_false];exact h2
theorem Ga.change {C:Ctx} {E E':Env} {σ:St} {a:Act} {w w':World} (h:Ga C E σ a w) (k:Nat) (oNew:Option Ob) (objs':List (Nat × Ob)) (used':List Nat) (dst:Option Nat) (x:V) (v:Value)
  (ho:∀ n,zA objs' n=if n=k then oNew else zA σ.objs n)
  (hH:Hle E.H E'.H)
  (hE:∀ n,n≠k->E'.g n=E.g n/\E'.ver n=E.ver n/\E'.sz n=E.sz n)
  (hk:k∈σ.used->EExt E E' k) (hown:k∈σ.used->∃ o,zA σ.objs k=some o)
  (hsize:w.heap.size<=w'.heap.size)
  (hrest:w'.os=w.os/\w'.tape=w.tape/\w'.output=w.output)
  (hw:∀ b,b<w.heap.size->(∀ o,zA σ.objs k=some o->xA (E.g k)≠some b)->w'.heap[b]? = w.heap[b]? /\ E'.H b=E.H b)
  (hheap:HeapOK E' w')
  (hnew:∀ o,oNew=some o->ObOK E' w' k o/\k∈used' /\ ∀ m∈o.names,m∈used')
  (hblk:∀ o b,oNew=some o->xA (E'.g k)=some b->w.heap.size<=b\/(xA (E.g k)=some b /\ ∃ o',zA σ.objs k=some o'))
  (hused:∀ n∈σ.used,n∈used')
  (hx:RepV E' x v) (hxn:∀ n∈x.names,n∈used') (hd:∀ d,dst=some d->d<C.nt) :
  Ga C E' ⟨iC dst x σ.slots,objs',used'⟩ (a.put dst v) w' :=
 Ga.changeF h k oNew objs' used' dst x v ho hH hE hk hown hsize hrest (λ b h1 h2=>⟨λ _=>(hw b h1 h2).1,(hw b h1 h2).2⟩) hheap hnew hblk hused hx hxn hd
theorem Gh (l:List Nat):∃ k,k ∉ l:=by
 have key:∃ m,∀ n∈l,n<m:=by
  induction l with
  | nil=>exact⟨0,by simp⟩
  | cons x l ih =>
   obtain⟨m,hm⟩:=ih;refine⟨max (x+1) m,λ n hn => ?_⟩;rcases List.mem_cons.1 hn with rfl|hn
   ·omega
   ·have:=hm n hn;omega
 obtain⟨m,hm⟩:=key;exact⟨m,λ h=>absurd (hm m h) (Nat.lt_irrefl _)⟩
theorem Ga.pureF {C:Ctx} {E:Env} {σ:St} {a:Act} {w w':World} (h:Ga C E σ a w) (H':Hp) (dst:Option Nat) (x:V) (v:Value)
  (hH:Hle E.H H') (hsize:w.heap.size<=w'.heap.size)
  (hrest:w'.os=w.os/\w'.tape=w.tape/\w'.output=w.output)
  (hw:∀ b,b<w.heap.size->(nf (E.H b)->w'.heap[b]? = w.heap[b]?)/\H' b=E.H b)
  (hheap:HeapOK { E with H:=H' } w')
  (hx:RepV { E with H:=H' } x v) (hxn:∀ n∈x.names,n∈σ.used) (hd:∀ d,dst=some d->d<C.nt) :
  Ga C { E with H:=H' } ⟨iC dst x σ.slots,σ.objs,σ.used⟩ (a.put dst v) w':=by
 -- a name that is no object
 have hee:∀ n,EExt E { E with H:=H' } n:=λ n=>EExt.of_eq rfl rfl rfl
 by_cases hk:∃ k o,zA σ.objs k=some o
 ·obtain⟨k,o,hk⟩:=hk;refine h.changeF (E':={ E with H:=H' }) k (some o) σ.objs σ.used dst x v ?_ hH (λ _ _=>⟨rfl,rfl,rfl⟩) (λ _=>hee k) (λ _=>⟨o,hk⟩) hsize hrest (λ b hb _=>hw b hb) hheap ?_ ?_ (λ _ h=>h) hx hxn hd
  ·intro n;by_cases e:n=k
   ·subst e;simp [hk]
   ·simp [e]
  ·intro o' e;cases e;exact⟨(h.objs k o hk).mono hH rfl rfl rfl (λ m _=>hee m) (λ b hb=>⟨(hw b ((h.objs k o hk).blk_lt hb)).1 ((h.objs k o hk).nf hb),(hw b ((h.objs k o hk).blk_lt hb)).2⟩),(h.usedO k o hk)⟩
  ·intro o' b e hb;exact .inr ⟨hb,o,hk⟩
 ·have hnone:∀ k,zA σ.objs k=none:=by
   intro k
   cases e:zA σ.objs k with
   | none=>rfl
   | some o=>exact absurd ⟨k,o,e⟩ hk
  obtain⟨k,hk'⟩:=Gh σ.used;refine h.changeF (E':={ E with H:=H' }) k none σ.objs σ.used dst x v ?_ hH (λ _ _=>⟨rfl,rfl,rfl⟩) (λ _=>hee k) (λ e=>absurd e hk') hsize hrest (λ b hb _=>hw b hb) hheap ?_ ?_ (λ _ h=>h) hx hxn hd
  ·intro n;simp [hnone]
  ·intro o e;cases e
  ·intro o b e;cases e
theorem Ga.pure {C:Ctx} {E:Env} {σ:St} {a:Act} {w w':World} (h:Ga C E σ a w) (H':Hp) (dst:Option Nat) (x:V) (v:Value)
  (hH:Hle E.H H') (hsize:w.heap.size<=w'.heap.size)
  (hrest:w'.os=w.os/\w'.tape=w.tape/\w'.output=w.output)
  (hw:∀ b,b<w.heap.size->w'.heap[b]? = w.heap[b]? /\ H' b=E.H b)
  (hheap:HeapOK { E with H:=H' } w')
  (hx:RepV { E with H:=H' } x v) (hxn:∀ n∈x.names,n∈σ.used) (hd:∀ d,dst=some d->d<C.nt) :
  Ga C { E with H:=H' } ⟨iC dst x σ.slots,σ.objs,σ.used⟩ (a.put dst v) w' :=
 h.pureF H' dst x v hH hsize hrest (λ b hb=>⟨λ _=>(hw b hb).1,(hw b hb).2⟩) hheap hx hxn hd
inductive TK where
 | other|bool|pointer|func
 | struct (fs:List (Nat × Nat)) (pl:List Nat)
 | slice (e:Nat)
 | array (n e:Nat)
 | smap (k v:Nat) (s:Bool)
 | str
 | int
 | iface
 | num (k:IntKind)
def TK.isIface:TK->Bool
 | .iface=>true
 | _=>false
structure TI where
 k:TK
 size:Nat
 bytes:Nat
 zero:Value
 zc:List PV
def zO (P:Program) (f:List Field):List Nat->Bool
 | []=>true
 | i::is=>(match f[i]? with
  | some x=>match P.underlying x.type with
   | some (.struct _)=>false
   | some (.array _ _)=>false
   | some _=>true
   | none=>false
  | none=>false) && zO P f is
def IB (P:Program) (d:TypeDesc):TK->Prop
 | .other=>match d with | .struct _=>False | .array _ _=>False|_=>True
 | .bool=>d = .bool
 | .pointer => ∃ e,d = .pointer e
 | .func => ∃ p r v,d = .func p r v
 | .struct fs pl => ∃ f,d = .struct f/\f.toList.map (λ x=>(x.offset,(P.info? x.type).map (·.size)))=fs.map (λ p=>(p.1,some p.2))/\zO P f.toList pl=true
 | .slice e=>d = .slice e
 | .array n e=>d = .array n e
 | .smap k v s=>d = .map k v/\P.underlying k=some (match s with|true => .string|false => .int .i64)
 | .str=>d = .string
 | .int=>d = .int .i64
 | .iface => ∃ ms,d = .interface ms
 | .num k=>d = .int k/\k ≠ .i16/\k ≠ .i8
structure TIOK (P:Program) (t:Nat) (ti:TI):Prop where
 info:∃ i,P.info? t=some i/\i.size=ti.size/\i.bytes=ti.bytes/\i.zero=some ti.zero
 desc:∃ d,P.underlying t=some d/\IB P d ti.k
 zlen:ti.zero.cells.size=ti.size
 zcells:RepL (λ _=>[]) ti.zc ti.zero.cells.toList
 zc:ti.zc.length=ti.size
 conc:ti.k.isIface=true\/P.concrete t=true
def xB (P:Program) (T:Nat->Option TI):Prop:=∀ t ti,T t=some ti->TIOK P t ti
def TI.isAgg (ti:TI):Bool:=match ti.k with | .struct _ _=>true | .array _ _=>true|_=>false
inductive FC where
 | none
 | box (n:Nat)
 | arr (n sz ty:Nat)
 | smap (n:Nat) (s:Bool)
 | siter (n:Nat)
 | keep
 | grow (n sz ty:Nat)
structure R where
 cond:Prop
 fact:Prop
 out:V
 wr:Option (Nat × Ob)
 new:Bool
def R.of (x:V):R:=⟨True,True,x,.none,false⟩
def R.ofIf (c:Prop) (x:V):R:=⟨c,True,x,.none,false⟩
def jO (b:ByteArray):List Nat:=b.data.toList.map UInt8.toNat
theorem UY (b:ByteArray):(⟨((jO b).map UInt8.ofNat).toArray⟩:ByteArray)=b:=by
 cases b with
 | mk d =>
  simp only [jO,List.map_map];have:(UInt8.ofNat ∘ UInt8.toNat)=id:=by funext x;simp
  rw [this];simp
theorem VY (b:ByteArray):∀ x∈jO b,x<256:=by
 intro x hx;obtain⟨y,_,rfl⟩:=List.mem_map.1 hx;exact y.toNat_lt
def nM:Value->V
 | .int .i64 n => .pv (.int n)
 | .bool b => .pv (.bool b)
 | .pointer none => .pv .nil
 | .slice none 0 0 => .pv .nils
 | .nilFunc => .pv .nilfn
 | .nilIface => .pv .nilif
 | .int .u32 n => .pv (.num .u32 n)
 | .int .u8 n => .pv (.num .u8 n)
 | .int .i32 n => .pv (.num .i32 n)
 | .string b => .pv (.str (jO b))
 | _ => .undef
def cU:PV->Option (List PV)
 | .agg cs=>some cs
 | .tuple _=>none
 | p=>some [p]
def YE:V->Option (List V)
 | .pv (.agg cs)=>some (cs.map .pv)
 | .pv (.tuple _)=>none
 | .agg cs=>some cs
 | .tuple _=>none
 | .undef=>none
 | x=>some [x]
def V.one:V->Bool
 | .pv (.agg _)=>false
 | .pv (.tuple _)=>false
 | .agg _=>false
 | .tuple _=>false
 | .undef=>false
 | _=>true
def V.un:V->Option PV
 | .pv p=>some p
 | _=>none
def nD:List V->Option (List PV)
 | []=>some []
 | c::cs=>match c.un,nD cs with
  | some p,some ps=>some (p::ps)
  | _,_=>none
def cE:List (List V)->Option (List (List PV))
 | []=>some []
 | e::es=>match nD e,cE es with
  | some p,some ps=>some (p::ps)
  | _,_=>none
def oA (cs:List PV):List V:=cs.map .pv
def vA (es:List (List PV)):List (List V):=es.map oA
theorem WY (cs:List PV):nD (oA cs)=some cs:=by
 induction cs with
 | nil=>rfl
 | cons c cs ih=>simp only [oA,List.map_cons,nD,V.un] at ih ⊢;rw [ih]
theorem gJ (es:List (List PV)):cE (vA es)=some es:=by
 induction es with
 | nil=>rfl
 | cons e es ih=>simp only [vA,List.map_cons,cE,WY] at ih ⊢;rw [ih]
def xF (cs:List V):V:=match nD cs with
 | some ps => .pv (.agg ps)
 | none => .agg cs
def jH (agg:Bool) (n:Nat) (cs:List V):Option V :=
 if agg then (if n<=cs.length then some (xF (cs.take n)) else none)
 else match cs with
  | c::_=>some c
  | []=>none
def pM (agg:Bool) (n:Nat) (cs:List PV):Option R :=
 if agg then some ⟨n<=cs.length,True,.pv (.agg (cs.take n)),.none,false⟩
 else match cs with
  | c::_=>some (R.of (.pv c))
  | []=>none
def qD (cs:List V) (off:Nat) (ys:List V):List V:=cs.take off++ys++cs.drop (off+ys.length)
def AF (fs:List (Nat × Nat)) (cells:List V):List (Nat × V)->Option (List V)
 | []=>some cells
 | (i,x)::rest=>match fs[i]?,YE x with
  | some (off,size),some ys=>if ys.length=size/\off+size<=cells.length then AF fs (qD cells off ys) rest else none
  | _,_=>none
def vH (s:Nat):Nat->Nat->List (Nat × Nat)
 | 0,_=>[]
 | n+1,k=>(k * s,s)::vH s n (k+1)
theorem XY (s:Nat):∀ (n k i:Nat) (p:Nat × Nat),(vH s n k)[i]? = some p->p=((k+i) * s,s)
 | 0,_,i,p,h=>by simp [vH] at h
 | n+1,k,0,p,h=>by simp [vH] at h;simp [<- h]
 | n+1,k,i+1,p,h=>by
  have:=XY s n (k+1) i p (by simpa [vH] using h);rw [this,show k+1+i=k+(i+1) by omega]
def qL:Nat->List (Nat × V)->Option (List (List V))
 | _,[]=>some []
 | k,(i,x)::rest=>if i=k then
   match YE x,qL (k+1) rest with
   | some cs,some es=>some (cs::es)
   | _,_=>none
  else none
def rM (es:List (List V)):V:=match cE es with
 | some ps => .pv (.slice ps)
 | none => .vsl es
def zL (x:Int):Prop:=-9223372036854775808<=x/\x<=9223372036854775807
def PB (b:Bool):Option R:=some (R.of (.pv (.bool b)))
def sM (k:TK) (x y:V) (yo:Operand):Option Bool :=
 match k,x,y with
 | .bool,.pv (.bool a),.pv (.bool b)=>some (a == b)
 | .pointer,.pv .nil,.pv .nil=>some true
 | .pointer,.pv (.ptr _),.pv .nil=>some false
 | .pointer,.pv (.nptr _),.pv .nil=>some false
 | .pointer,.loc _ _,.pv .nil=>some false
 | .func,.pv .nilfn,.pv .nilfn=>some true
 | .func,.fn _ _,.pv .nilfn=>some false
 | .func,.bfn _ _,.pv .nilfn=>some false
 | .iface,.pv (.iface _ _),.pv .nilif=>some false
 | .iface,.pv .nilif,.pv (.iface _ _)=>some false
 | .iface,.pv .nilif,_=>match yo with
  | .const .nilIface=>some true
  | _=>none
 | .slice _,.pv .nils,_=>match yo with
  | .const (.slice none 0 0)=>some true
  | _=>none
 | .slice _,.pv (.slice (_::_)),_=>match yo with
  | .const (.slice none 0 0)=>some false
  | _=>none
 | _,_,_=>none
def xQ (op:BinOp) (a b:Int):Option R :=
 match op with
 | .add=>some (R.ofIf (zL (a+b)) (.pv (.int (a+b))))
 | .sub=>some (R.ofIf (zL (a-b)) (.pv (.int (a-b))))
 | .mul=>some (R.ofIf (zL (a * b)) (.pv (.int (a * b))))
 | .rem=>some (R.ofIf (b≠0) (.pv (.int (a.tmod b))))
 | .lss=>PB (decide (a<b))
 | .leq=>PB (decide (a<=b))
 | .gtr=>PB (decide (b<a))
 | .geq=>PB (decide (b<=a))
 | .eql=>PB (decide (a=b))
 | .neq=>PB (!decide (a=b))
 | _=>none
def HA (op:BinOp) (k:IntKind) (x y:Int):Int :=
 let a:=BitVec.ofInt k.bits x;let b:=BitVec.ofInt k.bits y
 match op with
 | .and=>k.wrap (a &&& b).toNat
 | .or=>k.wrap (a ||| b).toNat
 | .andNot=>k.wrap (a &&& ~~~b).toNat
 | _=>0
def AQ (op:BinOp) (k:IntKind) (a b:Int):Option R :=
 match op with
 | .add=>some (R.of (.pv (.num k (k.wrap (a+b)))))
 | .sub=>some (R.of (.pv (.num k (k.wrap (a-b)))))
 | .and=>some (R.of (.pv (.num k (HA .and k a b))))
 | .or=>some (R.of (.pv (.num k (HA .or k a b))))
 | .andNot=>some (R.of (.pv (.num k (HA .andNot k a b))))
 | .lss=>PB (decide (a<b))
 | .leq=>PB (decide (a<=b))
 | .gtr=>PB (decide (b<a))
 | .geq=>PB (decide (b<=a))
 | .eql=>PB (decide (a=b))
 | .neq=>PB (!decide (a=b))
 | _=>none
def BQ (op:BinOp) (k:IntKind) (a n:Int):Option R :=
 match op with
 | .shl=>some (R.ofIf (0<=n) (.pv (.num k (k.wrap (a * 2 ^ (min n.toNat k.bits))))))
 | .shr=>some (R.ofIf (0<=n) (.pv (.num k (a.fdiv (2 ^ (min n.toNat k.bits))))))
 | _=>none
def YY (op:BinOp) (a b:List Nat):Option R:=match op with
 | .eql=>PB (oD a b)
 | .neq=>PB (!oD a b)
 | _=>none
theorem ZY (l:List Nat) (hl:∀ b∈l,b<256):(l.map UInt8.ofNat).map UInt8.toNat=l:=by
 rw [List.map_map]
 conv=>rhs;rw [<- List.map_id l]
 refine List.map_congr_left λ b hb => ?_
 have:=hl b hb;simp [Nat.mod_eq_of_lt this]
theorem qZ {x y:List Nat} (hx:∀ b∈x,b<256) (hy:∀ b∈y,b<256):(x.map UInt8.ofNat == y.map UInt8.ofNat)=oD x y:=by
 by_cases e:x=y
 ·subst e;rw [(mM x x).2 rfl];simp
 ·have h1:oD x y=false:=by
   cases h:oD x y with
   | false=>rfl
   | true=>exact absurd ((mM x y).1 h) e
  rw [h1];refine beq_eq_false_iff_ne.2 λ h=>e ?_
  rw [<- ZY x hx,h,ZY y hy]
def hJ (k:TK) (op:BinOp) (x y:V) (yo:Operand):Option R :=
 match x,y with
 | .pv (.int a),.pv (.int b)=>xQ op a b
 | .pv (.num k a),.pv (.num k' b)=>if k=k' then AQ op k a b else none
 | .pv (.num k a),.pv (.int n)=>BQ op k a n
 | .pv (.str a),.pv (.str b)=>YY op a b
 | x,y=>match op,sM k x y yo with
  | .eql,some b=>PB b
  | .neq,some b=>PB (!b)
  | _,_=>none
def lJ (x:V) (off:Nat):Option V :=
 match x with
 | .pv (.ptr cs)=>some (.pv (.ptr (cs.drop off)))
 | .pv (.nptr cs)=>some (.pv (.nptr (cs.drop off)))
 | .loc n o=>some (.loc n (o+off))
 | .eloc n ver i o=>some (.eloc n ver i (o+off))
 | _=>none
def jL (ti:TI) (ob:Nat->Option Ob) (x:V):Option R :=
 match x with
 | .pv (.ptr cs)=>pM ti.isAgg ti.size cs
 | .pv (.nptr cs)=>pM ti.isAgg ti.size cs
 | .loc n off=>match ob n with
  | some (.box cs)=>(jH ti.isAgg ti.size (cs.drop off)).map R.of
  | _=>none
 | .eloc n ver i off=>match ob n with
  | some (.arr ver' _ _ es)=>match es[i]? with
   | some e=>(jH ti.isAgg ti.size (e.drop off)).map (R.ofIf (ver=ver'))
   | none=>none
  | _=>none
 | _=>none
def vL (ti:TI) (ob:Nat->Option Ob) (x y:V):Option R :=
 match YE y with
 | none=>none
 | some ys=>match x with
  | .loc n off=>match ob n with
   | some (.box cs)=>some ⟨ys.length=ti.size/\off+ys.length<=cs.length/\ys.all V.one=true,True,.undef,some (n,.box (qD cs off ys)),false⟩
   | _=>none
  | .pv (.nptr (.flg p::_))=>match y with
   | .pv (.bool b)=>some ⟨ti.size=1/\(b=true->p=true),True,.undef,none,false⟩
   | _=>none
  | .eloc n ver i off=>match ob n with
   | some (.arr ver' sz ty es)=>some ⟨ver=ver'/\i<es.length/\ys.length=ti.size/\off+ys.length<=sz/\ys.all V.one=true,True,.undef,some (n,.arr ver' sz ty (es.set i (qD (es.getD i []) off ys))),false⟩
   | _=>none
  | _=>none
def wL (T:Nat->Option TI) (ob:Nat->Option Ob) (t:Nat) (x i:V):Option R :=
 match i with
 | .pv (.int k)=>match T t with
  | some ⟨.slice e,_,_,_,_⟩=>match T e with
   | some te=>match x with
    | .pv (.slice es)=>some (R.ofIf (0<=k/\k<es.length /\ ∀ y∈es,y.length=te.size) (.pv (.ptr (es.getD k.toNat []))))
    | .arr n ver len=>match ob n with
     | some (.arr ver' sz _ es)=>some (R.ofIf (ver=ver'/\0<=k/\k<len/\sz=te.size/\len<=es.length) (.eloc n ver k.toNat 0))
     | _=>none
    | _=>none
   | none=>none
  | some ⟨.array m e,_,_,_,_⟩=>match T e with
   | some te=>(lJ x (k.toNat * te.size)).map (R.ofIf (0<=k/\k<m))
   | none=>none
  | _=>none
 | _=>none
def kL (ob:Nat->Option Ob) (x:V):Option R :=
 match x with
 | .pv (.slice es)=>some ⟨True,es.length<=maxLen,.pv (.int es.length),.none,false⟩
 | .pv .nils=>some (R.of (.pv (.int 0)))
 | .gsl _ _ es=>some ⟨True,es.length<=maxLen,.pv (.int es.length),.none,false⟩
 | .arr n ver len=>match ob n with
  | some (.arr ver' _ _ es)=>some ⟨ver=ver',es.length<=maxLen,.pv (.int len),.none,false⟩
  | _=>none
 | _=>none
def cG (y:V):Option (List (List V)) :=
 match y with
 | .pv (.slice es)=>some (vA es)
 | .pv .nils=>some []
 | .vsl es=>some es
 | _=>none
def eG (e:Nat) (te:TI) (ob:Nat->Option Ob) (note:FC) (xo:Operand) (x y:V):Option R :=
 match x with
 | .arr n ver len=>match ob n,cG y with
  | some (.arr ver' sz ty es),some ys=>some ⟨ver=ver'/\len<=es.length/\ty=e/\sz=te.size/\0<sz/\(∀ y∈ys,y.length=sz)/\(∀ y∈ys,y.all V.one=true)/\len+ys.length<=maxLen/\(len+ys.length) * te.bytes<=140737488355328,True,
    .arr n (ver+1) (len+ys.length),some (n,.arr (ver+1) sz ty (es.take len++ys)),false⟩
  | _,_=>none
 | .gsl n ver _=>match ob n with
  | some (.grow ver' sz ty es)=>match y with
   | .pv (.slice ys)=>some ⟨(ver=ver'/\ty=e/\sz=te.size/\0<sz)/\(∀ y∈ys,y.length=sz)/\(∀ y∈vA ys,y.all V.one=true)/\es.length+ys.length<=maxLen/\(es.length+ys.length) * te.bytes<=140737488355328,True,
     .gsl n (ver+1) (es++ys),some (n,.grow (ver+1) sz ty (es++ys)),false⟩
   | _=>none
  | _=>none
 | .fsl es=>match y with
  | .pv (.slice ys)=>some ⟨(∀ e∈es,e.length=te.size)/\(∀ y∈ys,y.length=te.size)/\0<te.size/\ys≠[]/\es.length+ys.length<=maxLen/\(es.length+ys.length) * te.bytes<=140737488355328,True,.pv (.slice (es++ys)),.none,false⟩
  | _=>none
 | .pv .nils=>match y,note with
   | .pv (.slice es),.none=>some ⟨(∀ e∈es,e.length=te.size)/\0<te.size/\es.length * te.bytes<=140737488355328,True,.pv (.slice es),.none,false⟩
   | y,.arr n sz ty=>match cG y with
    | some ys=>some ⟨ty=e/\sz=te.size/\0<sz/\(∀ y∈ys,y.length=sz)/\(∀ y∈ys,y.all V.one=true)/\ys.length<=maxLen/\ys.length * te.bytes<=140737488355328,True,
     .arr n 1 ys.length,some (n,.arr 1 sz ty ys),true⟩
    | none=>none
   | .pv (.slice ys),.grow n sz ty=>some ⟨(ty=e/\sz=te.size/\0<sz/\ys≠[])/\(∀ y∈ys,y.length=sz)/\(∀ y∈vA ys,y.all V.one=true)/\ys.length<=maxLen/\ys.length * te.bytes<=140737488355328,True,
     .gsl n 1 ys,some (n,.grow 1 sz ty ys),true⟩
   | _,_=>none
 | _=>none
theorem Hh {α:Type} {c:Bool} {a:Option α} {x:α} (h:(bif c then a else none)=some x):c=true/\a=some x:=by
 cases c
 ·cases h
 ·exact⟨rfl,h⟩
def vI:Option V->Bool
 | none=>true
 | some (.pv (.int 0))=>true
 | _=>false
def yL (te:TI) (ob:Nat->Option Ob) (x:V) (lo hi mx:Option V):Option R :=
 match x,lo,hi,mx with
 | .pv (.slice es),some (.pv (.int l)),none,none=>some (R.ofIf (0<=l/\l<=es.length /\ ∀ y∈es,y.length=te.size) (.pv (.slice (es.drop l.toNat))))
 | .pv (.slice es),none,some (.pv (.int h)),none=>some (R.ofIf (0<=h/\h<=es.length) (.pv (.slice (es.take h.toNat))))
 | .arr n ver len,none,some (.pv (.int h)),none=>match ob n with
  | some (.arr ver' _ _ _)=>some (R.ofIf (ver=ver'/\0<=h/\h<=len) (.arr n ver h.toNat))
  | _=>none
 | .pv (.slice es),none,some (.pv (.int h)),some (.pv (.int m))=>some (R.ofIf (h=es.length/\m=es.length) (.fsl es))
 | .pv .nils,lo,hi,mx=>bif vI lo && vI hi && vI mx && (!mx.isSome || hi.isSome) then some (R.of (.pv .nils)) else none
 | _,_,_,_=>none
def mJ (note:FC) (val:Operand->V) (x:Operand):Option R :=
 match note,x with
 | .arr n sz ty,.const (.slice none 0 0)=>some ⟨True,True,.arr n 0 0,some (n,.arr 0 sz ty []),true⟩
 | _,_=>some (R.of (val x))
def eU (e:Nat) (te:TI) (note:FC) (len:Nat) (es:List (List V)):Option R :=
 match note with
 | .arr n sz ty=>some ⟨(es.length=len/\len<=16777216/\len * te.size<=16777216 /\ ∀ e∈es,e.length=te.size)/\ty=e/\sz=te.size,True,.arr n 0 len,some (n,.arr 0 sz ty es),true⟩
 | _=>some (R.ofIf (es.length=len/\len<=16777216/\len * te.size<=16777216 /\ ∀ e∈es,e.length=te.size) (rM es))
def tM:V->Option SK
 | .pv (.int n)=>some (.int n)
 | .pv (.str l)=>some (.str l)
 | _=>none
def GC:List (SK × V)->SK->Option V
 | [],_=>none
 | (k,x)::r,a=>bif SK.eqB a k then some x else GC r a
def HC:List (SK × V)->SK->V->List (SK × V)
 | [],a,x=>[(a,x)]
 | (k,y)::r,a,x=>bif SK.eqB a k then (a,x)::r else (k,y)::HC r a x
def wI (s:Bool) (ob:Nat->Option Ob) (m k v:V):Option R:=match m,tM k with
 | .map n,some a=>match ob n with
  | some (.smap s' es)=>some ⟨s'=s/\a.kind=s,True,.undef,some (n,.smap s' (HC es a v)),false⟩
  | _=>none
 | _,_=>none
def zZ:Value->Option PV
 | .int .i64 n=>some (.int n)
 | .bool b=>some (.bool b)
 | .pointer none=>some .nil
 | .nilFunc=>some .nilfn
 | .string b=>some (.str (jO b))
 | _=>none
def kI (ti:TI):Option PV:=match ti.zero with
 | .agg _=>some (.agg ti.zc)
 | z=>zZ z
def nJ (s ok:Bool) (z:PV) (ob:Nat->Option Ob) (m k:V):Option R:=match m,tM k with
 | .map n,some a=>match ob n with
  | some (.smap s' es)=>some ⟨s'=s/\a.kind=s,True,(match GC es a,ok with
   | some x,true => .tuple [x,.pv (.bool true)]
   | none,true => .pv (.tuple [z,.bool false])
   | some x,false=>x
   | none,false => .pv z),.none,false⟩
  | _=>none
 | _,_=>none
def vO (ob:Nat->Option Ob) (x:V):Option R :=
 match x with
 | .map n=>match ob n with
  | some (.smap _ es)=>some (R.of (.pv (.int es.length)))
  | _=>none
 | _=>none
def CQ (ti:TI) (t:Nat) (ok:Bool) (x:V):Option R:=match x with
 | .pv (.iface t' p)=>if t'=t then (match ok with
   | true=>some (R.of (.pv (.tuple [p,.bool true])))
   | false=>some (R.of (.pv p)))
  else (match ok,kI ti with
   | true,some z=>some (R.of (.pv (.tuple [z,.bool false])))
   | _,_=>none)
 | .pv .nilif=>match ok,kI ti with
   | true,some z=>some (R.of (.pv (.tuple [z,.bool false])))
   | _,_=>none
 | _=>none
def iU (note:FC) (x:V):Option R:=match note,x with
 | .siter n,.pv (.str l)=>some ⟨True,True,.loc n 0,some (n,.siter l 0),true⟩
 | _,_=>none
def aM (ob:Nat->Option Ob) (x:V):Option R:=match x with
 | .loc n 0=>match ob n with
  | some (.siter l p)=>match l[p]? with
   | some b=>some ⟨b<128,True,.pv (.tuple [.bool true,.int p,.num .i32 b]),some (n,.siter l (p+1)),false⟩
   | none=>some (R.of (.pv (.tuple [.bool false])))
  | _=>none
 | _=>none
def yI:List (List PV)->Option (List Nat)
 | []=>some []
 | [.num .u8 (.ofNat b)]::r=>bif Nat.blt b 256 then (match yI r with
  | some l=>some (b::l)
  | none=>none) else none
 | _=>none
def oU (x:V):Option R:=match x with
 | .pv (.str l)=>some (R.of (.pv (.int l.length)))
 | _=>none
def xU (x i:V):Option R:=match x,i with
 | .pv (.str l),.pv (.int k)=>some (R.ofIf (0<=k/\k<l.length) (.pv (.num .u8 (l.getD k.toNat 0))))
 | _,_=>none
def uI (d:Int) (x:Option V):Option Int:=match x with
 | none=>some d
 | some (.pv (.int k))=>some k
 | _=>none
def DQ (x:V) (lo hi mx:Option V):Option R:=match x,mx with
 | .pv (.str l),none=>match uI 0 lo,uI l.length hi with
  | some a,some b=>some (R.ofIf (0<=a/\a<=b/\b<=l.length) (.pv (.str ((l.drop a.toNat).take (b-a).toNat))))
  | _,_=>none
 | _,_=>none
def gA (T:Nat->Option TI) (note:FC) (val:Operand->V) (ob:Nat->Option Ob) (dst:Option Nat) (op:Op):Option R :=
 match op with
 | .move x=>mJ note val x
 | .assign x=>mJ note val x
 | .pick c a b=>match val c,val a,val b with
  | .pv (.bool c),.pv (.bool a),.pv (.bool b)=>PB (bif c then a else b)
  | .pv (.bool true),a,_=>some (R.of a)
  | .pv (.bool false),_,b=>some (R.of b)
  | _,_,_=>none
 | .alloc t=>match T t,note,dst with
  | some ti,.box n,_=>some ⟨True,True,.loc n 0,some (n,.box (oA ti.zc)),true⟩
  | some ti,_,some d=>some ⟨True,True,.loc d 0,some (d,.box (oA ti.zc)),true⟩
  | _,_,_=>none
 | .box _ x=>match note with
  | .box n=>match YE (val x) with
   | some cs=>if cs.all V.one=true then some ⟨True,True,.loc n 0,some (n,.box cs),true⟩ else none
   | none=>none
  | _=>match val x with
   | .pv p=>match cU p with
    | some cs=>some (R.of (.pv (.ptr cs)))
    | none=>none
   | _=>none
 | .build t parts=>match T t with
  | some ⟨.struct fs _,_,_,_,zc⟩=>(AF fs (oA zc) (parts.toList.map λ p=>(p.1,val p.2))).map (λ cs=>R.of (xF cs))
  | some ⟨.array m e,_,_,_,zc⟩=>match T e with
   | some te=>(AF (vH te.size m 0) (oA zc) (parts.toList.map λ p=>(p.1,val p.2))).map (λ cs=>R.of (xF cs))
   | none=>none
  | _=>none
 | .makeFunc (.func f) first caps=>if first.size=0 then some (R.of (.fn f (caps.toList.map val))) else if caps.size=0 then some (R.of (.bfn f (first.toList.map val))) else none
 | .typeAssert x _ t ok=>match T t with
  | some ti=>if ti.k.isIface=true then none else CQ ti t ok (val x)
  | none=>none
 | .makeMap _ none=>match note with
  | .smap n s=>some ⟨True,True,.map n,some (n,.smap s []),true⟩
  | _=>none
 | .mapUpdate t m k v=>match dst,T t with
  | none,some ⟨.smap _ _ s,_,_,_,_⟩=>wI s ob (val m) (val k) (val v)
  | _,_=>none
 | .insert t m k v=>match dst,T t with
  | none,some ⟨.smap _ _ s,_,_,_,_⟩=>wI s ob (val m) (val k) (val v)
  | _,_=>none
 | .lookup t m k ok=>match T t with
  | some ⟨.smap _ vt s,_,_,_,_⟩=>match T vt with
   | some tv=>match kI tv with
    | some z=>nJ s ok z ob (val m) (val k)
    | none=>none
   | _=>none
  | _=>none
 | .buildSlice t len parts=>match T t with
  | some ⟨.slice e,_,_,_,_⟩=>match T e with
   | some te=>match qL 0 (parts.toList.map λ p=>(p.1,val p.2)) with
    | some es=>eU e te note len es
    | none=>none
   | none=>none
  | _=>none
 | .load t x=>match T t with
  | some ti=>jL ti ob (val x)
  | none=>none
 | .store t x y=>match dst,T t with
  | none,some ti=>vL ti ob (val x) (val y)
  | _,_=>none
 | .nilCheck x=>match val x with
  | .pv (.ptr cs)=>some (R.of (.pv (.ptr cs)))
  | .pv (.nptr cs)=>some (R.of (.pv (.nptr cs)))
  | .loc n off=>some (R.of (.loc n off))
  | .eloc n v i o=>some (R.of (.eloc n v i o))
  | _=>none
 | .binOp b t x y _=>match T t with
  | some ti=>hJ ti.k b (val x) (val y) y
  | none=>none
 | .unOp .not _ x=>match val x with
  | .pv (.bool b)=>PB (!b)
  | _=>none
 | .convert s t x=>match T s,T t,val x with
  | some _,some ⟨.num k,_,_,_,_⟩,.pv (.num _ n)=>some (R.of (.pv (.num k (k.wrap n))))
  | some _,some ⟨.num k,_,_,_,_⟩,.pv (.int n)=>some (R.of (.pv (.num k (k.wrap n))))
  | some _,some ⟨.int,_,_,_,_⟩,.pv (.num _ n)=>some (R.of (.pv (.int (IntKind.i64.wrap n))))
  | some _,some ⟨.int,_,_,_,_⟩,.pv (.int n)=>some (R.of (.pv (.int (IntKind.i64.wrap n))))
  | some ⟨.slice e,_,_,_,_⟩,some ⟨.str,_,_,_,_⟩,.pv (.slice es)=>match T e,yI es with
   | some ⟨.num .u8,_,_,_,_⟩,some (b::l)=>some (R.of (.pv (.str (b::l))))
   | _,_=>none
  | _,_,_=>none
 | .makeInterface t x=>match T t,val x with
  | some ti,.pv p=>bif ti.k.isIface then none else some (R.of (.pv (.iface t p)))
  | _,_=>none
 | .field t x f=>match T t with
  | some ⟨.struct fs pl,_,_,_,_⟩=>bif pl.elem f then (match fs[f]? with
    | some (off,_)=>(match val x with
     | .pv (.agg cs)=>(cs[off]?).map (λ c=>R.of (.pv c))
     | .agg cs=>(cs[off]?).map R.of
     | _=>none)
    | none=>none) else none
  | _=>none
 | .fieldAddr t x f=>match T t with
  | some ⟨.struct fs _,_,_,_,_⟩=>match fs[f]? with
   | some (off,size)=>if size=0 then none else (lJ (val x) off).map R.of
   | none=>none
  | _=>none
 | .indexAddr t x i=>wL T ob t (val x) (val i)
 | .range t x=>match T t with
  | some ⟨.str,_,_,_,_⟩=>iU note (val x)
  | _=>none
 | .next x true=>aM ob (val x)
 | .index t x i=>match T t with
  | some ⟨.str,_,_,_,_⟩=>xU (val x) (val i)
  | _=>none
 | .extract x i=>match val x with
  | .pv (.tuple cs)=>(cs[i]?).map (λ c=>R.of (.pv c))
  | .tuple cs=>(cs[i]?).map R.of
  | _=>none
 | .slice t x lo hi mx=>match T t with
  | some ⟨.slice e,_,_,_,_⟩=>match T e with
   | some te=>yL te ob (val x) (lo.map val) (hi.map val) (mx.map val)
   | none=>none
  | some ⟨.str,_,_,_,_⟩=>DQ (val x) (lo.map val) (hi.map val) (mx.map val)
  | _=>none
 | .call { callee:=.builtin .len,args,argTypes } => match argTypes.toList,args.toList with
  | [t],[x]=>match T t with
   | some ⟨.slice _,_,_,_,_⟩=>kL ob (val x)
   | some ⟨.smap _ _ _,_,_,_,_⟩=>vO ob (val x)
   | some ⟨.str,_,_,_,_⟩=>oU (val x)
   | _=>none
  | _,_=>none
 | .call { callee:=.builtin .append,args,argTypes } => match argTypes.toList,args.toList with
  | [t,t'],[x,y]=>if t=t' then
    match T t with
    | some ⟨.slice e,_,_,_,_⟩=>match T e with
     | some te=>eG e te ob note x (val x) (val y)
     | none=>none
    | _=>none
   else none
  | _,_=>none
 | .call { callee:=.builtin .max,args,argTypes:=_ } => match args.toList with
  | [x,y]=>match val x,val y with
   | .pv (.int a),.pv (.int b)=>some (R.of (.pv (.int (if b > a then b else a))))
   | _,_=>none
  | _=>none
 | _=>none
def St.val (gl:Nat->Option (List PV)) (σ:St):Operand->V
 | .tmp t=>JA σ.slots t
 | .const v=>nM v
 | .func f => .fn f []
 | .global g=>match gl g with
  | some cs => .pv (.ptr cs)
  | none => .undef
def GOK (gl:Nat->Option (List PV)) (H:Hp):Prop:=∀ g cs,gl g=some cs->RepL H cs (H g)
theorem GOK.mono {gl:Nat->Option (List PV)} {H H':Hp} (h:GOK gl H) (hH:Hle H H'):GOK gl H' :=
 λ g cs e=>RepL.mono hH cs _ _ (hH g) (h g cs e)
theorem Ih (E:Env) (v:Value):RepV E (nM v) v:=by
 unfold nM;split<;>first|(simp [RepV,RepP];done)|(rename_i b;simp only [RepV,RepP];exact⟨by rw [UY],VY b⟩)
theorem Jh (v:Value):(nM v).names=[]:=by
 unfold nM;split<;>simp [V.names]
section
variable {C:Ctx} {E:Env} {σ:St} {a:Act} {w:World} {gl:Nat->Option (List PV)}
theorem QA (h:Ga C E σ a w) (hg:GOK gl C.E0.H) (x:Operand):RepV E (σ.val gl x) (a.eval x):=by
 cases x with
 | tmp t=>exact h.slots t
 | const v=>exact Ih E v
 | func f=>exact⟨[],by simp [Act.eval],rfl,by simp [RepVL]⟩
 | global g =>
  simp only [St.val,Act.eval];split
  ·rename_i cs e;simp only [RepV,RepP];exact⟨g,0,rfl,by simpa using (hg.mono h.hle) g cs e⟩
  ·simp [RepV]
theorem fC (h:Ga C E σ a w) (x:Operand):∀ n∈(σ.val gl x).names,n∈σ.used:=by
 cases x with
 | tmp t=>exact h.usedS t
 | const v=>intro n hn;simp [St.val,Jh] at hn
 | func f=>intro n hn;simp [St.val,V.names,GA] at hn
 | global g =>
  intro n hn;simp only [St.val] at hn;split at hn<;>simp [V.names] at hn
end
theorem RepL.take {H:Hp} : ∀ {cs:List PV} {vs:List Value} (n:Nat),RepL H cs vs->RepL H (cs.take n) (vs.take n)
 | cs,vs,0,_=>by simp [RepL]
 | [],vs,n+1,_=>by simp [RepL]
 | c::cs,[],n+1,r=>by simp [RepL] at r
 | c::cs,v::vs,n+1,r=>by
  simp only [RepL] at r;simp only [List.take_succ_cons,RepL];exact⟨r.1,RepL.take n r.2⟩
theorem RepL.drop {H:Hp} : ∀ {cs:List PV} {vs:List Value} (n:Nat),RepL H cs vs->RepL H (cs.drop n) (vs.drop n)
 | cs,vs,0,r=>by simpa using r
 | [],vs,n+1,_=>by simp [RepL]
 | c::cs,[],n+1,r=>by simp [RepL] at r
 | c::cs,v::vs,n+1,r=>by
  simp only [RepL] at r;simpa using RepL.drop n r.2
theorem RepK.drop {H:Hp} : ∀ {cs:List PV} {vs:List Value} (n:Nat),RepK H cs vs->RepK H (cs.drop n) (vs.drop n)
 | cs,vs,0,r=>by simpa using r
 | [],vs,n+1,_=>by simp [RepK]
 | c::cs,[],n+1,r=>by simp [RepK] at r
 | c::cs,v::vs,n+1,r=>by simpa using RepK.drop n r.uncons.2
theorem RepVL.take {E:Env} : ∀ {cs:List V} {vs:List Value} (n:Nat),RepVL E cs vs->RepVL E (cs.take n) (vs.take n)
 | cs,vs,0,_=>by simp [RepVL]
 | [],vs,n+1,_=>by simp [RepVL]
 | c::cs,[],n+1,r=>by simp [RepVL] at r
 | c::cs,v::vs,n+1,r=>by
  simp only [RepVL] at r;simp only [List.take_succ_cons,RepVL];exact⟨r.1,RepVL.take n r.2⟩
theorem RepVL.drop {E:Env} : ∀ {cs:List V} {vs:List Value} (n:Nat),RepVL E cs vs->RepVL E (cs.drop n) (vs.drop n)
 | cs,vs,0,r=>by simpa using r
 | [],vs,n+1,_=>by simp [RepVL]
 | c::cs,[],n+1,r=>by simp [RepVL] at r
 | c::cs,v::vs,n+1,r=>by
  simp only [RepVL] at r;simpa using RepVL.drop n r.2
theorem RepVL.append {E:Env} : ∀ {cs ds:List V} {vs us:List Value},cs.length=vs.length->RepVL E cs vs->RepVL E ds us->RepVL E (cs++ds) (vs++us)
 | [],ds,[],us,_,_,r=>by simpa using r
 | [],ds,_::_,us,h,_,_=>by simp at h
 | c::cs,ds,[],us,h,_,_=>by simp at h
 | c::cs,ds,v::vs,us,h,r,r'=>by
  simp only [RepVL] at r;simp only [List.cons_append,RepVL];exact⟨r.1,RepVL.append (by simpa using h) r.2 r'⟩
theorem RepVL.ofPv {E:Env} : ∀ {cs:List PV} {vs:List Value},RepL E.H cs vs->RepVL E (oA cs) vs
 | [],_,_=>by simp [oA,RepVL]
 | c::cs,[],r=>by simp [RepL] at r
 | c::cs,v::vs,r=>by
  simp only [RepL] at r;simp only [oA,List.map_cons,RepVL,RepV];exact⟨r.1,RepVL.ofPv r.2⟩
theorem RepVL.toPv {E:Env} : ∀ {cs:List V} {ps:List PV} {vs:List Value},nD cs=some ps->RepVL E cs vs->RepL E.H ps vs
 | [],ps,_,h,_=>by simp [nD] at h;subst h;simp [RepL]
 | c::cs,ps,[],h,r=>by simp [RepVL] at r
 | c::cs,ps,v::vs,h,r=>by
  simp only [nD] at h;split at h
  ·rename_i p qs hp hq;cases h;simp only [RepVL] at r;simp only [RepL];refine⟨?_,RepVL.toPv hq r.2⟩;cases c<;>simp [V.un] at hp;subst hp;simpa [RepV] using r.1
  ·cases h
theorem EQ:∀ {cs:List V} {ps:List PV},nD cs=some ps->ps.length=cs.length
 | [],ps,h=>by simp [nD] at h;subst h;rfl
 | c::cs,ps,h=>by
  simp only [nD] at h;split at h
  ·rename_i p qs hp hq;cases h;simp [EQ hq]
  ·cases h
theorem GQ {E:Env} {cs:List V} {vs:List Value} (hl:vs.length=cs.length) (r:RepVL E cs vs):RepV E (xF cs) (.agg vs.toArray):=by
 unfold xF;split
 ·rename_i ps e;exact⟨vs,rfl,by rw [hl,EQ e],RepVL.toPv e r⟩
 ·exact⟨vs,rfl,hl,r⟩
theorem kO (cs:List PV):GA (oA cs)=[]:=by
 induction cs with
 | nil=>rfl
 | cons c cs ih=>simpa [oA,GA,V.names] using ih
theorem Kh (es:List (List PV)):qB (vA es)=[]:=by
 induction es with
 | nil=>rfl
 | cons c cs ih=>simpa [vA,qB,kO] using ih
theorem RepVE.toPv {E:Env} : ∀ {es:List (List V)} {ps:List (List PV)} {vs:List Value},cE es=some ps->RepVE E es vs->RepE E.H ps vs
 | [],ps,_,h,_=>by simp [cE] at h;subst h;simp [RepE]
 | e::es,ps,vs,h,r=>by
  simp only [cE] at h;split at h
  ·rename_i p qs hp hq;cases h;simp only [RepVE] at r;simp only [RepE];refine⟨RepVL.toPv hp r.1,?_⟩;rw [EQ hp];exact RepVE.toPv hq r.2
  ·cases h
theorem jZ:∀ {es:List (List V)} {ps:List (List PV)},cE es=some ps->ps.length=es.length
 | [],ps,h=>by simp [cE] at h;subst h;rfl
 | e::es,ps,h=>by
  simp only [cE] at h;split at h
  ·rename_i p qs hp hq;cases h;simp [jZ hq]
  ·cases h
theorem Lh {E:Env} {es:List (List V)} {b cap:Nat} (h1:es.length<=cap) (h2:es.length<=maxLen) (r:RepVE E es (E.H b)):RepV E (rM es) (.slice (some ⟨b,0,none⟩) es.length cap):=by
 unfold rM;split
 ·rename_i ps e;have hl:=jZ e;simp only [RepV,RepP];exact⟨_,cap,by rw [hl],by omega,by omega,.inr ⟨b,0,rfl,by simpa using RepVE.toPv e r⟩⟩
 ·simp only [RepV];exact⟨_,cap,rfl,h1,h2,.inr ⟨b,0,rfl,by simpa using r⟩⟩
theorem Mh (es:List (List V)):∀ n∈(rM es).names,n∈qB es:=by
 intro n hn;unfold rM at hn;split at hn
 ·simp [V.names] at hn
 ·simpa [V.names] using hn
theorem HQ (cs:List V):∀ n∈(xF cs).names,n∈GA cs:=by
 intro n hn;unfold xF at hn;split at hn
 ·simp [V.names] at hn
 ·simpa [V.names] using hn
theorem mem_namesL {cs:List V} {n:Nat} : n∈GA cs ↔ ∃ c∈cs,n∈c.names:=by
 induction cs with
 | nil=>simp [GA]
 | cons c cs ih=>simp [GA,ih]
theorem mem_namesE {es:List (List V)} {n:Nat} : n∈qB es ↔ ∃ e∈es,n∈GA e:=by
 induction es with
 | nil=>simp [qB]
 | cons c cs ih=>simp [qB,ih]
section
variable {P:Program} {t:Nat} {ti:TI}
theorem TIOK.run_size (h:TIOK P t ti) (w:World):(sizeOf t).run P w = .ok ti.size w:=by
 obtain⟨i,hi,hs,_⟩:=h.info;simp [sizeOf,typeInfo,hi,hs]
theorem TIOK.run_zero (h:TIOK P t ti) (w:World):(zeroValue t).run P w = .ok ti.zero w:=by
 obtain⟨i,hi,_,_,hz⟩:=h.info;simp [zeroValue,typeInfo,hi,hz]
theorem TIOK.run_agg (h:TIOK P t ti) (w:World):(isAgg t).run P w = .ok ti.isAgg w:=by
 obtain⟨d,hd,hk⟩:=h.desc;unfold TI.isAgg;cases hkk:ti.k<;>rw [hkk] at hk<;>simp only [IB] at hk
 ·cases d<;>simp_all [isAgg,run_underlying hd]
 ·subst hk;simp [isAgg,run_underlying hd]
 ·obtain⟨e,rfl⟩:=hk;simp [isAgg,run_underlying hd]
 ·obtain⟨p,r,v,rfl⟩:=hk;simp [isAgg,run_underlying hd]
 ·obtain⟨f,rfl,_⟩:=hk;simp [isAgg,run_underlying hd]
 ·subst hk;simp [isAgg,run_underlying hd]
 ·subst hk;simp [isAgg,run_underlying hd]
 ·obtain⟨rfl,_⟩:=hk;simp [isAgg,run_underlying hd]
 ·subst hk;simp [isAgg,run_underlying hd]
 ·subst hk;simp [isAgg,run_underlying hd]
 ·obtain⟨ms,rfl⟩:=hk;simp [isAgg,run_underlying hd]
 ·obtain⟨rfl,_⟩:=hk;simp [isAgg,run_underlying hd]
theorem AU {w:World} {b off:Nat} {c:Array Value} {T:Nat} {fr:Nat × Nat} (h:w.heap[b]? = some (.cells c T fr)) (j:Nat) :
  w.cell? ((⟨b,off,none⟩:Addr).add j)=c[off+j]?:=by
 unfold Addr.add;split
 ·rename_i e;subst e;simp [World.cell?,h]
 ·simp [World.cell?,h]
theorem yO (hT:TIOK P t ti) (ha:ti.isAgg=true) {w:World} {b off:Nat} {c:Array Value} {T:Nat} {fr:Nat × Nat}
  (h:w.heap[b]? = some (.cells c T fr)) (hle:off+ti.size<=c.size) :
  (Instr.loadAt t (.pointer (some ⟨b,off,none⟩))).run P w = .ok (.agg ((c.toList.drop off).take ti.size).toArray) w:=by
 have hl:=run_loadCells_list (P:=P) w ⟨b,off,none⟩ ((c.toList.drop off).take ti.size) (by
  intro j v hj;rw [AU h];rw [List.getElem?_take] at hj;split at hj
  ·simpa using hj
  ·cases hj)
 have hlen:((c.toList.drop off).take ti.size).length=ti.size:=by simp;omega
 rw [hlen] at hl;simp [Instr.loadAt,Instr.sureAddr,loadVar,hT.run_agg,ha,hT.run_size,hl]
theorem uO (hT:TIOK P t ti) (ha:ti.isAgg=false) {w:World} {b off:Nat} {c:Array Value} {T:Nat} {fr:Nat × Nat} {v:Value}
  (h:w.heap[b]? = some (.cells c T fr)) (hv:c[off]? = some v) :
  (Instr.loadAt t (.pointer (some ⟨b,off,none⟩))).run P w = .ok v w:=by
 have hc:w.cell? ⟨b,off,none⟩=some v:=by simp [World.cell?,h,hv]
 simp [Instr.loadAt,Instr.sureAddr,loadVar,hT.run_agg,ha,hc]
end
def OpRes (P:Program) (o:Oper) (a:Act) (w:World) (v:Value) (w':World):Prop :=
 (execOp a.eval o).run P w = .ok (.value v) w'\/((execOp a.eval o).run P w = .ok .skip w'/\v=undef)
theorem OpRes.wp {P:Program} {o:Oper} {a:Act} {w w':World} {v:Value} (h:OpRes P o a w v w') {K:Act->World->Prop} {Q:Exit->Act->World->Prop}
  (hk:K (a.put o.dst v) w'):o.wp P a w K Q:=by
 unfold Oper.wp;rcases h with h|⟨h,rfl⟩
 ·rw [h];exact hk
 ·rw [h];exact hk
def St.app (σ:St) (dst:Option Nat) (r:R):St :=
 ⟨iC dst r.out σ.slots,
  match r.wr with|some (n,o)=>kB σ.objs n o|none=>σ.objs,
  match r.wr,r.new with|some (n,_),true=>n::σ.used|_,_=>σ.used⟩
def Sound (P:Program) (C:Ctx) (E:Env) (σ:St) (a:Act) (w:World) (o:Oper) (r:R):Prop :=
 ∃ v w' E',OpRes P o a w v w'/\Ga C E' (σ.app o.dst r) (a.put o.dst v) w'/\r.fact
section
variable {P:Program} {C:Ctx} {E:Env} {σ:St} {a:Act} {w:World} {gl:Nat->Option (List PV)} {o:Oper} {T:Nat->Option TI} {note:FC} {ob:Nat->Option Ob}
theorem Sound.pure (h:Ga C E σ a w) {v:Value} {c f:Prop} {x:V} {b:Bool} (hr:OpRes P o a w v w) (hx:RepV E x v) (hn:∀ n∈x.names,n∈σ.used)
  (hd:∀ d,o.dst=some d->d<C.nt) (hf:f):Sound P C E σ a w o ⟨c,f,x,none,b⟩ :=
 ⟨v,w,E,hr,h.pure E.H o.dst x v (Hle.refl _) (Nat.le_refl _) ⟨rfl,rfl,rfl⟩ (λ _ _=>⟨rfl,rfl⟩) h.heap hx hn hd,hf⟩
theorem Nh (h:Ga C E σ a w) (hg:GOK gl C.E0.H) (hd:∀ d,o.dst=some d->d<C.nt) {x:Operand} (ho:o.op = .move x\/o.op = .assign x) :
  Sound P C E σ a w o (R.of (σ.val gl x)):=by
 refine Sound.pure h (v:=a.eval x) (.inl ?_) (QA h hg x) (fC h x) hd trivial;rcases ho with ho|ho<;>simp [execOp,ho]
theorem BF {E:Env} {b:Bool} {v:Value} (h:RepV E (.pv (.bool b)) v):v = .bool b:=by simpa [RepV,RepP] using h
theorem ZE {E:Env} {n:Int} {v:Value} (h:RepV E (.pv (.int n)) v):v = .int .i64 n:=by simpa [RepV,RepP] using h
theorem bO (h:Ga C E σ a w) (hd:∀ d,o.dst=some d->d<C.nt) {b:Bool} (hr:OpRes P o a w (.bool b) w):Sound P C E σ a w o (R.of (.pv (.bool b))) :=
 Sound.pure h hr (by simp [RepV,RepP]) (by simp [V.names]) hd trivial
theorem cM (h:Ga C E σ a w) (hd:∀ d,o.dst=some d->d<C.nt) {n:Int} {c f:Prop} {b:Bool} (hr:OpRes P o a w (.int .i64 n) w) (hf:f):Sound P C E σ a w o ⟨c,f,.pv (.int n),none,b⟩ :=
 Sound.pure h hr (by simp [RepV,RepP]) (by simp [V.names]) hd hf
theorem Oh (h:Ga C E σ a w) (hg:GOK gl C.E0.H) (hd:∀ d,o.dst=some d->d<C.nt) {c x y:Operand} (ho:o.op = .pick c x y) {r:R}
  (hs:gA T note (σ.val gl) ob o.dst (.pick c x y)=some r):Sound P C E σ a w o r:=by
 have hc:=QA h hg c;have hx:=QA h hg x;have hy:=QA h hg y;have nx:=fC (gl:=gl) h x;have ny:=fC (gl:=gl) h y;simp only [gA] at hs;split at hs
 ·rename_i c' a' b' e1 e2 e3;rw [e1] at hc;rw [e2] at hx;rw [e3] at hy;have hc:=BF hc;have hx:=BF hx;have hy:=BF hy;simp only [PB,Option.some.injEq] at hs;subst hs;refine bO h hd (.inl ?_);cases c'<;>simp [execOp,ho,hc,hx,hy,asBool]
 ·rename_i e1 _;rw [e1] at hc;have hc:=BF hc;simp only [Option.some.injEq] at hs;subst hs;refine Sound.pure h (v:=a.eval x) (.inl ?_) hx nx hd trivial;simp [execOp,ho,hc,asBool]
 ·rename_i e1 _;rw [e1] at hc;have hc:=BF hc;simp only [Option.some.injEq] at hs;subst hs;refine Sound.pure h (v:=a.eval y) (.inl ?_) hy ny hd trivial;simp [execOp,ho,hc,asBool]
 ·cases hs
theorem Ph (h:Ga C E σ a w) (hg:GOK gl C.E0.H) (hd:∀ d,o.dst=some d->d<C.nt) {t:Nat} {x:Operand} (ho:o.op = .unOp .not t x) {r:R}
  (hs:gA T note (σ.val gl) ob o.dst (.unOp .not t x)=some r):Sound P C E σ a w o r:=by
 have hx:=QA h hg x;simp only [gA] at hs;split at hs
 ·rename_i b e;rw [e] at hx;have hx:=BF hx;simp only [PB,Option.some.injEq] at hs;subst hs;refine bO h hd (.inl ?_);simp [execOp,ho,hx,Op.unary]
 ·cases hs
theorem Qh (h:Ga C E σ a w) (hg:GOK gl C.E0.H) (hd:∀ d,o.dst=some d->d<C.nt) {t:Nat} {x:Operand} (ho:o.op = .makeInterface t x) {r:R}
  (hT:xB P T) (hs:gA T note (σ.val gl) ob o.dst (.makeInterface t x)=some r):Sound P C E σ a w o r:=by
 have hx:=QA h hg x;simp only [gA] at hs;split at hs
 ·rename_i ti p et e;rw [e] at hx
  cases hif:ti.k.isIface with
  | true=>rw [hif] at hs;cases hs
  | false =>
  rw [hif] at hs;simp only [cond_false,Option.some.injEq] at hs;subst hs;have hrun:∀ v,(Instr.makeInterface t v).run P w = .ok (.iface t v) w:=λ v=>run_makeInterface (P:=P) w t v ((hT t _ et).conc.resolve_left (by rw [hif];simp))
  refine Sound.pure h (v:=.iface t (a.eval x)) (.inl ?_) ?_ (by simp [V.names]) hd trivial
  ·simp [execOp,ho,hrun]
  ·simp only [RepV,RepP] at hx ⊢;exact⟨_,rfl,hx⟩
 ·cases hs
theorem BU {P:Program} {t:Nat} {ti:TI} (h:TIOK P t ti) {z:PV} (ez:kI ti=some z) (H:Hp):RepP H z ti.zero:=by
 unfold kI at ez;split at ez
 ·rename_i zz e0;cases ez;simp only [RepP];have hz:=h.zcells;have h3:=h.zlen;have h4:=h.zc;rw [e0] at hz h3 ⊢;simp only [Value.cells] at hz h3;refine⟨zz.toList,by simp,?_,RepL.mono (λ _=>List.nil_prefix) _ _ _ List.prefix_rfl hz⟩;simp;omega
 ·unfold zZ at ez;split at ez<;>cases ez
  all_goals
   rename_i e0;rw [e0]
   first|(simp [RepP];done)|(simp only [RepP];exact⟨by rw [UY],VY _⟩)
theorem Rh (h:Ga C E σ a w) (hg:GOK gl C.E0.H) (hd:∀ d,o.dst=some d->d<C.nt) (hT:xB P T) {x:Operand} {t0 t:Nat} {b:Bool} (ho:o.op = .typeAssert x t0 t b) {r:R}
  (hs:gA T note (σ.val gl) ob o.dst (.typeAssert x t0 t b)=some r):Sound P C E σ a w o r:=by
 have hx:=QA h hg x;simp only [gA] at hs;split at hs
 ·rename_i ti et;split at hs
  ·cases hs
  ·rename_i hif;have hti:=hT t ti et;obtain⟨d,hde,_⟩:=hti.desc;have hconc:P.concrete t=true:=by
    rcases hti.conc with h|h
    ·exact absurd h hif
    ·exact h
   have hd':∀ ms,d ≠ .interface ms:=by
    intro ms e;subst e;simp [Program.concrete,hde] at hconc
   have UB:∀ (v:Value) (p:PV),RepP E.H p v->(Instr.typeAssert (a.eval x) t0 t b).run P w = .ok v w->Sound P C E σ a w o (R.of (.pv p)):=by
    intro v p hp hr;refine Sound.pure h (v:=v) (.inl ?_) (by simpa only [R.of,RepV] using hp) (by simp [V.names]) hd trivial;simp only [execOp,ho,Sem.run_bind,hr,Result.andThen_ok];rfl
   have tup:∀ (v:Value) (p:PV) (c:Bool),RepP E.H p v->RepP E.H (.tuple [p,.bool c]) (.tuple #[v,.bool c]):=by
    intro v p c hp;rw [RepP];exact⟨[v,.bool c],rfl,rfl,by rw [RepL,RepL,RepL];exact⟨hp,by simp [RepP],trivial⟩⟩
   unfold CQ at hs;split at hs
   ·rename_i t' p e;rw [e] at hx;simp only [RepV,RepP] at hx;obtain⟨u,hv,hu⟩:=hx;split at hs
    ·rename_i e';subst e';have hrun:∀ c,(Instr.typeAssert (.iface t' u) t0 t' c).run P w = .ok (if c then .tuple #[u,.bool true] else u) w:=by
      intro c;unfold Instr.typeAssert;simp only [Sem.run_bind,run_underlying hde,Result.andThen_ok];cases d<;>first|exact absurd rfl (hd' _)|(cases c<;>simp)
     split at hs
     ·cases hs;exact UB _ _ (tup u p true hu) (by rw [hv,hrun];rfl)
     ·cases hs;exact UB _ _ hu (by rw [hv,hrun];rfl)
    ·rename_i hne;split at hs
     ·rename_i z ez;cases hs;refine UB _ _ (tup ti.zero z false (BU hti ez E.H)) ?_;rw [hv];unfold Instr.typeAssert;simp only [Sem.run_bind,run_underlying hde,Result.andThen_ok];cases d<;>first|exact absurd rfl (hd' _)|simp [hne,hti.run_zero]
     ·cases hs
   ·rename_i e;rw [e] at hx;simp only [RepV,RepP] at hx;split at hs
    ·rename_i z ez;cases hs;refine UB _ _ (tup ti.zero z false (BU hti ez E.H)) ?_;rw [hx];unfold Instr.typeAssert;simp only [Sem.run_bind,run_underlying hde,Result.andThen_ok];cases d<;>first|exact absurd rfl (hd' _)|simp [hti.run_zero]
    ·cases hs
   ·cases hs
 ·cases hs
theorem Sh (h:Ga C E σ a w) (hg:GOK gl C.E0.H) (hd:∀ d,o.dst=some d->d<C.nt) {x:Operand} (ho:o.op = .nilCheck x) {r:R}
  (hs:gA T note (σ.val gl) ob o.dst (.nilCheck x)=some r):Sound P C E σ a w o r:=by
 have hx:=QA h hg x;have nx:=fC (gl:=gl) h x;simp only [gA] at hs;have key:∀ ad:Addr,a.eval x = .pointer (some ad)->Sound P C E σ a w o (R.of (σ.val gl x)):=by
  intro ad e;refine Sound.pure h (v:=a.eval x) (.inl ?_) hx nx hd trivial;simp [execOp,ho,e]
 split at hs
 ·rename_i cs e;simp only [Option.some.injEq] at hs;subst hs;rw [<- e];rw [e] at hx;simp only [RepV,RepP] at hx;obtain⟨b,off,hv,_⟩:=hx;exact key _ hv
 ·rename_i cs e;simp only [Option.some.injEq] at hs;subst hs;rw [<- e];rw [e] at hx;simp only [RepV,RepP] at hx;obtain⟨b,off,hv,_⟩:=hx;exact key _ hv
 ·rename_i n off e;simp only [Option.some.injEq] at hs;subst hs;rw [<- e];rw [e] at hx;simp only [RepV] at hx;obtain⟨b,_,hv⟩:=hx;exact key _ hv
 ·rename_i n ver i off e;simp only [Option.some.injEq] at hs;subst hs;rw [<- e];rw [e] at hx;simp only [RepV] at hx;obtain⟨_,⟨ad,hv⟩,_⟩:=hx;exact key _ hv
 ·cases hs
end
section
variable {P:Program} {C:Ctx} {E:Env} {σ:St} {a:Act} {w:World} {gl:Nat->Option (List PV)} {o:Oper} {T:Nat->Option TI} {note:FC} {ob:Nat->Option Ob}
theorem CU {x:Int} (h:zL x):IntKind.i64.wrap x=x:=IntWalk.i64_in x (by obtain⟨h1,h2⟩:=h;omega)
theorem Th {b:BinOp} {t:Nat} {x y:Operand} {u v:Value} (h1:∀ c,u ≠ .agg c) (h2:u ≠ .nilIface\/(v = .nilIface /\ ∃ c,y = .const c) \/ ∃ t x,v = .iface t x):(eqGuard b t x y u v).run P w = .ok () w:=by
 rcases h2 with h2|⟨hv,c,hy⟩|⟨t',x',hv⟩
 case inr.inr =>
  subst hv;cases u<;>first|exact absurd rfl (h1 _)|skip
  all_goals
   unfold eqGuard;cases b<;>first|rfl|simp
 case inr.inl =>
  subst hv hy;cases u<;>first|exact absurd rfl (h1 _)|skip
  all_goals
   unfold eqGuard;cases b<;>first|rfl|simp
 cases u<;>first|exact absurd rfl (h1 _)|exact absurd rfl h2|skip
 all_goals
  unfold eqGuard;cases b<;>rfl
theorem eM {b:BinOp} {t t':Nat} {x y:Operand} (ho:o.op = .binOp b t x y t') {v:Value}
  (h:(binOp b t (a.eval x) (a.eval y)).run P w = .ok v w) (h1:∀ c,a.eval x ≠ .agg c) (h2:a.eval x ≠ .nilIface\/(a.eval y = .nilIface /\ ∃ c,y = .const c) \/ ∃ t x,a.eval y = .iface t x):OpRes P o a w v w:=by
 refine .inl ?_;have hq:=Th (P:=P) (w:=w) (b:=b) (t:=t) (x:=x) (y:=y) (v:=a.eval y) h1 h2;simp [execOp,ho,hq,h]
theorem qF {t:Nat} {x y:Value} {b:Bool} (h:∀ d,(Op.equalIn (d+1) t x y).run P w = .ok b w):(Op.equal t x y).run P w = .ok b w:=by
 unfold Op.equal;exact h 9999
theorem Uh {op:BinOp} {x y:Int} {r:R} (hs:xQ op x y=some r) (hc:r.cond) (t:Nat) :
  ∃ v,(binOp op t (.int .i64 x) (.int .i64 y)).run P w = .ok v w/\RepV E r.out v/\r.out.names=[]/\r.wr=none/\r.fact:=by
 have hb:∀ z:Int,(x == y)=decide (x=y):=by intro z;by_cases e:x=y<;>simp [e]
 cases op<;>simp only [xQ,PB,Option.some.injEq,reduceCtorEq] at hs<;>subst hs
 ·exact⟨.int .i64 (x+y),by simp [binOp,Op.intArith,CU hc],by simp [RepV,RepP,R.ofIf],rfl,rfl,trivial⟩
 ·exact⟨.int .i64 (x-y),by simp [binOp,Op.intArith,CU hc],by simp [RepV,RepP,R.ofIf],rfl,rfl,trivial⟩
 ·exact⟨.int .i64 (x * y),by simp [binOp,Op.intArith,CU hc],by simp [RepV,RepP,R.ofIf],rfl,rfl,trivial⟩
 ·have hc:y≠0:=hc;exact⟨.int .i64 (x.tmod y),by simp [binOp,Op.intDiv,hc],by simp [RepV,RepP,R.ofIf],rfl,rfl,trivial⟩
 ·exact⟨.bool (decide (x=y)),by simp [binOp,Op.intCmp,hb 0],by simp [RepV,RepP,R.of],rfl,rfl,trivial⟩
 ·exact⟨.bool (!decide (x=y)),by simp [binOp,Op.intCmp,bne,hb 0],by simp [RepV,RepP,R.of],rfl,rfl,trivial⟩
 ·exact⟨.bool (decide (x<y)),by simp [binOp,Op.intCmp],by simp [RepV,RepP,R.of],rfl,rfl,trivial⟩
 ·exact⟨.bool (decide (x<=y)),by simp [binOp,Op.intCmp],by simp [RepV,RepP,R.of],rfl,rfl,trivial⟩
 ·exact⟨.bool (decide (y<x)),by simp [binOp,Op.intCmp],by simp [RepV,RepP,R.of],rfl,rfl,trivial⟩
 ·exact⟨.bool (decide (y<=x)),by simp [binOp,Op.intCmp],by simp [RepV,RepP,R.of],rfl,rfl,trivial⟩
theorem Vh {op:BinOp} {k:IntKind} {x y:Int} {r:R} (hs:AQ op k x y=some r) (hk:k ≠ .i16/\k ≠ .i8) (t:Nat) :
  ∃ v,(binOp op t (.int k x) (.int k y)).run P w = .ok v w/\RepV E r.out v/\r.out.names=[]/\r.wr=none/\r.fact:=by
 have hb:(x == y)=decide (x=y):=by by_cases e:x=y<;>simp [e]
 cases op<;>simp only [AQ,PB,Option.some.injEq,reduceCtorEq] at hs<;>subst hs
 ·exact⟨.int k (k.wrap (x+y)),by simp [binOp,Op.intArith],by simp only [RepV,RepP,R.of];exact⟨trivial,hk⟩,rfl,rfl,trivial⟩
 ·exact⟨.int k (k.wrap (x-y)),by simp [binOp,Op.intArith],by simp only [RepV,RepP,R.of];exact⟨trivial,hk⟩,rfl,rfl,trivial⟩
 ·exact⟨.int k (HA .and k x y),by simp [binOp,Op.intBits,HA],by simp only [RepV,RepP,R.of];exact⟨trivial,hk⟩,rfl,rfl,trivial⟩
 ·exact⟨.int k (HA .or k x y),by simp [binOp,Op.intBits,HA],by simp only [RepV,RepP,R.of];exact⟨trivial,hk⟩,rfl,rfl,trivial⟩
 ·exact⟨.int k (HA .andNot k x y),by simp [binOp,Op.intBits,HA],by simp only [RepV,RepP,R.of];exact⟨trivial,hk⟩,rfl,rfl,trivial⟩
 ·exact⟨.bool (decide (x=y)),by simp [binOp,Op.intCmp,hb],by simp [RepV,RepP,R.of],rfl,rfl,trivial⟩
 ·exact⟨.bool (!decide (x=y)),by simp [binOp,Op.intCmp,bne,hb],by simp [RepV,RepP,R.of],rfl,rfl,trivial⟩
 ·exact⟨.bool (decide (x<y)),by simp [binOp,Op.intCmp],by simp [RepV,RepP,R.of],rfl,rfl,trivial⟩
 ·exact⟨.bool (decide (x<=y)),by simp [binOp,Op.intCmp],by simp [RepV,RepP,R.of],rfl,rfl,trivial⟩
 ·exact⟨.bool (decide (y<x)),by simp [binOp,Op.intCmp],by simp [RepV,RepP,R.of],rfl,rfl,trivial⟩
 ·exact⟨.bool (decide (y<=x)),by simp [binOp,Op.intCmp],by simp [RepV,RepP,R.of],rfl,rfl,trivial⟩
theorem Wh {op:BinOp} {k:IntKind} {x y:Int} {r:R} (hs:BQ op k x y=some r) (hc:r.cond) (hk:k ≠ .i16/\k ≠ .i8) (t:Nat) :
  ∃ v,(binOp op t (.int k x) (.int .i64 y)).run P w = .ok v w/\RepV E r.out v/\r.out.names=[]/\r.wr=none/\r.fact:=by
 cases op<;>simp only [BQ,Option.some.injEq,reduceCtorEq] at hs<;>subst hs
 ·have hc:0<=y:=hc;have hn:¬ y<0:=by omega
  exact⟨.int k (k.wrap (x * 2 ^ min y.toNat k.bits)),by simp [binOp,Op.shift,hn],by simp only [RepV,RepP,R.ofIf];exact⟨trivial,hk⟩,rfl,rfl,trivial⟩
 ·have hc:0<=y:=hc;have hn:¬ y<0:=by omega
  exact⟨.int k (x.fdiv (2 ^ min y.toNat k.bits)),by simp [binOp,Op.shift,hn],by simp only [RepV,RepP,R.ofIf];exact⟨trivial,hk⟩,rfl,rfl,trivial⟩
theorem Xh {t:Nat} {ti:TI} (hT:TIOK P t ti) {x y:V} {yo:Operand} {b:Bool} (hs:sM ti.k x y yo=some b) {u v:Value} (hu:RepV E x u) (hv:RepV E y v) (hyo:∀ c,yo = .const c->v=c) :
  (Op.equal t u v).run P w = .ok b w/\((∃ c,u = .bool c)\/(∃ c,u = .pointer c/\v = .pointer none)\/(∃ a b c,u = .slice a b c)\/u = .nilFunc\/(∃ a b c,u = .func a b c)\/(∃ t x,u = .iface t x/\v = .nilIface)\/(u = .nilIface/\v = .nilIface /\ ∃ c,yo = .const c)\/u = .nilIface /\ ∃ t x,v = .iface t x):=by
 obtain⟨d,hd,hk⟩:=hT.desc;unfold sM at hs;split at hs
 ·rename_i a' b' e;rw [e] at hk;simp only [IB] at hk;subst hk;have hu:=BF hu;have hv:=BF hv;subst hu hv;simp only [Option.some.injEq] at hs;subst hs;exact⟨qF λ d=>by simp [Op.equalIn,run_underlying hd],.inl ⟨_,rfl⟩⟩
 ·rename_i e;rw [e] at hk;obtain⟨el,rfl⟩:=hk;simp only [RepV,RepP] at hu hv;subst hu hv;simp only [Option.some.injEq] at hs;subst hs;exact⟨qF λ d=>by simp [Op.equalIn,run_underlying hd],.inr (.inl ⟨_,rfl,rfl⟩)⟩
 ·rename_i cs e;rw [e] at hk;obtain⟨el,rfl⟩:=hk;simp only [RepV,RepP] at hu hv;obtain⟨b',off,rfl,_⟩:=hu;subst hv;simp only [Option.some.injEq] at hs;subst hs;exact⟨qF λ d=>by simp [Op.equalIn,run_underlying hd],.inr (.inl ⟨_,rfl,rfl⟩)⟩
 ·rename_i cs e;rw [e] at hk;obtain⟨el,rfl⟩:=hk;simp only [RepV,RepP] at hu hv;obtain⟨b',off,rfl,_⟩:=hu;subst hv;simp only [Option.some.injEq] at hs;subst hs;exact⟨qF λ d=>by simp [Op.equalIn,run_underlying hd],.inr (.inl ⟨_,rfl,rfl⟩)⟩
 ·rename_i n off e;rw [e] at hk;obtain⟨el,rfl⟩:=hk;simp only [RepV,RepP] at hu hv;obtain⟨b',_,rfl⟩:=hu;subst hv;simp only [Option.some.injEq] at hs;subst hs;exact⟨qF λ d=>by simp [Op.equalIn,run_underlying hd],.inr (.inl ⟨_,rfl,rfl⟩)⟩
 ·rename_i e;rw [e] at hk;obtain⟨p,r,vv,rfl⟩:=hk;simp only [RepV,RepP] at hu hv;subst hu hv;simp only [Option.some.injEq] at hs;subst hs;exact⟨qF λ d=>by simp [Op.equalIn,run_underlying hd],.inr (.inr (.inr (.inl rfl)))⟩
 ·rename_i f cs e;rw [e] at hk;obtain⟨p,r,vv,rfl⟩:=hk;simp only [RepV,RepP] at hu hv;obtain⟨vs,rfl,_⟩:=hu;subst hv;simp only [Option.some.injEq] at hs;subst hs;exact⟨qF λ d=>by simp [Op.equalIn,run_underlying hd],.inr (.inr (.inr (.inr (.inl ⟨_,_,_,rfl⟩))))⟩
 ·rename_i f cs e;rw [e] at hk;obtain⟨p,r,vv,rfl⟩:=hk;simp only [RepV,RepP] at hu hv;obtain⟨vs,rfl,_⟩:=hu;subst hv;simp only [Option.some.injEq] at hs;subst hs;exact⟨qF λ d=>by simp [Op.equalIn,run_underlying hd],.inr (.inr (.inr (.inr (.inl ⟨_,_,_,rfl⟩))))⟩
 ·rename_i t' p e;rw [e] at hk;obtain⟨ms,rfl⟩:=hk;simp only [RepV,RepP] at hu hv;obtain⟨x,rfl,_⟩:=hu;subst hv;simp only [Option.some.injEq] at hs;subst hs;exact⟨qF λ d=>by simp [Op.equalIn,run_underlying hd],.inr (.inr (.inr (.inr (.inr (.inl ⟨_,_,rfl,rfl⟩)))))⟩
 ·rename_i t' p e;rw [e] at hk;obtain⟨ms,rfl⟩:=hk;simp only [RepV,RepP] at hu hv;obtain⟨x,rfl,_⟩:=hv;subst hu;simp only [Option.some.injEq] at hs;subst hs;exact⟨qF λ d=>by simp [Op.equalIn,run_underlying hd],.inr (.inr (.inr (.inr (.inr (.inr (.inr ⟨rfl,_,_,rfl⟩))))))⟩
 ·rename_i e _;rw [e] at hk;obtain⟨ms,rfl⟩:=hk;simp only [RepV,RepP] at hu;subst hu;split at hs
  ·have:=hyo _ rfl;subst this;simp only [Option.some.injEq] at hs;subst hs;exact⟨qF λ d=>by simp [Op.equalIn,run_underlying hd],.inr (.inr (.inr (.inr (.inr (.inr (.inl ⟨rfl,rfl,_,rfl⟩))))))⟩
  ·cases hs
 ·rename_i el e;rw [e] at hk;simp only [IB] at hk;subst hk;simp only [RepV,RepP] at hu;subst hu;split at hs
  ·have:=hyo _ rfl;subst this;simp only [Option.some.injEq] at hs;subst hs;exact⟨qF λ d=>by simp [Op.equalIn,run_underlying hd],.inr (.inr (.inl ⟨_,_,_,rfl⟩))⟩
  ·cases hs
 ·rename_i el e1 e2 e;rw [e] at hk;simp only [IB] at hk;subst hk;simp only [RepV,RepP] at hu;obtain⟨ad,cap,rfl,_,_,h0⟩:=hu;rcases h0 with h0|⟨b',off,rfl,_⟩
  ·cases h0
  split at hs
  ·have:=hyo _ rfl;subst this;simp only [Option.some.injEq] at hs;subst hs;exact⟨qF λ d=>by simp [Op.equalIn,run_underlying hd],.inr (.inr (.inl ⟨_,_,_,rfl⟩))⟩
  ·cases hs
 ·cases hs
theorem vZ {t:Nat} {yo:Operand} {u v:Value} {b:Bool} (hr:(Op.equal t u v).run P w = .ok b w)
  (hu:(∃ c,u = .bool c)\/(∃ c,u = .pointer c/\v = .pointer none)\/(∃ a b c,u = .slice a b c)\/u = .nilFunc\/(∃ a b c,u = .func a b c)\/(∃ t x,u = .iface t x/\v = .nilIface)\/(u = .nilIface/\v = .nilIface /\ ∃ c,yo = .const c)\/u = .nilIface /\ ∃ t x,v = .iface t x) :
  (binOp .eql t u v).run P w = .ok (.bool b) w/\(binOp .neq t u v).run P w = .ok (.bool !b) w:=by
 rcases hu with ⟨c,rfl⟩|⟨c,rfl,rfl⟩|⟨a',b',c,rfl⟩|rfl|⟨a',b',c,rfl⟩|⟨t',x,rfl,rfl⟩|⟨rfl,rfl,_⟩|⟨rfl,_,_,rfl⟩
 ·cases v<;>simp [binOp,hr]
 ·simp [binOp,hr]
 ·cases v<;>simp [binOp,hr]
 ·cases v<;>simp [binOp,hr]
 ·cases v<;>simp [binOp,hr]
 ·simp [binOp,hr]
 ·simp [binOp,hr]
 ·simp [binOp,hr]
theorem Yh (h:Ga C E σ a w) (hg:GOK gl C.E0.H) (hd:∀ d,o.dst=some d->d<C.nt) (hT:xB P T) {b:BinOp} {t t':Nat} {x y:Operand} (ho:o.op = .binOp b t x y t') {r:R} (hc:r.cond)
  (hs:gA T note (σ.val gl) ob o.dst (.binOp b t x y t')=some r):Sound P C E σ a w o r:=by
 have hx:=QA h hg x;have hy:=QA h hg y;simp only [gA] at hs;split at hs
 ·rename_i ti e;have hti:=hT t ti e;unfold hJ at hs;split at hs
  ·rename_i p q e1 e2;rw [e1] at hx;rw [e2] at hy;have hx:=ZE hx;have hy:=ZE hy;obtain⟨v,hr,hv,hn,hw,hf⟩:=Uh (P:=P) (E:=E) (w:=w) hs hc t;obtain⟨c,f,x',wr,nw⟩:=r;simp only at hw hn hv hf;subst hw;refine Sound.pure h (eM ho (v:=v) ?_ ?_ ?_) hv (by simp [hn]) hd hf
   ·rw [hx,hy];exact hr
   ·rw [hx];simp
   ·refine .inl ?_;rw [hx];simp
  ·rename_i k p k' q e1 e2;rw [e1] at hx;rw [e2] at hy;simp only [RepV,RepP] at hx hy;split at hs
   ·rename_i ek;subst ek;obtain⟨v,hr,hv,hn,hw,hf⟩:=Vh (P:=P) (E:=E) (w:=w) hs hx.2 t;obtain⟨c,f,x',wr,nw⟩:=r;simp only at hw hn hv hf;subst hw;refine Sound.pure h (eM ho (v:=v) ?_ ?_ ?_) hv (by simp [hn]) hd hf
    ·rw [hx.1,hy.1];exact hr
    ·rw [hx.1];simp
    ·refine .inl ?_;rw [hx.1];simp
   ·cases hs
  ·rename_i k p q e1 e2;rw [e1] at hx;rw [e2] at hy;simp only [RepV,RepP] at hx hy;obtain⟨v,hr,hv,hn,hw,hf⟩:=Wh (P:=P) (E:=E) (w:=w) hs hc hx.2 t;obtain⟨c,f,x',wr,nw⟩:=r;simp only at hw hn hv hf;subst hw;refine Sound.pure h (eM ho (v:=v) ?_ ?_ ?_) hv (by simp [hn]) hd hf
   ·rw [hx.1,hy];exact hr
   ·rw [hx.1];simp
   ·refine .inl ?_;rw [hx.1];simp
  ·rename_i p q e1 e2;rw [e1] at hx;rw [e2] at hy;simp only [RepV,RepP] at hx hy;have XA:=qZ hx.2 hy.2;unfold YY at hs;split at hs
   ·simp only [PB,Option.some.injEq] at hs;subst hs;refine bO h hd (eM ho ?_ ?_ ?_)
    ·rw [hx.1,hy.1,binOp_string_eql,ByteArray.toList_mk,ByteArray.toList_mk,XA];rfl
    ·rw [hx.1];simp
    ·refine .inl ?_;rw [hx.1];simp
   ·simp only [PB,Option.some.injEq] at hs;subst hs;refine bO h hd (eM ho ?_ ?_ ?_)
    ·rw [hx.1,hy.1,binOp_string_neq,ByteArray.toList_mk,ByteArray.toList_mk,XA];rfl
    ·rw [hx.1];simp
    ·refine .inl ?_;rw [hx.1];simp
   ·cases hs
  ·have hyo:∀ c,y = .const c->a.eval y=c:=by rintro c rfl;rfl
   split at hs
   all_goals (try cases hs)
   all_goals
    rename_i bb e1;obtain⟨hr,hu⟩:=Xh (w:=w) hti e1 hx hy hyo;refine bO h hd (eM ho ?_ ?_ ?_)
    ·first|exact (vZ (yo:=y) hr hu).1|exact (vZ (yo:=y) hr hu).2
    ·rcases hu with ⟨c,hu⟩|⟨c,hu,hu'⟩|⟨a',b',c,hu⟩|hu|⟨a',b',c,hu⟩|⟨t',x,hu,_⟩|⟨hu,_⟩|⟨hu,_⟩<;>rw [hu]<;>simp
    ·rcases hu with ⟨c,hu⟩|⟨c,hu,hu'⟩|⟨a',b',c,hu⟩|hu|⟨a',b',c,hu⟩|⟨t',x,hu,_⟩|⟨_,hu⟩|⟨_,hu⟩<;>first|exact .inr (.inl hu)|exact .inr (.inr hu)|(refine .inl ?_;rw [hu];simp)
 ·cases hs
end
theorem uL (b o k:Nat):(⟨b,o,none⟩:Addr).add k=⟨b,o+k,none⟩:=by
 unfold Addr.add;split<;>simp_all
theorem RepE.get {H:Hp} {s:Nat} : ∀ {es:List (List PV)} {vs:List Value},RepE H es vs->(∀ e∈es,e.length=s)->∀ i,i<es.length->RepL H (es.getD i []) (vs.drop (i * s))
 | [],_,_,_,i,hi=>by simp at hi
 | e::es,vs,r,hs,0,_=>by simp only [RepE] at r;simpa using r.1
 | e::es,vs,r,hs,i+1,hi=>by
  simp only [RepE] at r;have:=RepE.get r.2 (λ x hx=>hs x (by simp [hx])) i (by simpa using hi);rw [List.drop_drop,hs e (by simp)] at this;simpa [Nat.succ_mul,Nat.add_comm] using this
theorem RepVE.get {E:Env} {s:Nat} : ∀ {es:List (List V)} {vs:List Value},RepVE E es vs->(∀ e∈es,e.length=s)->∀ i,i<es.length->RepVL E (es.getD i []) (vs.drop (i * s))
 | [],_,_,_,i,hi=>by simp at hi
 | e::es,vs,r,hs,0,_=>by simp only [RepVE] at r;simpa using r.1
 | e::es,vs,r,hs,i+1,hi=>by
  simp only [RepVE] at r;have:=RepVE.get r.2 (λ x hx=>hs x (by simp [hx])) i (by simpa using hi);rw [List.drop_drop,hs e (by simp)] at this;simpa [Nat.succ_mul,Nat.add_comm] using this
theorem RepE.dropE {H:Hp} {s:Nat} : ∀ {es:List (List PV)} {vs:List Value},RepE H es vs->(∀ e∈es,e.length=s)->∀ i,RepE H (es.drop i) (vs.drop (i * s))
 | es,vs,r,_,0=>by simpa using r
 | [],vs,r,_,i+1=>by simp [RepE]
 | e::es,vs,r,hs,i+1=>by
  simp only [RepE] at r;have:=RepE.dropE r.2 (λ x hx=>hs x (by simp [hx])) i;rw [List.drop_drop,hs e (by simp)] at this;simpa [Nat.succ_mul,Nat.add_comm] using this
theorem RepE.takeE {H:Hp} : ∀ {es:List (List PV)} {vs:List Value},RepE H es vs->∀ i,RepE H (es.take i) vs
 | es,vs,r,0=>by simp [RepE]
 | [],vs,r,i+1=>by simp [RepE]
 | e::es,vs,r,i+1=>by
  simp only [RepE] at r;simp only [List.take_succ_cons,RepE];exact⟨r.1,RepE.takeE r.2 i⟩
section
variable {P:Program} {C:Ctx} {E:Env} {σ:St} {a:Act} {w:World} {gl:Nat->Option (List PV)} {o:Oper} {T:Nat->Option TI} {note:FC}
theorem wZ {x y:V} {off:Nat} {v:Value} (h:lJ x off=some y) (hx:RepV E x v) :
  ∃ ad:Addr,v = .pointer (some ad)/\RepV E y (.pointer (some (ad.add off)))/\y.names=x.names:=by
 unfold lJ at h;split at h
 ·cases h;simp only [RepV,RepP] at hx;obtain⟨b,o',rfl,hr⟩:=hx;refine⟨_,rfl,?_,by simp [V.names]⟩;rw [uL];simp only [RepV,RepP];exact⟨b,o'+off,rfl,by rw [<- List.drop_drop];exact RepL.drop off hr⟩
 ·cases h;simp only [RepV,RepP] at hx;obtain⟨b,o',rfl,hr⟩:=hx;refine⟨_,rfl,?_,by simp [V.names]⟩;rw [uL];simp only [RepV,RepP];exact⟨b,o'+off,rfl,by rw [<- List.drop_drop];exact RepK.drop off hr⟩
 ·cases h;simp only [RepV] at hx;obtain⟨b,hg,rfl⟩:=hx;refine⟨_,rfl,?_,by simp [V.names]⟩;rw [uL];exact⟨b,hg,rfl⟩
 ·cases h;simp only [RepV] at hx;obtain⟨h1,⟨ad,rfl⟩,h2⟩:=hx;refine⟨ad,rfl,?_,by simp [V.names]⟩;simp only [RepV];refine⟨h1,⟨_,rfl⟩,λ e => ?_⟩;obtain⟨b,L,cap,hg,hv,hl⟩:=h2 e;cases hv;refine⟨b,L,cap,hg,?_,hl⟩;rw [uL,Nat.add_assoc]
 ·cases h
theorem Zh (h:Ga C E σ a w) (hg:GOK gl C.E0.H) (hd:∀ d,o.dst=some d->d<C.nt) (hT:xB P T) {t f:Nat} {x:Operand} (ho:o.op = .fieldAddr t x f) {r:R} {ob:Nat->Option Ob}
  (hs:gA T note (σ.val gl) ob o.dst (.fieldAddr t x f)=some r):Sound P C E σ a w o r:=by
 have hx:=QA h hg x;have nx:=fC (gl:=gl) h x;simp only [gA] at hs;split at hs
 ·rename_i fs s1 s2 s3 s4 e;have hti:=hT t _ e;obtain⟨d,hde,hk⟩:=hti.desc;simp only [IB] at hk;obtain⟨ff,rfl,hmap,_⟩:=hk;split at hs
  ·rename_i off size ef;split at hs
   ·cases hs
   ·rename_i hz
    cases ha:lJ (σ.val gl x) off with
    | none=>rw [ha] at hs;cases hs
    | some y =>
     rw [ha] at hs;simp only [Option.map_some,Option.some.injEq] at hs;subst hs;obtain⟨ad,hv,hy,hny⟩:=wZ ha hx;have hget:(ff.toList.map (λ x=>(x.offset,(P.info? x.type).map (·.size))))[f]? = some (off,some size):=by
      rw [hmap];simp [ef]
     rw [List.getElem?_map] at hget
     cases hff:ff.toList[f]? with
     | none=>rw [hff] at hget;cases hget
     | some fd =>
      rw [hff] at hget;simp only [Option.map_some,Option.some.injEq,Prod.mk.injEq] at hget;have hff':ff[f]? = some fd:=by simpa using hff
      obtain⟨hoff,hsz⟩:=hget
      cases hi:P.info? fd.type with
      | none=>rw [hi] at hsz;cases hsz
      | some i =>
       rw [hi] at hsz;have hsz:i.size=size:=by simpa using hsz
       refine Sound.pure h (v:=.pointer (some (ad.add off))) (.inl ?_) hy (by rw [hny];exact nx) hd trivial;simp [execOp,ho,Instr.fieldAt,run_underlying hde,hff',hv,Instr.sureAddr,fieldPlace,sizeOf,typeInfo,hi,hsz,hz,hoff]
  ·cases hs
 ·cases hs
theorem qi (h:Ga C E σ a w) (hg:GOK gl C.E0.H) (hd:∀ d,o.dst=some d->d<C.nt) {i:Nat} {x:Operand} (ho:o.op = .extract x i) {r:R} {ob:Nat->Option Ob}
  (hs:gA T note (σ.val gl) ob o.dst (.extract x i)=some r):Sound P C E σ a w o r:=by
 have hx:=QA h hg x;have nx:=fC (gl:=gl) h x;have getP:∀ (cs:List PV) (vs:List Value) (i:Nat) (c:PV),RepL E.H cs vs->cs[i]? = some c->∃ v,vs[i]? = some v/\RepP E.H c v:=by
  intro cs
  induction cs with
  | nil=>intro vs i c _ hc;simp at hc
  | cons d cs ih =>
   intro vs i c hr hc
   cases vs with
   | nil=>simp [RepL] at hr
   | cons v vs =>
    simp only [RepL] at hr
    cases i with
    | zero=>simp at hc;subst hc;exact⟨v,rfl,hr.1⟩
    | succ i=>simpa using ih vs i c hr.2 (by simpa using hc)
 have getV:∀ (cs:List V) (vs:List Value) (i:Nat) (c:V),RepVL E cs vs->cs[i]? = some c->∃ v,vs[i]? = some v/\RepV E c v:=by
  intro cs
  induction cs with
  | nil=>intro vs i c _ hc;simp at hc
  | cons d cs ih =>
   intro vs i c hr hc
   cases vs with
   | nil=>simp [RepVL] at hr
   | cons v vs =>
    simp only [RepVL] at hr
    cases i with
    | zero=>simp at hc;subst hc;exact⟨v,rfl,hr.1⟩
    | succ i=>simpa using ih vs i c hr.2 (by simpa using hc)
 simp only [gA] at hs;split at hs
 ·rename_i cs e;rw [e] at hx;simp only [RepV,RepP] at hx;obtain⟨vs,hv,hl,hr⟩:=hx
  cases hc:cs[i]? with
  | none=>rw [hc] at hs;cases hs
  | some c =>
   rw [hc] at hs;simp only [Option.map_some,Option.some.injEq] at hs;subst hs;obtain⟨v,hvi,hrc⟩:=getP cs vs i c hr hc;refine Sound.pure h (v:=v) (.inl ?_) (by simpa [RepV] using hrc) (by simp [V.names]) hd trivial;simp [execOp,ho,hv,Instr.extract,hvi]
 ·rename_i cs e;rw [e] at hx nx;simp only [RepV] at hx;obtain⟨vs,hv,hl,hr⟩:=hx
  cases hc:cs[i]? with
  | none=>rw [hc] at hs;cases hs
  | some c =>
   rw [hc] at hs;simp only [Option.map_some,Option.some.injEq] at hs;subst hs;obtain⟨v,hvi,hrc⟩:=getV cs vs i c hr hc;refine Sound.pure h (v:=v) (.inl ?_) hrc (λ n hn=>nx n ?_) hd trivial
   ·simp [execOp,ho,hv,Instr.extract,hvi]
   ·simp only [V.names];exact mem_namesL.2 ⟨c,List.mem_of_getElem? hc,hn⟩
 ·cases hs
theorem kZ {P:Program} {f:List Field} {i:Nat} : ∀ {pl:List Nat},zO P f pl=true->pl.elem i=true->∃ x d,f[i]? = some x/\P.underlying x.type=some d/\(∀ ff,d ≠ .struct ff) /\ ∀ n e,d ≠ .array n e
 | [],_,h=>by simp at h
 | j::is,hp,h=>by
  simp only [zO,Bool.and_eq_true] at hp;rw [List.elem_cons] at h
  cases e:i == j with
  | false=>rw [e] at h;exact kZ hp.2 h
  | true =>
   have e:=eq_of_beq e;subst e;have h1:=hp.1;split at h1
   ·rename_i x hx;split at h1
    ·cases h1
    ·cases h1
    ·rename_i d hn1 hn2 hd;exact⟨x,d,hx,hd,λ ff e=>hn1 ff e,λ n e' e=>hn2 n e' e⟩
    ·cases h1
   ·cases h1
theorem ji (h:Ga C E σ a w) (hg:GOK gl C.E0.H) (hd:∀ d,o.dst=some d->d<C.nt) (hT:xB P T) {t f:Nat} {x:Operand} (ho:o.op = .field t x f) {r:R} {ob:Nat->Option Ob}
  (hs:gA T note (σ.val gl) ob o.dst (.field t x f)=some r):Sound P C E σ a w o r:=by
 have hx:=QA h hg x;have nx:=fC (gl:=gl) h x;have getP:∀ (cs:List PV) (vs:List Value) (i:Nat) (c:PV),RepL E.H cs vs->cs[i]? = some c->∃ v,vs[i]? = some v/\RepP E.H c v:=by
  intro cs
  induction cs with
  | nil=>intro vs i c _ hc;simp at hc
  | cons d cs ih =>
   intro vs i c hr hc
   cases vs with
   | nil=>simp [RepL] at hr
   | cons v vs =>
    simp only [RepL] at hr
    cases i with
    | zero=>simp at hc;subst hc;exact⟨v,rfl,hr.1⟩
    | succ i=>simpa using ih vs i c hr.2 (by simpa using hc)
 have getV:∀ (cs:List V) (vs:List Value) (i:Nat) (c:V),RepVL E cs vs->cs[i]? = some c->∃ v,vs[i]? = some v/\RepV E c v:=by
  intro cs
  induction cs with
  | nil=>intro vs i c _ hc;simp at hc
  | cons d cs ih =>
   intro vs i c hr hc
   cases vs with
   | nil=>simp [RepVL] at hr
   | cons v vs =>
    simp only [RepVL] at hr
    cases i with
    | zero=>simp at hc;subst hc;exact⟨v,rfl,hr.1⟩
    | succ i=>simpa using ih vs i c hr.2 (by simpa using hc)
 simp only [gA] at hs;split at hs
 ·rename_i fs pl s1 s2 s3 s4 e;have hti:=hT t _ e;obtain⟨d,hde,hk⟩:=hti.desc;simp only [IB] at hk;obtain⟨ff,rfl,hmap,hpl⟩:=hk
  cases he:pl.elem f with
  | false=>rw [he] at hs;cases hs
  | true =>
  rw [he] at hs;simp only [cond_true] at hs;obtain⟨fd,dd,hfd,hdd,hn1,hn2⟩:=kZ hpl he;split at hs
  ·rename_i off size ef;have hget:(ff.toList.map (λ x=>(x.offset,(P.info? x.type).map (·.size))))[f]? = some (off,some size):=by
    rw [hmap];simp [ef]
   rw [List.getElem?_map,hfd] at hget;simp only [Option.map_some,Option.some.injEq,Prod.mk.injEq] at hget;obtain⟨hoff,_⟩:=hget;have hff':ff[f]? = some fd:=by simpa using hfd
   have hag:(isAgg fd.type).run P w = .ok false w:=by
    cases dd<;>first|exact absurd rfl (hn1 _)|exact absurd rfl (hn2 _ _)|simp [isAgg,run_underlying hdd]
   split at hs
   ·rename_i cs ev;rw [ev] at hx;simp only [RepV,RepP] at hx;obtain⟨vs,hv,hl,hr⟩:=hx
    cases hc:cs[off]? with
    | none=>rw [hc] at hs;cases hs
    | some c =>
     rw [hc] at hs;simp only [Option.map_some,Option.some.injEq] at hs;subst hs;obtain⟨v,hvi,hrc⟩:=getP cs vs off c hr hc;refine Sound.pure h (v:=v) (.inl ?_) (by simpa [RepV] using hrc) (by simp [V.names]) hd trivial;simp [execOp,ho,hv,Instr.field,run_underlying hde,hff',asAgg,part,hag,hoff,hvi]
   ·rename_i cs ev;rw [ev] at hx nx;simp only [RepV] at hx;obtain⟨vs,hv,hl,hr⟩:=hx
    cases hc:cs[off]? with
    | none=>rw [hc] at hs;cases hs
    | some c =>
     rw [hc] at hs;simp only [Option.map_some,Option.some.injEq] at hs;subst hs;obtain⟨v,hvi,hrc⟩:=getV cs vs off c hr hc;refine Sound.pure h (v:=v) (.inl ?_) hrc (λ n hn=>nx n ?_) hd trivial
     ·simp [execOp,ho,hv,Instr.field,run_underlying hde,hff',asAgg,part,hag,hoff,hvi]
     ·simp only [V.names];exact mem_namesL.2 ⟨c,List.mem_of_getElem? hc,hn⟩
   ·cases hs
  ·cases hs
 ·cases hs
end
end Go.Lg
