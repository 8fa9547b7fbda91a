/- The logic of contracts; no conditions. -/
import Derived.Laws.AppendOwn
import Derived.Laws.OwnMore
import Derived.Laws.AppendOwnNone
import Derived.Orders
import Derived.Tactics
set_option linter.all false
namespace Go.Lg
inductive PV where
 | int (n:Int)
 | bool (b:Bool)
 | nil
 | nils
 | nilfn
 | nilm
 | nilif
 | ptr (cs:List PV)
 | slice (es:List (List PV))
 | agg (cs:List PV)
 | tuple (cs:List PV)
 | iface (t:Nat) (p:PV)
inductive V where
 | undef
 | pv (p:PV)
 | loc (n off:Nat)
 | eloc (n ver i off:Nat)
 | arr (n ver len:Nat)
 | map (n:Nat)
 | vsl (es:List (List V))
 | fsl (es:List (List PV))
 | fn (f:Nat) (caps:List V)
 | bfn (f:Nat) (bs:List V)
 | agg (cs:List V)
 | tuple (cs:List V)
abbrev Hp:=Nat→List Value
mutual
def RepP (H:Hp):PV→Value→Prop
 | .int n,v=>v = .int .i64 n
 | .bool b,v=>v = .bool b
 | .nil,v=>v = .pointer none
 | .nils,v=>v = .slice none 0 0
 | .nilfn,v=>v = .nilFunc
 | .nilm,v=>v = .map none
 | .nilif,v=>v = .nilIface
 | .ptr cs,v => ∃ b off,v = .pointer (some ⟨b,off,none⟩)∧RepL H cs ((H b).drop off)
 | .slice es,v => ∃ a cap,v = .slice a es.length cap∧es.length≤cap∧es.length≤maxLen ∧
   (es=[] ∨ ∃ b off,a=some ⟨b,off,none⟩∧RepE H es ((H b).drop off))
 | .agg cs,v => ∃ vs:List Value,v = .agg vs.toArray∧vs.length=cs.length∧RepL H cs vs
 | .tuple cs,v => ∃ vs:List Value,v = .tuple vs.toArray∧vs.length=cs.length∧RepL H cs vs
 | .iface t p,v => ∃ u,v = .iface t u∧RepP H p u
def RepL (H:Hp):List PV→List Value→Prop
 | [],_=>True
 | _::_,[]=>False
 | c::cs,v::vs=>RepP H c v∧RepL H cs vs
def RepE (H:Hp):List (List PV)→List Value→Prop
 | [],_=>True
 | e::es,vs=>RepL H e vs∧RepE H es (vs.drop e.length)
end
structure Env where
 H:Hp
 g:Nat→Value
 ver:Nat→Nat
 sz:Nat→Nat
mutual
def RepV (E:Env):V→Value→Prop
 | .undef,_=>True
 | .pv p,v=>RepP E.H p v
 | .loc n off,v => ∃ b,E.g n = .pointer (some ⟨b,0,none⟩)∧v = .pointer (some ⟨b,off,none⟩)
 | .eloc n ver i off,v=>ver≤E.ver n∧(∃ a:Addr,v = .pointer (some a)) ∧
   (ver=E.ver n→∃ b L cap,E.g n = .slice (some ⟨b,0,none⟩) L cap∧v = .pointer (some ⟨b,i * E.sz n+off,none⟩)∧i<L)
 | .arr n ver len,v=>ver≤E.ver n∧(∃ a l c,v = .slice a l c) ∧
   (ver=E.ver n→∃ a L cap,E.g n = .slice a L cap∧v = .slice a len cap∧len≤L)
 | .map n,v => ∃ b,E.g n = .map (some b)∧v = .map (some b)
 | .vsl es,v => ∃ a cap,v = .slice a es.length cap∧es.length≤cap∧es.length≤maxLen ∧
   (es=[] ∨ ∃ b off,a=some ⟨b,off,none⟩∧RepVE E es ((E.H b).drop off))
 | .fsl es,v => ∃ a,v = .slice a es.length es.length∧es.length≤maxLen∧(es=[] ∨ ∃ b off,a=some ⟨b,off,none⟩∧RepE E.H es ((E.H b).drop off))
 | .fn f cs,v => ∃ vs:List Value,v = .func (.func f) #[] vs.toArray∧vs.length=cs.length∧RepVL E cs vs
 | .bfn f bs,v => ∃ vs:List Value,v = .func (.func f) vs.toArray #[]∧vs.length=bs.length∧RepVL E bs vs
 | .agg cs,v => ∃ vs:List Value,v = .agg vs.toArray∧vs.length=cs.length∧RepVL E cs vs
 | .tuple cs,v => ∃ vs:List Value,v = .tuple vs.toArray∧vs.length=cs.length∧RepVL E cs vs
def RepVL (E:Env):List V→List Value→Prop
 | [],_=>True
 | _::_,[]=>False
 | c::cs,v::vs=>RepV E c v∧RepVL E cs vs
def RepVE (E:Env):List (List V)→List Value→Prop
 | [],_=>True
 | e::es,vs=>RepVL E e vs∧RepVE E es (vs.drop e.length)
end
mutual
def V.names:V→List Nat
 | .loc n _=>[n]
 | .eloc n _ _ _=>[n]
 | .arr n _ _=>[n]
 | .map n=>[n]
 | .vsl es=>namesE es
 | .fn _ cs=>namesL cs
 | .bfn _ bs=>namesL bs
 | .agg cs=>namesL cs
 | .tuple cs=>namesL cs
 | _=>[]
def namesL:List V→List Nat
 | []=>[]
 | c::cs=>c.names++namesL cs
def namesE:List (List V)→List Nat
 | []=>[]
 | e::es=>namesL e++namesE es
end
def Hle (H H':Hp):Prop:=∀ b,H b <+: H' b
theorem Hle.refl (H:Hp):Hle H H:=fun _=>List.prefix_rfl
theorem Hle.trans {A B C:Hp} (h:Hle A B) (h':Hle B C):Hle A C:=fun b=>(h b).trans (h' b)
theorem prefix_drop {α:Type} {l m:List α} (h:l <+: m) (n:Nat):l.drop n <+: m.drop n:=by
 obtain⟨t,rfl⟩:=h
 rw [List.drop_append]
 exact List.prefix_append _ _
mutual
theorem RepP.mono {H H':Hp} (h:Hle H H'):∀ (p:PV) (v:Value),RepP H p v→RepP H' p v
 | .int _,_,r=>by simpa only [RepP] using r
 | .bool _,_,r=>by simpa only [RepP] using r
 | .nil,_,r=>by simpa only [RepP] using r
 | .nils,_,r=>by simpa only [RepP] using r
 | .nilfn,_,r=>by simpa only [RepP] using r
 | .nilm,_,r=>by simpa only [RepP] using r
 | .nilif,_,r=>by simpa only [RepP] using r
 | .ptr cs,v,r=>by
  simp only [RepP] at r ⊢
  obtain⟨b,off,hv,hr⟩:=r
  exact⟨b,off,hv,RepL.mono h cs _ _ (prefix_drop (h b) off) hr⟩
 | .slice es,v,r=>by
  simp only [RepP] at r ⊢
  obtain⟨a,cap,hv,h1,h2,h3⟩:=r
  refine⟨a,cap,hv,h1,h2,?_⟩
  rcases h3 with h3|⟨b,off,ha,hr⟩
  ·exact .inl h3
  ·exact .inr ⟨b,off,ha,RepE.mono h es _ _ (prefix_drop (h b) off) hr⟩
 | .agg cs,v,r=>by
  simp only [RepP] at r ⊢
  obtain⟨vs,hv,hl,hr⟩:=r
  exact⟨vs,hv,hl,RepL.mono h cs _ _ List.prefix_rfl hr⟩
 | .tuple cs,v,r=>by
  simp only [RepP] at r ⊢
  obtain⟨vs,hv,hl,hr⟩:=r
  exact⟨vs,hv,hl,RepL.mono h cs _ _ List.prefix_rfl hr⟩
 | .iface t p,v,r=>by
  simp only [RepP] at r ⊢
  obtain⟨u,hv,hr⟩:=r
  exact⟨u,hv,RepP.mono h p u hr⟩
theorem RepL.mono {H H':Hp} (h:Hle H H'):∀ (cs:List PV) (vs vs':List Value),vs <+: vs'→RepL H cs vs→RepL H' cs vs'
 | [],_,_,_,_=>by simp only [RepL]
 | c::cs,vs,vs',hp,r=>by
  cases vs with
  | nil=>simp only [RepL] at r
  | cons v vs =>
   obtain⟨t,rfl⟩:=hp
   simp only [RepL,List.cons_append] at r ⊢
   exact⟨RepP.mono h c v r.1,RepL.mono h cs vs _ (List.prefix_append _ _) r.2⟩
theorem RepE.mono {H H':Hp} (h:Hle H H'):∀ (es:List (List PV)) (vs vs':List Value),vs <+: vs'→RepE H es vs→RepE H' es vs'
 | [],_,_,_,_=>by simp only [RepE]
 | e::es,vs,vs',hp,r=>by
  simp only [RepE] at r ⊢
  exact⟨RepL.mono h e vs vs' hp r.1,RepE.mono h es _ _ (prefix_drop hp _) r.2⟩
end
theorem RepL.len {H:Hp} : ∀ {cs:List PV} {vs:List Value},RepL H cs vs→cs.length≤vs.length
 | [],_,_=>Nat.zero_le _
 | c::cs,[],r=>by simp only [RepL] at r
 | c::cs,v::vs,r=>by
  simp only [RepL] at r
  have:=RepL.len r.2
  simp;omega
theorem RepVL.len {E:Env} : ∀ {cs:List V} {vs:List Value},RepVL E cs vs→cs.length≤vs.length
 | [],_,_=>Nat.zero_le _
 | c::cs,[],r=>by simp only [RepVL] at r
 | c::cs,v::vs,r=>by
  simp only [RepVL] at r
  have:=RepVL.len r.2
  simp;omega
def EExt (E E':Env) (n:Nat):Prop :=
 E'.sz n=E.sz n∧(E'.g n=E.g n∧E'.ver n=E.ver n∨E.ver n<E'.ver n ∧ ∃ a l c,E.g n = .slice a l c)
theorem EExt.refl (E:Env) (n:Nat):EExt E E n:=⟨rfl,.inl ⟨rfl,rfl⟩⟩
theorem EExt.trans {A B C:Env} {n:Nat} (h:EExt A B n) (h':EExt B C n):EExt A C n:=by
 obtain⟨s,h⟩:=h
 obtain⟨s',h'⟩:=h'
 refine⟨s'.trans s,?_⟩
 rcases h with ⟨g,v⟩|⟨v,e⟩<;>rcases h' with ⟨g',v'⟩|⟨v',e'⟩
 ·exact .inl ⟨g'.trans g,v'.trans v⟩
 ·exact .inr ⟨by omega,by rwa [g] at e'⟩
 ·exact .inr ⟨by omega,e⟩
 ·exact .inr ⟨by omega,e⟩
theorem EExt.of_eq {E E':Env} {n:Nat} (hg:E'.g n=E.g n) (hv:E'.ver n=E.ver n) (hs:E'.sz n=E.sz n):EExt E E' n:=⟨hs,.inl ⟨hg,hv⟩⟩
mutual
theorem RepV.mono {E E':Env} (h:Hle E.H E'.H):∀ (x:V) (v:Value),(∀ n∈x.names,EExt E E' n)→RepV E x v→RepV E' x v
 | .undef,_,_,_=>by simp only [RepV]
 | .pv p,v,_,r=>by simp only [RepV] at r ⊢;exact RepP.mono h p v r
 | .loc n off,v,hn,r=>by
  simp only [RepV] at r ⊢
  obtain⟨b,hg,hv⟩:=r
  rcases (hn n (by simp [V.names])).2 with ⟨g,_⟩|⟨_,a,l,c,e⟩
  ·exact⟨b,g.trans hg,hv⟩
  ·rw [hg] at e;cases e
 | .eloc n ver i off,v,hn,r=>by
  simp only [RepV] at r ⊢
  obtain⟨hle,hp,hr⟩:=r
  obtain⟨hs,hx⟩:=hn n (by simp [V.names])
  rcases hx with ⟨g,hv⟩|⟨hv,_⟩
  ·refine⟨by omega,hp,fun e => ?_⟩
   rw [g,hs]
   exact hr (by omega)
  ·exact⟨by omega,hp,fun e=>by omega⟩
 | .arr n ver len,v,hn,r=>by
  simp only [RepV] at r ⊢
  obtain⟨hle,hp,hr⟩:=r
  obtain⟨_,hx⟩:=hn n (by simp [V.names])
  rcases hx with ⟨g,hv⟩|⟨hv,_⟩
  ·refine⟨by omega,hp,fun e => ?_⟩
   rw [g]
   exact hr (by omega)
  ·exact⟨by omega,hp,fun e=>by omega⟩
 | .map n,v,hn,r=>by
  simp only [RepV] at r ⊢
  obtain⟨b,hg,hv⟩:=r
  rcases (hn n (by simp [V.names])).2 with ⟨g,_⟩|⟨_,a,l,c,e⟩
  ·exact⟨b,g.trans hg,hv⟩
  ·rw [hg] at e;cases e
 | .vsl es,v,hn,r=>by
  simp only [RepV] at r ⊢
  obtain⟨a,cap,hv,h1,h2,h3⟩:=r
  refine⟨a,cap,hv,h1,h2,?_⟩
  rcases h3 with h3|⟨b,off,ha,hr⟩
  ·exact .inl h3
  ·exact .inr ⟨b,off,ha,RepVE.mono h es _ _ (prefix_drop (h b) off) (by simpa only [V.names] using hn) hr⟩
 | .fsl es,v,hn,r=>by
  simp only [RepV] at r ⊢
  obtain⟨a,hv,h2,h3⟩:=r
  refine⟨a,hv,h2,?_⟩
  rcases h3 with h3|⟨b,off,ha,hr⟩
  ·exact .inl h3
  ·exact .inr ⟨b,off,ha,RepE.mono h es _ _ (prefix_drop (h b) off) hr⟩
 | .fn f cs,v,hn,r=>by
  simp only [RepV] at r ⊢
  obtain⟨vs,hv,hl,hr⟩:=r
  exact⟨vs,hv,hl,RepVL.mono h cs _ _ List.prefix_rfl (by simpa only [V.names] using hn) hr⟩
 | .bfn f cs,v,hn,r=>by
  simp only [RepV] at r ⊢
  obtain⟨vs,hv,hl,hr⟩:=r
  exact⟨vs,hv,hl,RepVL.mono h cs _ _ List.prefix_rfl (by simpa only [V.names] using hn) hr⟩
 | .agg cs,v,hn,r=>by
  simp only [RepV] at r ⊢
  obtain⟨vs,hv,hl,hr⟩:=r
  exact⟨vs,hv,hl,RepVL.mono h cs _ _ List.prefix_rfl (by simpa only [V.names] using hn) hr⟩
 | .tuple cs,v,hn,r=>by
  simp only [RepV] at r ⊢
  obtain⟨vs,hv,hl,hr⟩:=r
  exact⟨vs,hv,hl,RepVL.mono h cs _ _ List.prefix_rfl (by simpa only [V.names] using hn) hr⟩
theorem RepVL.mono {E E':Env} (h:Hle E.H E'.H):∀ (cs:List V) (vs vs':List Value),vs <+: vs'→(∀ n∈namesL cs,EExt E E' n)→RepVL E cs vs→RepVL E' cs vs'
 | [],_,_,_,_,_=>by simp only [RepVL]
 | c::cs,vs,vs',hp,hn,r=>by
  cases vs with
  | nil=>simp only [RepVL] at r
  | cons v vs =>
   obtain⟨t,rfl⟩:=hp
   simp only [RepVL,List.cons_append] at r ⊢
   exact⟨RepV.mono h c v (fun n hm=>hn n (by simp [namesL,hm])) r.1,RepVL.mono h cs vs _ (List.prefix_append _ _) (fun n hm=>hn n (by simp [namesL,hm])) r.2⟩
theorem RepVE.mono {E E':Env} (h:Hle E.H E'.H):∀ (es:List (List V)) (vs vs':List Value),vs <+: vs'→(∀ n∈namesE es,EExt E E' n)→RepVE E es vs→RepVE E' es vs'
 | [],_,_,_,_,_=>by simp only [RepVE]
 | e::es,vs,vs',hp,hn,r=>by
  simp only [RepVE] at r ⊢
  exact⟨RepVL.mono h e vs vs' hp (fun n hm=>hn n (by simp [namesE,hm])) r.1,RepVE.mono h es _ _ (prefix_drop hp _) (fun n hm=>hn n (by simp [namesE,hm])) r.2⟩
end
inductive Ob where
 | box (cs:List V)
 | arr (ver sz ty:Nat) (es:List (List V))
 | cache (D:PV→Prop) (F:PV→PV)
 | imap (es:List (List Int × PV))
def Coh (D:PV→Prop) (F:PV→PV):Prop:=∀ (H:Hp) (p q:PV) (v:Value),D p→D q→RepP H p v→RepP H q v→F p=F q
def Ob.names:Ob→List Nat
 | .box cs=>namesL cs
 | .arr _ _ _ es=>namesE es
 | .cache _ _=>[]
 | .imap _=>[]
def blk:Value→Option Nat
 | .pointer (some a)=>some a.block
 | .slice (some a) _ _=>some a.block
 | .map (some b)=>some b
 | _=>none
def keyV (ks:List Int):Value:=.agg (ks.map (Value.int .i64)).toArray
def EntsOK (H:Hp):List (List Int × PV)→List MapEntry→Prop
 | [],[]=>True
 | (ks,p)::es,e::ms=>(e.key=keyV ks∧RepP H p e.val)∧EntsOK H es ms
 | _,_=>False
def ObOK (E:Env) (w:World) (n:Nat):Ob→Prop
 | .box cs => ∃ b c T,E.g n = .pointer (some ⟨b,0,none⟩)∧w.heap[b]? = some (.cells c T (0,0))∧c.size=cs.length∧RepVL E cs c.toList∧E.H b=[]
 | .arr ver sz ty es=>E.ver n=ver∧E.sz n=sz∧(∀ e∈es,e.length=sz) ∧
   ∃ xs,w.ownsRow 0 ty sz (E.g n) es.length xs∧RepVE E es xs ∧ ∀ b,(E.g n).ownBlock=some b→E.H b=[]
 | .cache D F=>Coh D F ∧ ∃ b es ck,E.g n = .map (some b)∧w.heap[b]? = some (.map es ck)∧E.H b=[] ∧
   ∀ e∈es,∃ p,D p∧RepP E.H p e.key∧RepP E.H (F p) e.val ∧ ∃ x off v,e.key = .pointer (some ⟨x,off,none⟩)∧v∈E.H x ∧ ∀ k n,v ≠ .int k n
 | .imap es => ∃ b ms ck,E.g n = .map (some b)∧w.heap[b]? = some (.map ms ck)∧E.H b=[]∧EntsOK E.H es ms.toList
def hole:Value:=.int .u8 0
def Msk (l m:List Value):Prop:=l.length≤m.length ∧ ∀ (i:Nat) (v:Value),l[i]? = some v→v≠hole→m[i]? = some v
theorem Msk.of_prefix {l m:List Value} (h:l <+: m):Msk l m:=by
 refine⟨h.length_le,fun i v hi _ => ?_⟩
 obtain⟨t,rfl⟩:=h
 rw [List.getElem?_append_left (List.getElem?_eq_some_iff.1 hi).1]
 exact hi
theorem Msk.refl (l:List Value):Msk l l:=Msk.of_prefix List.prefix_rfl
theorem Msk.drop {l m:List Value} (h:Msk l m) (k:Nat):Msk (l.drop k) (m.drop k):=by
 refine⟨by have:=h.1;simp;omega,fun i v hi hv => ?_⟩
 rw [List.getElem?_drop] at hi ⊢
 exact h.2 _ v hi hv
theorem Msk.tail {x y:Value} {l m:List Value} (h:Msk (x::l) (y::m)):Msk l m:=by simpa using h.drop 1
theorem Msk.take {l m:List Value} (h:Msk l m) (k:Nat):Msk (l.take k) (m.take k):=by
 refine⟨by have:=h.1;simp;omega,fun i v hi hv => ?_⟩
 rw [List.getElem?_take] at hi ⊢
 split at hi
 ·rename_i hk
  rw [if_pos hk]
  exact h.2 _ v hi hv
 ·cases hi
theorem not_hole {H:Hp} {p:PV} {v:Value} (h:RepP H p v):v≠hole:=by
 intro e
 subst e
 cases p<;>simp [RepP,hole] at h
theorem RepV_hole {E:Env} {x:V} (h:RepV E x hole):x = .undef:=by
 cases x with
 | undef=>rfl
 | pv p=>exact absurd rfl (not_hole (p:=p) (by simpa [RepV] using h))
 | _=>simp [RepV,hole] at h
theorem RepL.msk {H:Hp} : ∀ {cs:List PV} {l m:List Value},RepL H cs l→Msk l m→RepL H cs m
 | [],_,_,_,_=>by simp only [RepL]
 | c::cs,[],m,r,_=>by simp only [RepL] at r
 | c::cs,v::l,[],_,h=>by have:=h.1;simp at this
 | c::cs,v::l,u::m,r,h=>by
  simp only [RepL] at r ⊢
  have e:=h.2 0 v rfl (not_hole r.1)
  simp at e
  subst e
  exact⟨r.1,RepL.msk r.2 h.tail⟩
theorem RepVL.msk {E:Env} : ∀ {cs:List V} {l m:List Value},RepVL E cs l→Msk l m→RepVL E cs m
 | [],_,_,_,_=>by simp only [RepVL]
 | c::cs,[],m,r,_=>by simp only [RepVL] at r
 | c::cs,v::l,[],_,h=>by have:=h.1;simp at this
 | c::cs,v::l,u::m,r,h=>by
  simp only [RepVL] at r ⊢
  refine⟨?_,RepVL.msk r.2 h.tail⟩
  by_cases hv:v=hole
  ·subst hv
   rw [RepV_hole r.1]
   simp [RepV]
  ·have e:=h.2 0 v rfl hv
   simp at e
   subst e
   exact r.1
theorem RepVE.msk {E:Env} : ∀ {es:List (List V)} {l m:List Value},RepVE E es l→Msk l m→RepVE E es m
 | [],_,_,_,_=>by simp only [RepVE]
 | e::es,l,m,r,h=>by
  simp only [RepVE] at r ⊢
  exact⟨r.1.msk h,RepVE.msk r.2 (h.drop _)⟩
def HeapOK (E:Env) (w:World):Prop :=
 ∀ b,E.H b≠[]→∃ c T fr,w.heap[b]? = some (.cells c T fr)∧Msk (E.H b) c.toList∧(fr=(0,0) ∨ ∀ v∈E.H b,∃ k n,v = .int k n)
theorem HeapOK.lt {E:Env} {w:World} (h:HeapOK E w) {b:Nat} (hb:w.heap.size≤b):E.H b=[]:=by
 by_cases e:E.H b=[]
 ·exact e
 ·obtain⟨c,T,fr,hc,_⟩:=h b e
  have:=(Array.getElem?_eq_some_iff.1 hc).1
  omega
theorem ObOK.blk_lt {E:Env} {w:World} {n:Nat} {o:Ob} (h:ObOK E w n o) {b:Nat} (hb:blk (E.g n)=some b):b<w.heap.size:=by
 cases o with
 | box cs =>
  obtain⟨b',c,T,hg,hc,_⟩:=h
  rw [hg] at hb
  simp [blk] at hb
  subst hb
  exact (Array.getElem?_eq_some_iff.1 hc).1
 | arr ver sz ty es =>
  obtain⟨_,_,_,xs,ho,_⟩:=h
  rcases ho.2 with ⟨e,_⟩|⟨g,cap,cur,e,_,hc,_⟩
  ·rw [e] at hb;simp [blk] at hb
  ·rw [e] at hb
   simp [blk] at hb
   subst hb
   exact (Array.getElem?_eq_some_iff.1 hc).1
 | cache D F =>
  obtain⟨_,b',es,ck,hg,hc,_⟩:=h
  rw [hg] at hb
  simp [blk] at hb
  subst hb
  exact (Array.getElem?_eq_some_iff.1 hc).1
 | imap es =>
  obtain⟨b',ms,ck,hg,hc,_⟩:=h
  rw [hg] at hb
  simp [blk] at hb
  subst hb
  exact (Array.getElem?_eq_some_iff.1 hc).1
theorem ObOK.free {E:Env} {w:World} {n:Nat} {o:Ob} (h:ObOK E w n o) {b:Nat} (hb:blk (E.g n)=some b):E.H b=[]:=by
 cases o with
 | box cs =>
  obtain⟨b',c,T,hg,hc,_,_,h0⟩:=h
  rw [hg] at hb
  simp [blk] at hb
  subst hb
  exact h0
 | arr ver sz ty es =>
  obtain⟨_,_,_,xs,ho,_,hf⟩:=h
  rcases ho.2 with ⟨e,_⟩|⟨g,cap,cur,e,_,hc,_⟩
  ·rw [e] at hb;simp [blk] at hb
  ·refine hf b ?_
   rw [e] at hb ⊢
   simpa [blk,Value.ownBlock] using hb
 | cache D F =>
  obtain⟨_,b',es,ck,hg,hc,h0,_⟩:=h
  rw [hg] at hb
  simp [blk] at hb
  subst hb
  exact h0
 | imap es =>
  obtain⟨b',ms,ck,hg,hc,h0,_⟩:=h
  rw [hg] at hb
  simp [blk] at hb
  subst hb
  exact h0
theorem EntsOK.mono {H H':Hp} (h:Hle H H'):∀ {es:List (List Int × PV)} {ms:List MapEntry},EntsOK H es ms→EntsOK H' es ms
 | [],[],_=>trivial
 | (_,_)::_,_::_,r=>⟨⟨r.1.1,RepP.mono h _ _ r.1.2⟩,EntsOK.mono h r.2⟩
 | [],_::_,r=>r.elim
 | (_,_)::_,[],r=>r.elim
theorem EntsOK.length {H:Hp} : ∀ {es:List (List Int × PV)} {ms:List MapEntry},EntsOK H es ms→es.length=ms.length
 | [],[],_=>rfl
 | (_,_)::_,_::_,r=>by simp [EntsOK.length r.2]
 | [],_::_,r=>r.elim
 | (_,_)::_,[],r=>r.elim
theorem ObOK.mono {E E':Env} {w w':World} {n:Nat} {o:Ob} (h:ObOK E w n o) (hH:Hle E.H E'.H)
  (hg:E'.g n=E.g n) (hv:E'.ver n=E.ver n) (hs:E'.sz n=E.sz n) (hn:∀ m∈o.names,EExt E E' m)
  (hb:∀ b,blk (E.g n)=some b→w'.heap[b]? = w.heap[b]? ∧ E'.H b=E.H b):ObOK E' w' n o:=by
 cases o with
 | box cs =>
  obtain⟨b,c,T,hgb,hc,hl,hr,h0⟩:=h
  obtain⟨h1,h2⟩:=hb b (by rw [hgb];rfl)
  exact⟨b,c,T,hg.trans hgb,h1.trans hc,hl,RepVL.mono hH cs _ _ List.prefix_rfl hn hr,h2.trans h0⟩
 | arr ver sz ty es =>
  obtain⟨h1,h2,h3,xs,ho,hr,h0⟩:=h
  have hown:∀ b,(E.g n).ownBlock=some b→blk (E.g n)=some b:=by
   intro b hb'
   revert hb'
   cases E.g n<;>simp [Value.ownBlock,blk]
   rename_i a _ _
   cases a<;>simp
  refine⟨hv.trans h1,hs.trans h2,h3,xs,?_,RepVE.mono hH es _ _ List.prefix_rfl hn hr,?_⟩
  ·rw [hg]
   refine⟨ho.1,?_⟩
   rcases ho.2 with e|⟨g,cap,cur,e,hb0,hc,rest⟩
   ·exact .inl e
   ·refine .inr ⟨g,cap,cur,e,hb0,?_,rest⟩
    rw [(hb g (by rw [e];rfl)).1]
    exact hc
  ·intro b hb'
   rw [hg] at hb'
   rw [(hb b (hown b hb')).2]
   exact h0 b hb'
 | cache D F =>
  obtain⟨h0,b,es,ck,hgb,hc,h1,h2⟩:=h
  obtain⟨h3,h4⟩:=hb b (by rw [hgb];rfl)
  refine⟨h0,b,es,ck,hg.trans hgb,h3.trans hc,h4.trans h1,fun e he => ?_⟩
  obtain⟨p,hp,hk,hv,x,off,v,hx,hm,hn⟩:=h2 e he
  exact⟨p,hp,RepP.mono hH _ _ hk,RepP.mono hH _ _ hv,x,off,v,hx,(hH x).subset hm,hn⟩
 | imap es =>
  obtain⟨b,ms,ck,hgb,hc,h1,h2⟩:=h
  obtain⟨h3,h4⟩:=hb b (by rw [hgb];rfl)
  exact⟨b,ms,ck,hg.trans hgb,h3.trans hc,h4.trans h1,h2.mono hH⟩
structure St where
 slots:List (Nat × V)
 objs:List (Nat × Ob)
 used:List Nat
def getS:List (Nat × V)→Nat→V
 | [],_ => .undef
 | (k,x)::r,t=>if k=t then x else getS r t
def getO:List (Nat × Ob)→Nat→Option Ob
 | [],_=>none
 | (k,x)::r,t=>if k=t then some x else getO r t
def delO:List (Nat × Ob)→Nat→List (Nat × Ob)
 | [],_=>[]
 | (k,x)::r,t=>if k=t then delO r t else (k,x)::delO r t
def setO:List (Nat × Ob)→Nat→Ob→List (Nat × Ob)
 | [],t,o=>[(t,o)]
 | (k,x)::r,t,o=>if k=t then (k,o)::r else (k,x)::setO r t o
theorem getO_delO (l:List (Nat × Ob)) (k n:Nat):getO (delO l k) n=if n=k then none else getO l n:=by
 induction l with
 | nil=>simp [delO,getO]
 | cons p r ih =>
  obtain⟨j,x⟩:=p
  by_cases h:j=k
  ·subst h
   by_cases hn:n=j
   ·subst hn;simp [delO,ih]
   ·have:¬ j=n:=fun e=>hn e.symm
    simp [delO,ih,getO,hn,this]
  ·by_cases hn:n=k
   ·subst hn;simp [delO,getO,h,ih]
   ·simp [delO,getO,h,ih,hn]
theorem getO_setO (l:List (Nat × Ob)) (k n:Nat) (o:Ob):getO (setO l k o) n=if n=k then some o else getO l n:=by
 induction l with
 | nil =>
  by_cases h:n=k
  ·subst h;simp [setO,getO]
  ·have:¬ k=n:=fun e=>h e.symm
   simp [setO,getO,h,this]
 | cons p r ih =>
  obtain⟨j,x⟩:=p
  by_cases h:j=k
  ·subst h
   by_cases hn:n=j
   ·subst hn;simp [setO,getO]
   ·have:¬ j=n:=fun e=>hn e.symm
    simp [setO,getO,hn,this]
  ·by_cases hn:n=k
   ·subst hn;simp [setO,getO,h,ih]
   ·simp [setO,getO,h,ih,hn]
structure Ctx where
 E0:Env
 w0:World
 given:List (Nat × Ob)
 ms:List Nat
 nt:Nat
 defs:List (Nat × List V)
def Ctx.F (C:Ctx) (b:Nat):Prop:=∃ n o,getO C.given n=some o∧blk (C.E0.g n)=some b
def DefOK (E:Env):List (Nat × List V)→List Deferred→Prop
 | [],ds=>ds=[]
 | (f,caps)::r,ds => ∃ cv rest,ds = { target:=.fn (.func f) (cv:List Value).toArray,args:=#[] } :: rest∧cv.length=caps.length∧RepVL E caps cv∧DefOK E r rest
def namesD:List (Nat × List V)→List Nat
 | []=>[]
 | (_,caps)::r=>namesL caps++namesD r
theorem DefOK.mono {E E':Env} (h:Hle E.H E'.H):∀ (l:List (Nat × List V)) (ds:List Deferred),(∀ n∈namesD l,EExt E E' n)→DefOK E l ds→DefOK E' l ds
 | [],_,_,hd=>hd
 | (f,caps)::r,ds,hn,hd=>by
  obtain⟨cv,rest,h1,h2,h3,h4⟩:=hd
  exact⟨cv,rest,h1,h2,RepVL.mono h caps _ _ List.prefix_rfl (fun n hm=>hn n (by simp [namesD,hm])) h3,DefOK.mono h r rest (fun n hm=>hn n (by simp [namesD,hm])) h4⟩
structure Ga (C:Ctx) (E:Env) (σ:St) (a:Act) (w:World):Prop where
 slots:∀ t,RepV E (getS σ.slots t) (a.tmps.getD t undef)
 size:a.tmps.size=C.nt
 defers:DefOK E C.defs a.defers ∧ ∀ n∈namesD C.defs,n∈σ.used
 heap:HeapOK E w
 objs:∀ n o,getO σ.objs n=some o→ObOK E w n o
 apart:∀ n m o o',getO σ.objs n=some o→getO σ.objs m=some o'→n≠m→∀ b,blk (E.g n)=some b→blk (E.g m)≠some b
 usedS:∀ t,∀ n∈(getS σ.slots t).names,n∈σ.used
 usedO:∀ n o,getO σ.objs n=some o→n∈σ.used ∧ ∀ m∈o.names,m∈σ.used
 usedG:∀ n o,getO C.given n=some o→n∈σ.used
 grown:C.w0.heap.size≤w.heap.size
 rest:w.os=C.w0.os∧w.tape=C.w0.tape∧w.output=C.w0.output
 same:∀ b,b<C.w0.heap.size→¬ C.F b→w.heap[b]? = C.w0.heap[b]? ∧ E.H b=C.E0.H b
 hle:Hle C.E0.H E.H
 own:∀ n o b,getO σ.objs n=some o→blk (E.g n)=some b→b<C.w0.heap.size→C.F b
 ext:∀ n o,getO C.given n=some o→EExt C.E0 E n
 keep:∀ n∈C.ms,n∈σ.used∧getO σ.objs n=none∧E.g n=C.E0.g n∧E.ver n=C.E0.ver n∧E.sz n=C.E0.sz n
def putS (dst:Option Nat) (x:V) (l:List (Nat × V)):List (Nat × V) :=
 match dst with
 | some d=>(d,x)::l
 | none=>l
theorem Ga.change {C:Ctx} {E E':Env} {σ:St} {a:Act} {w w':World} (h:Ga C E σ a w) (k:Nat) (oNew:Option Ob) (objs':List (Nat × Ob)) (used':List Nat) (dst:Option Nat) (x:V) (v:Value)
  (ho:∀ n,getO objs' n=if n=k then oNew else getO σ.objs n)
  (hH:Hle E.H E'.H)
  (hE:∀ n,n≠k→E'.g n=E.g n∧E'.ver n=E.ver n∧E'.sz n=E.sz n)
  (hk:k∈σ.used→EExt E E' k) (hown:k∈σ.used→∃ o,getO σ.objs k=some o)
  (hsize:w.heap.size≤w'.heap.size)
  (hrest:w'.os=w.os∧w'.tape=w.tape∧w'.output=w.output)
  (hw:∀ b,b<w.heap.size→(∀ o,getO σ.objs k=some o→blk (E.g k)≠some b)→w'.heap[b]? = w.heap[b]? ∧ E'.H b=E.H b)
  (hheap:HeapOK E' w')
  (hnew:∀ o,oNew=some o→ObOK E' w' k o∧k∈used' ∧ ∀ m∈o.names,m∈used')
  (hblk:∀ o b,oNew=some o→blk (E'.g k)=some b→w.heap.size≤b∨(blk (E.g k)=some b ∧ ∃ o',getO σ.objs k=some o'))
  (hused:∀ n∈σ.used,n∈used')
  (hx:RepV E' x v) (hxn:∀ n∈x.names,n∈used') (hd:∀ d,dst=some d→d<C.nt) :
  Ga C E' ⟨putS dst x σ.slots,objs',used'⟩ (a.put dst v) w':=by
 have hee:∀ n∈σ.used,EExt E E' n:=by
  intro n hn
  by_cases e:n=k
  ·subst e;exact hk hn
  ·exact EExt.of_eq (hE n e).1 (hE n e).2.1 (hE n e).2.2
 have hbk:∀ n o,getO σ.objs n=some o→n≠k→∀ b,blk (E.g n)=some b→w'.heap[b]? = w.heap[b]? ∧ E'.H b=E.H b:=by
  intro n o hn hne b hb
  refine hw b ((h.objs n o hn).blk_lt hb) ?_
  intro o' hk' e
  exact h.apart n k o o' hn hk' hne b hb e
 have hold:∀ t,RepV E' (getS σ.slots t) (a.tmps.getD t undef):=fun t =>
  RepV.mono hH _ _ (fun n hn=>hee n (h.usedS t n hn)) (h.slots t)
 constructor
 ·intro t
  cases dst with
  | none=>exact hold t
  | some d =>
   simp only [putS,getS,Act.put]
   by_cases e:d=t
   ·subst e
    have hlt:d<a.tmps.size:=by rw [h.size];exact hd d rfl
    simp [hlt,hx]
   ·simp only [e,if_false]
    have:=hold t
    simpa [Array.getD_eq_getD_getElem?,Array.getElem?_setIfInBounds_ne e] using this
 ·cases dst<;>simp [Act.put,h.size]
 ·refine⟨?_,fun n hn=>hused n (h.defers.2 n hn)⟩
  have:=DefOK.mono hH _ _ (fun n hn=>hee n (h.defers.2 n hn)) h.defers.1
  cases dst<;>simpa [Act.put] using this
 ·exact hheap
 ·intro n o hn
  simp only [ho n] at hn
  split at hn
  ·rename_i e;subst e;exact (hnew o hn).1
  ·rename_i e
   exact (h.objs n o hn).mono hH (hE n e).1 (hE n e).2.1 (hE n e).2.2 (fun m hm=>hee m ((h.usedO n o hn).2 m hm)) (hbk n o hn e)
 ·have key:∀ n o,oNew=some o→n≠k→∀ o',getO σ.objs n=some o'→∀ b,blk (E'.g k)=some b→blk (E'.g n)≠some b:=by
   intro n o hn hne o' hn' b hb hb'
   rw [(hE n hne).1] at hb'
   rcases hblk o b hn hb with hlt|⟨hb0,o'',hk'⟩
   ·have:=(h.objs n o' hn').blk_lt hb';omega
   ·exact h.apart n k o' o'' hn' hk' hne b hb' hb0
  intro n m o o' hn hm hne b hb hb'
  simp only [ho n] at hn
  simp only [ho m] at hm
  split at hn
  ·rename_i e;subst e
   have hmk:m≠n:=fun e=>hne e.symm
   simp only [hmk,if_false] at hm
   exact key m o hn hmk o' hm b hb hb'
  ·rename_i e
   split at hm
   ·rename_i e';subst e'
    exact key n o' hm e o hn b hb' hb
   ·rename_i e'
    rw [(hE n e).1] at hb
    rw [(hE m e').1] at hb'
    exact h.apart n m o o' hn hm hne b hb hb'
 ·intro t n hn
  cases dst with
  | none=>exact hused n (h.usedS t n hn)
  | some d =>
   simp only [putS,getS] at hn
   split at hn
   ·exact hxn n hn
   ·exact hused n (h.usedS t n hn)
 ·intro n o hn
  simp only [ho n] at hn
  split at hn
  ·rename_i e;subst e;exact (hnew o hn).2
  ·exact⟨hused n (h.usedO n o hn).1,fun m hm=>hused m ((h.usedO n o hn).2 m hm)⟩
 ·exact fun n o hn=>hused n (h.usedG n o hn)
 ·exact Nat.le_trans h.grown hsize
 ·exact⟨hrest.1.trans h.rest.1,hrest.2.1.trans h.rest.2.1,hrest.2.2.trans h.rest.2.2⟩
 ·intro b hb hF
  obtain⟨h1,h2⟩:=h.same b hb hF
  obtain⟨h3,h4⟩:=hw b (Nat.lt_of_lt_of_le hb h.grown) (fun o hk' e=>hF (h.own k o b hk' e hb))
  exact⟨h3.trans h1,h4.trans h2⟩
 ·exact h.hle.trans hH
 ·intro n o b hn hb hlt
  simp only [ho n] at hn
  split at hn
  ·rename_i e;subst e
   rcases hblk o b hn hb with hge|⟨hb0,o',hk'⟩
   ·have:=h.grown;omega
   ·exact h.own n o' b hk' hb0 hlt
  ·rename_i e
   rw [(hE n e).1] at hb
   exact h.own n o b hn hb hlt
 ·intro n o hn
  exact (h.ext n o hn).trans (hee n (h.usedG n o hn))
 ·intro n hn
  obtain⟨h1,h2,h3,h4,h5⟩:=h.keep n hn
  have hne:n≠k:=by
   intro e
   subst e
   obtain⟨o,ho'⟩:=hown h1
   rw [h2] at ho';cases ho'
  refine⟨hused n h1,?_,(hE n hne).1.trans h3,(hE n hne).2.1.trans h4,(hE n hne).2.2.trans h5⟩
  simp only [ho n,hne,if_false]
  exact h2
theorem exists_fresh (l:List Nat):∃ k,k ∉ l:=by
 have key:∃ m,∀ n∈l,n<m:=by
  induction l with
  | nil=>exact⟨0,by simp⟩
  | cons x l ih =>
   obtain⟨m,hm⟩:=ih
   refine⟨max (x+1) m,fun n hn => ?_⟩
   rcases List.mem_cons.1 hn with rfl|hn
   ·omega
   ·have:=hm n hn;omega
 obtain⟨m,hm⟩:=key
 exact⟨m,fun h=>absurd (hm m h) (Nat.lt_irrefl _)⟩
theorem Ga.pure {C:Ctx} {E:Env} {σ:St} {a:Act} {w w':World} (h:Ga C E σ a w) (H':Hp) (dst:Option Nat) (x:V) (v:Value)
  (hH:Hle E.H H') (hsize:w.heap.size≤w'.heap.size)
  (hrest:w'.os=w.os∧w'.tape=w.tape∧w'.output=w.output)
  (hw:∀ b,b<w.heap.size→w'.heap[b]? = w.heap[b]? ∧ H' b=E.H b)
  (hheap:HeapOK { E with H:=H' } w')
  (hx:RepV { E with H:=H' } x v) (hxn:∀ n∈x.names,n∈σ.used) (hd:∀ d,dst=some d→d<C.nt) :
  Ga C { E with H:=H' } ⟨putS dst x σ.slots,σ.objs,σ.used⟩ (a.put dst v) w':=by
 -- a name that is no object
 have hee:∀ n,EExt E { E with H:=H' } n:=fun n=>EExt.of_eq rfl rfl rfl
 by_cases hk:∃ k o,getO σ.objs k=some o
 ·obtain⟨k,o,hk⟩:=hk
  refine h.change (E':={ E with H:=H' }) k (some o) σ.objs σ.used dst x v ?_ hH (fun _ _=>⟨rfl,rfl,rfl⟩) (fun _=>hee k) (fun _=>⟨o,hk⟩) hsize hrest (fun b hb _=>hw b hb) hheap ?_ ?_ (fun _ h=>h) hx hxn hd
  ·intro n
   by_cases e:n=k
   ·subst e;simp [hk]
   ·simp [e]
  ·intro o' e
   cases e
   exact⟨(h.objs k o hk).mono hH rfl rfl rfl (fun m _=>hee m) (fun b hb=>hw b ((h.objs k o hk).blk_lt hb)),(h.usedO k o hk)⟩
  ·intro o' b e hb
   exact .inr ⟨hb,o,hk⟩
 ·have hnone:∀ k,getO σ.objs k=none:=by
   intro k
   cases e:getO σ.objs k with
   | none=>rfl
   | some o=>exact absurd ⟨k,o,e⟩ hk
  obtain⟨k,hk'⟩:=exists_fresh σ.used
  refine h.change (E':={ E with H:=H' }) k none σ.objs σ.used dst x v ?_ hH (fun _ _=>⟨rfl,rfl,rfl⟩) (fun _=>hee k) (fun e=>absurd e hk') hsize hrest (fun b hb _=>hw b hb) hheap ?_ ?_ (fun _ h=>h) hx hxn hd
  ·intro n;simp [hnone]
  ·intro o e;cases e
  ·intro o b e;cases e
end Go.Lg
