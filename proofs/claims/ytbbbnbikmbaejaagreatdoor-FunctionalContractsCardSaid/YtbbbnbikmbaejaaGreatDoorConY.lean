/- From a contract to the row; no conditions. -/
import Derived.Test.YtbbbnbikmbaejaaGreatDoorConC2
import Derived.Test.YtbbbnbikmbaejaaGreatDoorTie
import Derived.Test.YtbbbnbikmbaejaaGreatDoorCards
import Derived.ProofKit
import Derived.LaidMore
import Derived.OpenShut
import Derived.Stop.Joined
import Derived.SevenTiedAt
import Derived.Carry
set_option linter.all false
namespace Go.Proofs.YtbbbnbikmbaejaaGreatDoor
open Go Go.Lg Go.ChangeShapes Go.WideShapes Go.ChangeAt Go.WideMaps Go.WideElems Go.RowKit
theorem own:ownKnob Tryz.prog.godebug=none:=by kernel_rfl
theorem c3:Tryz.prog.cellsOf 3=1:=by kernel_rfl
theorem zVi:laidOutB Tryz.prog=true:=by kernel_rfl
abbrev qDh:List (String × DataW Unit):=Rows.functionalContractsRow.laid
def qU8:Lit→Value
 | .int k n => .int k n
 | .bool b => .bool b
 | _ => .nilIface
section
variable {H:Type} {enc:TypeId × Value→H} {P:Program} {w:World} {base:Nat} {sp:Nat→Bool} {held:Bool} {fuel:Nat} {t:TypeId} {cs:List Value}
theorem qDi:∀ (E:List (List Value)) (cs:List Value) (c:Nat),cs.length=E.length * c→(∀ i e,E[i]? = some e→(cs.drop (i * c)).take c=e)→cs=E.flatten
 | [],cs,c,hl,_=>by simp at hl;subst hl;rfl
 | e::E,cs,c,hl,h=>by
  have h0:=h 0 e rfl
  simp at h0
  have hr:=qDi E (cs.drop c) c (by rw [List.length_drop,hl,List.length_cons,Nat.add_mul,Nat.one_mul];omega) (fun i x hi=>by
   have:=h (i+1) x hi
   rw [List.drop_drop]
   rw [show c+i * c=(i+1) * c by rw [Nat.add_mul,Nat.one_mul,Nat.add_comm]]
   exact this)
  rw [List.flatten_cons,← hr,← h0,List.take_append_drop]
theorem qO7 {ty:TypeDesc} (ht:P.underlying t=some ty) (hty:ty = .bool ∨ ∃ k,ty = .int k) {l:Lit} {p:List MemPlace} (h:DataW.trod enc P w base sp held fuel t cs=some (.lit l,p)):cs=[qU8 l]:=by
 rcases hty with rfl|⟨k,rfl⟩
 ·obtain⟨b,rfl,hx⟩:=DataW.trod_bool ht h
  cases hx
  rfl
 ·obtain⟨n,rfl,hx,_⟩:=DataW.trod_int ht h
  cases hx
  rfl
theorem qO8 {xs:List (DataW H × List MemPlace)} {ls:List Lit} (h:ls.map DataW.lit=xs.map (·.1)) {i:Nat} {l:Lit} (hl:ls[i]? = some l):∃ p,xs[i]? = some (.lit l,p):=by
 have h1:(ls.map (DataW.lit (H:=H)))[i]? = (xs.map (·.1))[i]?:=by rw [h]
 rw [List.getElem?_map,List.getElem?_map,hl] at h1
 cases e:xs[i]? with
 | none=>rw [e] at h1;cases h1
 | some x =>
  rw [e] at h1
  obtain⟨d,p⟩:=x
  simp at h1
  exact⟨p,by rw [h1]⟩
theorem qIf (ls:List Lit):(ls.map fun l=>[qU8 l]).flatten=ls.map qU8:=by
 induction ls with
 | nil=>rfl
 | cons l r ih=>simp [ih]
theorem qIg {n:Nat} {e:TypeId} {ty:TypeDesc} (ht:P.underlying t=some (.array n e)) (he:P.underlying e=some ty) (hty:ty = .bool ∨ ∃ k,ty = .int k) (hc:P.cellsOf e=1) (hn:P.cellsOf t=n) {ls:List Lit} {p:List MemPlace}
  (h:DataW.trod enc P w base sp held fuel t cs=some (.agg (ls.map .lit),p)):cs=ls.map qU8:=by
 obtain⟨xs,m,_,hx,hl,hlen,hel⟩:=DataW.trod_array ht h
 simp only [Prod.mk.injEq,DataW.agg.injEq] at hx
 have hll:ls.length=n:=by have:=congrArg List.length hx.1;simp at this;omega
 have hfe:=qDi (ls.map fun l=>[qU8 l]) cs 1 (by rw [hl,hn,List.length_map,hll,Nat.mul_one]) (fun i e' hi=>by
  rw [List.getElem?_map] at hi
  cases hq:ls[i]? with
  | none=>rw [hq] at hi;cases hi
  | some l =>
   rw [hq] at hi
   cases hi
   obtain⟨q,hq'⟩:=qO8 hx.1 hq
   have hi':i<n:=by rw [← hll];exact (List.getElem?_eq_some_iff.1 hq).1
   have:=hel i hi'
   rw [hq',hc] at this
   exact qO7 he hty this)
 rw [hfe,qIf]
def qO9 (P:Program):List Field→Nat→Bool
 | [],_=>true
 | f::r,i=>(f.offset == i) && (P.cellsOf f.type == 1) && (match P.underlying f.type with
  | some .bool=>true
  | some (.int _)=>true
  | _=>false) && qO9 P r (i+1)
theorem qIh:∀ {fs:List Field} {k:Nat},qO9 P fs k=true→∀ (i:Nat) (f:Field),fs[i]? = some f→f.offset=k+i∧P.cellsOf f.type=1 ∧ ∃ ty,P.underlying f.type=some ty∧(ty = .bool ∨ ∃ k,ty = .int k)
 | [],k,_,i,f,h=>by cases h
 | g::r,k,hk,i,f,h=>by
  simp only [qO9,Bool.and_eq_true,beq_iff_eq] at hk
  obtain⟨⟨⟨h1,h2⟩,h3⟩,h4⟩:=hk
  cases i with
  | zero =>
   cases h
   refine⟨by omega,h2,?_⟩
   split at h3
   ·rename_i e;exact⟨_,e,.inl rfl⟩
   ·rename_i kk e;exact⟨_,e,.inr ⟨kk,rfl⟩⟩
   ·cases h3
  | succ i =>
   obtain⟨a,b⟩:=qIh h4 i f h
   exact⟨by omega,b⟩
theorem qTg {fs:Array Field} (ht:P.underlying t=some (.struct fs)) (hf:qO9 P fs.toList 0=true) (hn:P.cellsOf t=fs.size) {ls:List Lit} {p:List MemPlace}
  (h:DataW.trod enc P w base sp held fuel t cs=some (.agg (ls.map .lit),p)):cs=ls.map qU8:=by
 obtain⟨xs,m,_,hx,hl,hlen,hel⟩:=DataW.trod_struct ht h
 simp only [Prod.mk.injEq,DataW.agg.injEq] at hx
 have hll:ls.length=fs.size:=by have:=congrArg List.length hx.1;simp at this;omega
 have hfe:=qDi (ls.map fun l=>[qU8 l]) cs 1 (by rw [hl,hn,List.length_map,hll,Nat.mul_one]) (fun i e' hi=>by
  rw [List.getElem?_map] at hi
  cases hq:ls[i]? with
  | none=>rw [hq] at hi;cases hi
  | some l =>
   rw [hq] at hi
   cases hi
   obtain⟨q,hq'⟩:=qO8 hx.1 hq
   have hi':i<fs.size:=by rw [← hll];exact (List.getElem?_eq_some_iff.1 hq).1
   have hfi:fs[i]? = some fs[i]:=Array.getElem?_eq_getElem hi'
   obtain⟨a,b,ty,c,d⟩:=qIh hf i fs[i] (by rw [Array.getElem?_toList];exact hfi)
   have:=hel i fs[i] hfi
   rw [hq',b,a,Nat.zero_add] at this
   rw [Nat.mul_one]
   exact qO7 c d this)
 rw [hfe,qIf]
theorem qTh {n:Nat} {e:TypeId} {fs:Array Field} (ht:P.underlying t=some (.array n e)) (he:P.underlying e=some (.struct fs)) (hf:qO9 P fs.toList 0=true) (hn:P.cellsOf e=fs.size) (hnt:P.cellsOf t=n * fs.size) {rs:List (List Lit)} {p:List MemPlace}
  (h:DataW.trod enc P w base sp held fuel t cs=some (.agg (rs.map fun ls => .agg (ls.map .lit)),p)):cs=(rs.map fun ls=>ls.map qU8).flatten:=by
 obtain⟨xs,m,_,hx,hl,hlen,hel⟩:=DataW.trod_array ht h
 simp only [Prod.mk.injEq,DataW.agg.injEq] at hx
 have hll:rs.length=n:=by have:=congrArg List.length hx.1;simp at this;omega
 refine qDi _ cs fs.size (by rw [hl,hnt,List.length_map,hll]) (fun i e' hi => ?_)
 rw [List.getElem?_map] at hi
 cases hq:rs[i]? with
 | none=>rw [hq] at hi;cases hi
 | some ls =>
  rw [hq] at hi
  cases hi
  have h1:(rs.map fun ls=>DataW.agg (H:=H) (ls.map .lit))[i]? = (xs.map (·.1))[i]?:=by rw [hx.1]
  rw [List.getElem?_map,List.getElem?_map,hq] at h1
  cases e:xs[i]? with
  | none=>rw [e] at h1;cases h1
  | some x =>
   rw [e] at h1
   obtain⟨d,q⟩:=x
   simp at h1
   have hi':i<n:=by rw [← hll];exact (List.getElem?_eq_some_iff.1 hq).1
   have:=hel i hi'
   rw [e,hn,← h1] at this
   exact qTg he hf hn this
end
def qLp:PV→Value
 | .int n => .int .i64 n
 | .bool b => .bool b
 | .num k n => .int k n
 | _=>qK8
def okP:PV→Bool
 | .int _=>true
 | .bool _=>true
 | .num .u8 _=>true
 | _=>false
theorem qX9 (H:Hp):∀ (ps:List PV),ps.all okP=true→RepL H ps (ps.map qLp)
 | [],_=>by simp only [List.map_nil,RepL]
 | p::ps,h=>by
  simp only [List.all_cons,Bool.and_eq_true] at h
  simp only [List.map_cons,RepL]
  refine⟨?_,qX9 H ps h.2⟩
  have h1:=h.1
  unfold okP at h1
  split at h1<;>simp_all [RepP,qLp]
noncomputable def zCi:Array Field:=match Tryz.prog.underlying 307 with
 | some (.struct fs)=>fs
 | _ => #[]
def zCj:PV→Lit
 | .int n => .int .i64 n
 | .bool b => .bool b
 | .num k n => .int k n
 | _ => .bool false
def qU9:Nat→List PV→List (List PV)
 | 0,_=>[]
 | n+1,l=>l.take 8::qU9 n (l.drop 8)
theorem qPa {P:Program} {w:World} {n:String} {g:Nat} {cs:Array Value} (hg:P.globalNamed n=some g) (h:w.var? P n=some cs):∃ T fr,w.heap[g]? = some (.cells cs T fr):=by
 simp only [World.var?,hg,Option.bind_some] at h
 split at h<;>simp_all
theorem qG3 {ps p q:List MemPlace} {g n:Nat} (h:ps=MemPlace.row ⟨g,0,none⟩ n++p++q) (hn:0<n):MemPlace.cell g 0∈ps:=by
 subst h
 exact List.mem_append_left _ (List.mem_append_left _ (List.mem_map.2 ⟨0,List.mem_range.2 hn,rfl⟩))
theorem qDj {W:World} {n:String} {g:Nat} {cs:Array Value} {ls:List Value} (hg:Tryz.prog.globalNamed n=some g) (hv:W.var? Tryz.prog n=some cs) (hl:cs.toList=ls) (hz:∃ c t,W.heap[g]? = some (.cells c t (0,0))):∃ c T,W.heap[g]? = some (.cells c T (0,0))∧c.toList=ls:=by
 obtain⟨T,fr,h⟩:=qPa hg hv
 obtain⟨c,t,h'⟩:=hz
 rw [h] at h'
 cases h'
 exact⟨cs,T,h,hl⟩
theorem gDe : Tryz.prog.globalNamed "math/bits.deBruijn32tab" = some 0 := by kernel_rfl
theorem gRl : Tryz.prog.globalNamed "proofprograms/tree.rules" = some 2 := by kernel_rfl
theorem gAr : Tryz.prog.globalNamed "proofprograms/tree.arities" = some 1 := by kernel_rfl
theorem tDe:(Tryz.prog.globals[0]?).map (·.type)=some 294:=by kernel_rfl
theorem tAr:(Tryz.prog.globals[1]?).map (·.type)=some 324:=by kernel_rfl
theorem tRl:(Tryz.prog.globals[2]?).map (·.type)=some 325:=by kernel_rfl
theorem zVj {W:World} (h:laidMetH Tryz.prog qDh W):(∃ c T,W.heap[0]? = some (.cells c T (0,0))∧c.toList=deB.map qLp)∧(∃ c T,W.heap[1]? = some (.cells c T (0,0))∧c.toList=arB.map qLp) ∧ ∃ c T,W.heap[2]? = some (.cells c T (0,0))∧c.toList=rlB.map qLp:=by
 rw [MakeChecks.laidMetH_plain _ _ _ (by kernel_rfl)] at h
 obtain⟨ps,⟨g0,t0,cs0,f0,p0,q0,hg0,ht0,hv0,hd0,⟨g2,t2,cs2,f2,p2,q2,hg2,ht2,hv2,hd2,⟨g1,t1,cs1,f1,p1,q1,hg1,ht1,hv1,hd1,hq1,e1⟩,e2⟩,e0⟩,_,hfr⟩:=h
 obtain rfl:=Option.some.inj (gDe.symm.trans hg0)
 obtain rfl:=Option.some.inj (gRl.symm.trans hg2)
 obtain rfl:=Option.some.inj (gAr.symm.trans hg1)
 obtain rfl:=Option.some.inj (tDe.symm.trans ht0)
 obtain rfl:=Option.some.inj (tRl.symm.trans ht2)
 obtain rfl:=Option.some.inj (tAr.symm.trans ht1)
 have k0:cs0.toList=deB.map qLp:=(qIg (n:=32) (e:=5) (ty:=.int .u8) (by kernel_rfl) (by kernel_rfl) (.inr ⟨_,rfl⟩) (by kernel_rfl) (by kernel_rfl) (ls:=deB.map zCj) hd0).trans (by kernel_rfl)
 have k1:cs1.toList=arB.map qLp:=(qIg (n:=14) (e:=3) (ty:=.int .i64) (by kernel_rfl) (by kernel_rfl) (.inr ⟨_,rfl⟩) (by kernel_rfl) (by kernel_rfl) (ls:=arB.map zCj) hd1).trans (by kernel_rfl)
 have k2:cs2.toList=rlB.map qLp:=(qTh (n:=21) (e:=307) (fs:=zCi) (by kernel_rfl) (by kernel_rfl) (by kernel_rfl) (by kernel_rfl) (by kernel_rfl) (rs:=(qU9 21 rlB).map (·.map zCj)) hd2).trans (by kernel_rfl)
 have m0:MemPlace.cell 0 0∈ps:=qG3 e0 (by rw [← Array.length_toList,k0];exact Nat.le_of_ble_eq_true (by kernel_rfl))
 have m2:MemPlace.cell 2 0∈q0:=qG3 e2 (by rw [← Array.length_toList,k2];exact Nat.le_of_ble_eq_true (by kernel_rfl))
 have m1:MemPlace.cell 1 0∈q2:=qG3 e1 (by rw [← Array.length_toList,k1];exact Nat.le_of_ble_eq_true (by kernel_rfl))
 have m2':MemPlace.cell 2 0∈ps:=by rw [e0];exact List.mem_append_right _ m2
 have m1':MemPlace.cell 1 0∈ps:=by rw [e0,e2];exact List.mem_append_right _ (List.mem_append_right _ m1)
 exact⟨qDj gDe hv0 k0 (hfr _ _ m0).1,qDj gAr hv1 k1 (hfr _ _ m1').1,qDj gRl hv2 k2 (hfr _ _ m2').1⟩
def msk (v:Value):Value:=match v with
 | .int .i64 n => .int .i64 n
 | _=>qK8
theorem zX0 {v:Value} (h:msk v≠qK8):msk v=v:=by
 unfold msk at *
 split<;>simp_all
theorem zVk (v:Value):∃ k n,msk v = .int k n∧k ≠ .i16:=by
 unfold msk
 split
 ·exact⟨_,_,rfl,by decide⟩
 ·exact⟨.i8,0,rfl,by decide⟩
theorem zQa (v:Value) (b:Bool):msk v≠Go.Lg.mark b:=by
 unfold msk Go.Lg.mark qK8
 split<;>simp
def zVl:Nat→List Value
 | 0=>deB.map qLp
 | 1=>arB.map qLp
 | 2=>rlB.map qLp
 | _=>[]
def H0 (W:World) (B:Nat):Hp:=fun b=>if b<3 then zVl b else if b=B then (match W.heap[b]? with|some (.cells c _ _)=>c.toList.map msk|_=>[]) else []
def E0 (W:World) (B:Nat):Go.Lg.Env:=⟨H0 W B,fun _ => .pointer none,fun _=>0,fun _=>0⟩
theorem qPb {W:World} (h:laidMetH Tryz.prog qDh W) {b:Nat} (hb:b<3):∃ c T,W.heap[b]? = some (.cells c T (0,0))∧c.toList=zVl b:=by
 obtain⟨h0,h1,h2⟩:=zVj h
 match b,hb with
 | 0,_=>exact h0
 | 1,_=>exact h1
 | 2,_=>exact h2
theorem zVm {W:World} (h:laidMetH Tryz.prog qDh W) {B i:Nat} {c:Array Value} {T:TypeId} {fr:Nat × Nat} {n:Int} (hc:W.heap[B]? = some (.cells c T fr)) (hi:c.toList[i]? = some (.int .i64 n)):(H0 W B B)[i]? = some (.int .i64 n):=by
 unfold H0
 split
 ·rename_i hb
  obtain⟨c',T',hc',hl⟩:=qPb h hb
  rw [hc] at hc'
  cases hc'
  rw [← hl]
  exact hi
 ·rw [if_pos rfl,hc]
  simp only [List.getElem?_map,hi,Option.map_some]
  rfl
theorem qFc (H:Hp):∀ (ns:List Int) (vs:List Value),(∀ (i:Nat) (n:Int),ns[i]? = some n→vs[i]? = some (.int .i64 n))→RepE H (ns.map fun z=>[PV.int z]) vs
 | [],_,_=>by simp only [List.map_nil,RepE]
 | n::ns,[],h=>by have:=h 0 n rfl;simp at this
 | n::ns,v::vs,h=>by
  have h0:=h 0 n rfl
  simp at h0
  subst h0
  simp only [List.map_cons,RepE,RepL,List.length_cons,List.length_nil,List.drop_succ_cons,List.drop_zero]
  exact⟨⟨by simp [RepP],trivial⟩,qFc H ns vs (fun i m hm=>by simpa using h (i+1) m (by simpa using hm))⟩
theorem qPc:∀ g,g<3→∀ v∈zVl g,v≠qK8 ∧ ∀ b,v≠Go.Lg.mark b:=by
 have key:∀ ps:List PV,ps.all okP=true→∀ v∈ps.map qLp,v≠qK8 ∧ ∀ b,v≠Go.Lg.mark b:=by
  intro ps h v hv
  obtain⟨p,hp,rfl⟩:=List.mem_map.1 hv
  have:=List.all_eq_true.1 h p hp
  unfold okP at this
  split at this<;>simp_all [qLp,qK8,Go.Lg.mark]
 intro g hg
 match g,hg with
 | 0,_=>exact key deB (by kernel_rfl)
 | 1,_=>exact key arB (by kernel_rfl)
 | 2,_=>exact key rlB (by kernel_rfl)
theorem zVn {W:World} (B:Nat) (h:laidMetH Tryz.prog qDh W):qMe gl (E0 W B) W []:=by
 refine⟨?_,?_,?_,?_⟩
 ·intro b hb
  simp only [E0,H0] at hb ⊢
  by_cases hb3:b<3
  ·rw [if_pos hb3]
   obtain⟨c,T,hc,hl⟩:=qPb h hb3
   refine⟨c,T,(0,0),hc,⟨by rw [hl];exact Nat.le_refl _,fun i v hi _ _=>by rw [hl];exact hi,fun i p hi => ?_⟩,.inl rfl⟩
   exact absurd rfl ((qPc b hb3 _ (List.mem_of_getElem? hi)).2 p)
  ·rw [if_neg hb3] at hb ⊢
   split at hb
   ·rename_i hbb
    rw [if_pos hbb]
    split at hb
    ·rename_i c T fr hc
     refine⟨c,T,fr,hc,⟨by simp,?_,?_⟩,.inr ?_⟩
     ·intro i v hi hv _
      rw [List.getElem?_map,Option.map_eq_some_iff] at hi
      obtain⟨u,hu,rfl⟩:=hi
      rw [hu,zX0 hv]
     ·intro i p hi
      rw [List.getElem?_map,Option.map_eq_some_iff] at hi
      obtain⟨u,hu,e⟩:=hi
      exact absurd e (zQa u p)
     ·intro v hv
      obtain⟨u,_,rfl⟩:=List.mem_map.1 hv
      exact zVk u
    ·exact absurd rfl hb
   ·exact absurd rfl hb
 ·intro g cs hg
  match g,hg with
  | 0,hg=>cases hg;exact qX9 _ deB (by kernel_rfl)
  | 1,hg=>cases hg;exact qX9 _ arB (by kernel_rfl)
  | 2,hg=>cases hg;exact qX9 _ rlB (by kernel_rfl)
  | g+3,hg=>cases hg
 ·intro n o ho
  cases ho
 ·intro n m o o' ho
  cases ho
theorem zCk (W:World) (B b:Nat):nf (H0 W B b):=by
 intro v hv p
 unfold H0 at hv
 split at hv
 ·rename_i h;exact (qPc b h v hv).2 p
 ·split at hv
  ·split at hv
   ·obtain⟨u,_,rfl⟩:=List.mem_map.1 hv
    exact zQa u p
   ·cases hv
  ·cases hv
theorem qTi {W W':World} {B:Nat} {E':Go.Lg.Env} (h:qPf (E0 W B) W [] E' W' []):Below W.heap.size W W' :=
 ⟨h.rest.1,h.rest.2.1,h.rest.2.2,h.size,fun k hk=>(h.same k hk (fun n o ho=>by cases ho)).1 (zCk W B k)⟩
abbrev zcs (L:List Int):List (List PV):=L.map fun z=>[PV.int z]
theorem qPd {f:Nat} {x y:Int} (hac:∀ L:List Int,(∀ z∈L,-9223372036854775808≤z∧z≤9223372036854775807)→AC Tryz.prog gl f [.pv (.slice (zcs L)),.pv (.num .u8 x),.pv (.num .u8 y)] [] (.ret (.pv (.bool true))) []) {W:World} (h:laidMetH Tryz.prog qDh W) {ad:Option Addr} {len cap:Nat} (zs:List Int) (hz:zs.length=len) (hlc:len≤cap) (hm:len≤maxLen)
  (hr:∀ z∈zs,-9223372036854775808≤z∧z≤9223372036854775807)
  (ha:len=0 ∨ ∃ b off,ad=some ⟨b,off,none⟩ ∧ ∀ (i:Nat) (n:Int),zs[i]? = some n→W.cell? ⟨b,off+i,none⟩=some (.int .i64 n)) :
  Calls Tryz.prog f #[.slice ad len cap,.int .u8 x,.int .u8 y] W fun e W'=>e = .returned (.bool true)∧Below W.heap.size W W':=by
 have fin:∀ B,RepP (H0 W B) (.slice (zcs zs)) (.slice ad len cap)→Calls Tryz.prog f #[.slice ad len cap,.int .u8 x,.int .u8 y] W fun e W'=>e = .returned (.bool true)∧Below W.heap.size W W':=by
  intro B hrr
  refine ((hac zs hr).calls (E0 W B) W [.slice ad len cap,.int .u8 x,.int .u8 y] (zVn B h) rfl ⟨hrr,by simp [RepV,RepP],by simp [RepV,RepP],trivial⟩).mono ?_
  rintro e W' ⟨E',hd,v,rfl,hv⟩
  simp only [RepV,RepP] at hv
  subst hv
  exact⟨rfl,qTi hd⟩
 have hil:(zcs zs).length=len:=by simp [hz]
 rcases ha with h0|⟨b,off,rfl,hc⟩
 ·refine fin 0 ⟨ad,cap,by rw [hil],by omega,by omega,.inl ?_⟩
  have:zs=[]:=List.eq_nil_of_length_eq_zero (by omega)
  subst this
  rfl
 ·refine fin b ⟨_,cap,by rw [hil],by omega,by omega,.inr ⟨b,off,rfl,?_⟩⟩
  refine qFc _ _ _ (fun i n hi => ?_)
  rw [List.getElem?_drop]
  have h1:=hc i n hi
  unfold World.cell? at h1
  cases e:W.heap[b]? with
  | none=>simp [e] at h1
  | some o =>
   cases o with
   | cells c T fr =>
    simp [e] at h1
    exact zVm h e (by rw [Array.getElem?_toList];exact h1)
   | _=>simp [e] at h1
theorem qTj (os:Os) (args:Array Value):laidMetH Tryz.prog qDh ((World.doorLaid Tryz.prog 400 os).forCall (fun _ _=>0) ⟨#[],args,[]⟩).memory :=
 laidMetH_of_parts3 (fuel:=8) (laidMet_of_run' 8 (by kernel_rfl) (by kernel_rfl)) (by kernel_rfl) (by kernel_rfl)
end Go.Proofs.YtbbbnbikmbaejaaGreatDoor
