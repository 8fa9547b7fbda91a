/- From a contract to the row; no conditions. -/
import Derived.Test.YtmkajedkflhbgaaGreatDoorIC2
import Derived.Test.YtmkajedkflhbgaaGreatDoorTie
import Derived.Test.YtmkajedkflhbgaaGreatDoorCards
import Derived.ProofKit
import Derived.LaidMore
import Derived.OpenShut
import Derived.Stop.Joined
import Derived.SevenTiedAt
import Derived.Carry
set_option linter.all false
namespace Go.Proofs.YtmkajedkflhbgaaGreatDoor
open Go Go.Lg Go.ChangeShapes Go.WideShapes Go.ChangeAt Go.WideMaps Go.WideElems Go.RowKit
theorem own:ownKnob Tryz.prog.godebug=none:=by kernel_rfl
theorem c3:Tryz.prog.cellsOf 3=1:=by kernel_rfl
theorem xw:laidOutB Tryz.prog=true:=by kernel_rfl
abbrev dJ:List (String × DataW Unit):=Rows.extractInlineRow.laid
def YK:Lit->Value
 | .int k n => .int k n
 | .bool b => .bool b
 | _ => .nilIface
section
variable {H:Type} {enc:TypeId × Value->H} {P:Program} {w:World} {base:Nat} {sp:Nat->Bool} {held:Bool} {fuel:Nat} {t:TypeId} {cs:List Value}
theorem pU:∀ (E:List (List Value)) (cs:List Value) (c:Nat),cs.length=E.length * c->(∀ i e,E[i]? = some e->(cs.drop (i * c)).take c=e)->cs=E.flatten
 | [],cs,c,hl,_=>by simp at hl;subst hl;rfl
 | e::E,cs,c,hl,h=>by
  have h0:=h 0 e rfl;simp at h0;have hr:=pU E (cs.drop c) c (by rw [List.length_drop,hl,List.length_cons,Nat.add_mul,Nat.one_mul];omega) (λ i x hi=>by
   have:=h (i+1) x hi;rw [List.drop_drop];rw [show c+i * c=(i+1) * c by rw [Nat.add_mul,Nat.one_mul,Nat.add_comm]];exact this)
  rw [List.flatten_cons,<- hr,<- h0,List.take_append_drop]
theorem lh {ty:TypeDesc} (ht:P.underlying t=some ty) (hty:ty = .bool \/ ∃ k,ty = .int k) {l:Lit} {p:List MemPlace} (h:DataW.trod enc P w base sp held fuel t cs=some (.lit l,p)):cs=[YK l]:=by
 rcases hty with rfl|⟨k,rfl⟩
 ·obtain⟨b,rfl,hx⟩:=DataW.trod_bool ht h;cases hx;rfl
 ·obtain⟨n,rfl,hx,_⟩:=DataW.trod_int ht h;cases hx;rfl
theorem mh {xs:List (DataW H × List MemPlace)} {ls:List Lit} (h:ls.map DataW.lit=xs.map (·.1)) {i:Nat} {l:Lit} (hl:ls[i]? = some l):∃ p,xs[i]? = some (.lit l,p):=by
 have h1:(ls.map (DataW.lit (H:=H)))[i]? = (xs.map (·.1))[i]?:=by rw [h]
 rw [List.getElem?_map,List.getElem?_map,hl] at h1
 cases e:xs[i]? with
 | none=>rw [e] at h1;cases h1
 | some x =>
  rw [e] at h1;obtain⟨d,p⟩:=x;simp at h1;exact⟨p,by rw [h1]⟩
theorem nh (ls:List Lit):(ls.map λ l=>[YK l]).flatten=ls.map YK:=by
 induction ls with
 | nil=>rfl
 | cons l r ih=>simp [ih]
theorem ph {n:Nat} {e:TypeId} {ty:TypeDesc} (ht:P.underlying t=some (.array n e)) (he:P.underlying e=some ty) (hty:ty = .bool \/ ∃ k,ty = .int k) (hc:P.cellsOf e=1) (hn:P.cellsOf t=n) {ls:List Lit} {p:List MemPlace}
  (h:DataW.trod enc P w base sp held fuel t cs=some (.agg (ls.map .lit),p)):cs=ls.map YK:=by
 obtain⟨xs,m,_,hx,hl,hlen,hel⟩:=DataW.trod_array ht h;simp only [Prod.mk.injEq,DataW.agg.injEq] at hx;have hll:ls.length=n:=by have:=congrArg List.length hx.1;simp at this;omega
 have hfe:=pU (ls.map λ l=>[YK l]) cs 1 (by rw [hl,hn,List.length_map,hll,Nat.mul_one]) (λ i e' hi=>by
  rw [List.getElem?_map] at hi
  cases hq:ls[i]? with
  | none=>rw [hq] at hi;cases hi
  | some l =>
   rw [hq] at hi;cases hi;obtain⟨q,hq'⟩:=mh hx.1 hq;have hi':i<n:=by rw [<- hll];exact (List.getElem?_eq_some_iff.1 hq).1
   have:=hel i hi';rw [hq',hc] at this;exact lh he hty this)
 rw [hfe,nh]
def eQ (P:Program):List Field->Nat->Bool
 | [],_=>true
 | f::r,i=>(f.offset == i) && (P.cellsOf f.type == 1) && (match P.underlying f.type with
  | some .bool=>true
  | some (.int _)=>true
  | _=>false) && eQ P r (i+1)
theorem rh:∀ {fs:List Field} {k:Nat},eQ P fs k=true->∀ (i:Nat) (f:Field),fs[i]? = some f->f.offset=k+i/\P.cellsOf f.type=1 /\ ∃ ty,P.underlying f.type=some ty/\(ty = .bool \/ ∃ k,ty = .int k)
 | [],k,_,i,f,h=>by cases h
 | g::r,k,hk,i,f,h=>by
  simp only [eQ,Bool.and_eq_true,beq_iff_eq] at hk;obtain⟨⟨⟨h1,h2⟩,h3⟩,h4⟩:=hk
  cases i with
  | zero =>
   cases h;refine⟨by omega,h2,?_⟩;split at h3
   ·rename_i e;exact⟨_,e,.inl rfl⟩
   ·rename_i kk e;exact⟨_,e,.inr ⟨kk,rfl⟩⟩
   ·cases h3
  | succ i =>
   obtain⟨a,b⟩:=rh h4 i f h;exact⟨by omega,b⟩
theorem Aw {fs:Array Field} (ht:P.underlying t=some (.struct fs)) (hf:eQ P fs.toList 0=true) (hn:P.cellsOf t=fs.size) {ls:List Lit} {p:List MemPlace}
  (h:DataW.trod enc P w base sp held fuel t cs=some (.agg (ls.map .lit),p)):cs=ls.map YK:=by
 obtain⟨xs,m,_,hx,hl,hlen,hel⟩:=DataW.trod_struct ht h;simp only [Prod.mk.injEq,DataW.agg.injEq] at hx;have hll:ls.length=fs.size:=by have:=congrArg List.length hx.1;simp at this;omega
 have hfe:=pU (ls.map λ l=>[YK l]) cs 1 (by rw [hl,hn,List.length_map,hll,Nat.mul_one]) (λ i e' hi=>by
  rw [List.getElem?_map] at hi
  cases hq:ls[i]? with
  | none=>rw [hq] at hi;cases hi
  | some l =>
   rw [hq] at hi;cases hi;obtain⟨q,hq'⟩:=mh hx.1 hq;have hi':i<fs.size:=by rw [<- hll];exact (List.getElem?_eq_some_iff.1 hq).1
   have hfi:fs[i]? = some fs[i]:=Array.getElem?_eq_getElem hi';obtain⟨a,b,ty,c,d⟩:=rh hf i fs[i] (by rw [Array.getElem?_toList];exact hfi);have:=hel i fs[i] hfi;rw [hq',b,a,Nat.zero_add] at this;rw [Nat.mul_one];exact lh c d this)
 rw [hfe,nh]
theorem Bw {n:Nat} {e:TypeId} {fs:Array Field} (ht:P.underlying t=some (.array n e)) (he:P.underlying e=some (.struct fs)) (hf:eQ P fs.toList 0=true) (hn:P.cellsOf e=fs.size) (hnt:P.cellsOf t=n * fs.size) {rs:List (List Lit)} {p:List MemPlace}
  (h:DataW.trod enc P w base sp held fuel t cs=some (.agg (rs.map λ ls => .agg (ls.map .lit)),p)):cs=(rs.map λ ls=>ls.map YK).flatten:=by
 obtain⟨xs,m,_,hx,hl,hlen,hel⟩:=DataW.trod_array ht h;simp only [Prod.mk.injEq,DataW.agg.injEq] at hx;have hll:rs.length=n:=by have:=congrArg List.length hx.1;simp at this;omega
 refine pU _ cs fs.size (by rw [hl,hnt,List.length_map,hll]) (λ i e' hi => ?_);rw [List.getElem?_map] at hi
 cases hq:rs[i]? with
 | none=>rw [hq] at hi;cases hi
 | some ls =>
  rw [hq] at hi;cases hi;have h1:(rs.map λ ls=>DataW.agg (H:=H) (ls.map .lit))[i]? = (xs.map (·.1))[i]?:=by rw [hx.1]
  rw [List.getElem?_map,List.getElem?_map,hq] at h1
  cases e:xs[i]? with
  | none=>rw [e] at h1;cases h1
  | some x =>
   rw [e] at h1;obtain⟨d,q⟩:=x;simp at h1;have hi':i<n:=by rw [<- hll];exact (List.getElem?_eq_some_iff.1 hq).1
   have:=hel i hi';rw [e,hn,<- h1] at this;exact Aw he hf hn this
end
def oF:PV->Value
 | .int n => .int .i64 n
 | .bool b => .bool b
 | .num k n => .int k n
 | _=>zC
def rU:PV->Bool
 | .int _=>true
 | .bool _=>true
 | .num .u8 _=>true
 | _=>false
theorem sU (H:Hp):∀ (ps:List PV),ps.all rU=true->RepL H ps (ps.map oF)
 | [],_=>by simp only [List.map_nil,RepL]
 | p::ps,h=>by
  simp only [List.all_cons,Bool.and_eq_true] at h;simp only [List.map_cons,RepL];refine⟨?_,sU H ps h.2⟩;have h1:=h.1;unfold rU at h1;split at h1<;>simp_all [RepP,oF]
noncomputable def Cw:Array Field:=match Tryz.prog.underlying 290 with
 | some (.struct fs)=>fs
 | _ => #[]
def NY:PV->Lit
 | .int n => .int .i64 n
 | .bool b => .bool b
 | .num k n => .int k n
 | _ => .bool false
def th:Nat->List PV->List (List PV)
 | 0,_=>[]
 | n+1,l=>l.take 8::th n (l.drop 8)
theorem Dw {P:Program} {w:World} {n:String} {g:Nat} {cs:Array Value} (hg:P.globalNamed n=some g) (h:w.var? P n=some cs):∃ T fr,w.heap[g]? = some (.cells cs T fr):=by
 simp only [World.var?,hg,Option.bind_some] at h;split at h<;>simp_all
theorem OY {ps p q:List MemPlace} {g n:Nat} (h:ps=MemPlace.row ⟨g,0,none⟩ n++p++q) (hn:0<n):MemPlace.cell g 0∈ps:=by
 subst h;exact List.mem_append_left _ (List.mem_append_left _ (List.mem_map.2 ⟨0,List.mem_range.2 hn,rfl⟩))
theorem PY {W:World} {n:String} {g:Nat} {cs:Array Value} {ls:List Value} (hg:Tryz.prog.globalNamed n=some g) (hv:W.var? Tryz.prog n=some cs) (hl:cs.toList=ls) (hz:∃ c t,W.heap[g]? = some (.cells c t (0,0))):∃ c T,W.heap[g]? = some (.cells c T (0,0))/\c.toList=ls:=by
 obtain⟨T,fr,h⟩:=Dw hg hv;obtain⟨c,t,h'⟩:=hz;rw [h] at h';cases h';exact⟨cs,T,h,hl⟩
theorem gDe : Tryz.prog.globalNamed "math/bits.deBruijn32tab" = some 0 := by kernel_rfl
theorem gRl : Tryz.prog.globalNamed "proofprograms/tree.rules" = some 2 := by kernel_rfl
theorem gAr : Tryz.prog.globalNamed "proofprograms/tree.arities" = some 1 := by kernel_rfl
theorem tDe:(Tryz.prog.globals[0]?).map (·.type)=some 271:=by kernel_rfl
theorem tAr:(Tryz.prog.globals[1]?).map (·.type)=some 306:=by kernel_rfl
theorem tRl:(Tryz.prog.globals[2]?).map (·.type)=some 310:=by kernel_rfl
theorem Ew {W:World} (h:laidMetH Tryz.prog dJ W):(∃ c T,W.heap[0]? = some (.cells c T (0,0))/\c.toList=deB.map oF)/\(∃ c T,W.heap[1]? = some (.cells c T (0,0))/\c.toList=arB.map oF) /\ ∃ c T,W.heap[2]? = some (.cells c T (0,0))/\c.toList=rlB.map oF:=by
 rw [MakeChecks.laidMetH_plain _ _ _ (by kernel_rfl)] at h;obtain⟨ps,⟨g0,t0,cs0,f0,p0,q0,hg0,ht0,hv0,hd0,⟨g2,t2,cs2,f2,p2,q2,hg2,ht2,hv2,hd2,⟨g1,t1,cs1,f1,p1,q1,hg1,ht1,hv1,hd1,hq1,e1⟩,e2⟩,e0⟩,_,hfr⟩:=h;obtain rfl:=Option.some.inj (gDe.symm.trans hg0);obtain rfl:=Option.some.inj (gRl.symm.trans hg2);obtain rfl:=Option.some.inj (gAr.symm.trans hg1);obtain rfl:=Option.some.inj (tDe.symm.trans ht0);obtain rfl:=Option.some.inj (tRl.symm.trans ht2);obtain rfl:=Option.some.inj (tAr.symm.trans ht1);have k0:cs0.toList=deB.map oF:=(ph (n:=32) (e:=5) (ty:=.int .u8) (by kernel_rfl) (by kernel_rfl) (.inr ⟨_,rfl⟩) (by kernel_rfl) (by kernel_rfl) (ls:=deB.map NY) hd0).trans (by kernel_rfl);have k1:cs1.toList=arB.map oF:=(ph (n:=14) (e:=3) (ty:=.int .i64) (by kernel_rfl) (by kernel_rfl) (.inr ⟨_,rfl⟩) (by kernel_rfl) (by kernel_rfl) (ls:=arB.map NY) hd1).trans (by kernel_rfl);have k2:cs2.toList=rlB.map oF:=(Bw (n:=21) (e:=290) (fs:=Cw) (by kernel_rfl) (by kernel_rfl) (by kernel_rfl) (by kernel_rfl) (by kernel_rfl) (rs:=(th 21 rlB).map (·.map NY)) hd2).trans (by kernel_rfl);have m0:MemPlace.cell 0 0∈ps:=OY e0 (by rw [<- Array.length_toList,k0];exact Nat.le_of_ble_eq_true (by kernel_rfl));have m2:MemPlace.cell 2 0∈q0:=OY e2 (by rw [<- Array.length_toList,k2];exact Nat.le_of_ble_eq_true (by kernel_rfl));have m1:MemPlace.cell 1 0∈q2:=OY e1 (by rw [<- Array.length_toList,k1];exact Nat.le_of_ble_eq_true (by kernel_rfl));have m2':MemPlace.cell 2 0∈ps:=by rw [e0];exact List.mem_append_right _ m2
 have m1':MemPlace.cell 1 0∈ps:=by rw [e0,e2];exact List.mem_append_right _ (List.mem_append_right _ m1)
 exact⟨PY gDe hv0 k0 (hfr _ _ m0).1,PY gAr hv1 k1 (hfr _ _ m1').1,PY gRl hv2 k2 (hfr _ _ m2').1⟩
def msk (v:Value):Value:=match v with
 | .int .i64 n => .int .i64 n
 | _=>zC
theorem Fw {v:Value} (h:msk v≠zC):msk v=v:=by
 unfold msk at *
 split<;>simp_all
theorem Gw (v:Value):∃ k n,msk v = .int k n/\k ≠ .i16:=by
 unfold msk;split
 ·exact⟨_,_,rfl,by decide⟩
 ·exact⟨.i8,0,rfl,by decide⟩
theorem ah (v:Value) (b:Bool):msk v≠Go.Lg.mark b:=by
 unfold msk Go.Lg.mark zC;split<;>simp
def QY:Nat->List Value
 | 0=>deB.map oF
 | 1=>arB.map oF
 | 2=>rlB.map oF
 | _=>[]
def H0 (W:World) (B:Nat):Hp:=λ b=>if b<3 then QY b else if b=B then (match W.heap[b]? with|some (.cells c _ _)=>c.toList.map msk|_=>[]) else []
def E0 (W:World) (B:Nat):Go.Lg.Env:=⟨H0 W B,λ _ => .pointer none,λ _=>0,λ _=>0⟩
theorem oh {W:World} (h:laidMetH Tryz.prog dJ W) {b:Nat} (hb:b<3):∃ c T,W.heap[b]? = some (.cells c T (0,0))/\c.toList=QY b:=by
 obtain⟨h0,h1,h2⟩:=Ew h
 match b,hb with
 | 0,_=>exact h0
 | 1,_=>exact h1
 | 2,_=>exact h2
theorem Hw {W:World} (h:laidMetH Tryz.prog dJ W) {B i:Nat} {c:Array Value} {T:TypeId} {fr:Nat × Nat} {n:Int} (hc:W.heap[B]? = some (.cells c T fr)) (hi:c.toList[i]? = some (.int .i64 n)):(H0 W B B)[i]? = some (.int .i64 n):=by
 unfold H0;split
 ·rename_i hb;obtain⟨c',T',hc',hl⟩:=oh h hb;rw [hc] at hc';cases hc';rw [<- hl];exact hi
 ·rw [if_pos rfl,hc];simp only [List.getElem?_map,hi,Option.map_some];rfl
theorem xh (H:Hp):∀ (ns:List Int) (vs:List Value),(∀ (i:Nat) (n:Int),ns[i]? = some n->vs[i]? = some (.int .i64 n))->RepE H (ns.map λ z=>[PV.int z]) vs
 | [],_,_=>by simp only [List.map_nil,RepE]
 | n::ns,[],h=>by have:=h 0 n rfl;simp at this
 | n::ns,v::vs,h=>by
  have h0:=h 0 n rfl;simp at h0;subst h0;simp only [List.map_cons,RepE,RepL,List.length_cons,List.length_nil,List.drop_succ_cons,List.drop_zero];exact⟨⟨by simp [RepP],trivial⟩,xh H ns vs (λ i m hm=>by simpa using h (i+1) m (by simpa using hm))⟩
theorem Ah:∀ g,g<3->∀ v∈QY g,v≠zC /\ ∀ b,v≠Go.Lg.mark b:=by
 have key:∀ ps:List PV,ps.all rU=true->∀ v∈ps.map oF,v≠zC /\ ∀ b,v≠Go.Lg.mark b:=by
  intro ps h v hv;obtain⟨p,hp,rfl⟩:=List.mem_map.1 hv;have:=List.all_eq_true.1 h p hp;unfold rU at this;split at this<;>simp_all [oF,zC,Go.Lg.mark]
 intro g hg
 match g,hg with
 | 0,_=>exact key deB (by kernel_rfl)
 | 1,_=>exact key arB (by kernel_rfl)
 | 2,_=>exact key rlB (by kernel_rfl)
theorem Iw {W:World} (B:Nat) (h:laidMetH Tryz.prog dJ W):pO gl (E0 W B) W []:=by
 refine⟨?_,?_,?_,?_⟩
 ·intro b hb;simp only [E0,H0] at hb ⊢;by_cases hb3:b<3
  ·rw [if_pos hb3];obtain⟨c,T,hc,hl⟩:=oh h hb3;refine⟨c,T,(0,0),hc,⟨by rw [hl];exact Nat.le_refl _,λ i v hi _ _=>by rw [hl];exact hi,λ i p hi => ?_⟩,.inl rfl⟩;exact absurd rfl ((Ah b hb3 _ (List.mem_of_getElem? hi)).2 p)
  ·rw [if_neg hb3] at hb ⊢;split at hb
   ·rename_i hbb;rw [if_pos hbb];split at hb
    ·rename_i c T fr hc;refine⟨c,T,fr,hc,⟨by simp,?_,?_⟩,.inr ?_⟩
     ·intro i v hi hv _;rw [List.getElem?_map,Option.map_eq_some_iff] at hi;obtain⟨u,hu,rfl⟩:=hi;rw [hu,Fw hv]
     ·intro i p hi;rw [List.getElem?_map,Option.map_eq_some_iff] at hi;obtain⟨u,hu,e⟩:=hi;exact absurd e (ah u p)
     ·intro v hv;obtain⟨u,_,rfl⟩:=List.mem_map.1 hv;exact Gw u
    ·exact absurd rfl hb
   ·exact absurd rfl hb
 ·intro g cs hg
  match g,hg with
  | 0,hg=>cases hg;exact sU _ deB (by kernel_rfl)
  | 1,hg=>cases hg;exact sU _ arB (by kernel_rfl)
  | 2,hg=>cases hg;exact sU _ rlB (by kernel_rfl)
  | g+3,hg=>cases hg
 ·intro n o ho;cases ho
 ·intro n m o o' ho;cases ho
theorem Jw (W:World) (B b:Nat):nf (H0 W B b):=by
 intro v hv p;unfold H0 at hv;split at hv
 ·rename_i h;exact (Ah b h v hv).2 p
 ·split at hv
  ·split at hv
   ·obtain⟨u,_,rfl⟩:=List.mem_map.1 hv;exact ah u p
   ·cases hv
  ·cases hv
theorem Kw {W W':World} {B:Nat} {E':Go.Lg.Env} (h:iM (E0 W B) W [] E' W' []):Below W.heap.size W W' :=
 ⟨h.rest.1,h.rest.2.1,h.rest.2.2,h.size,λ k hk=>(h.same k hk (λ n o ho=>by cases ho)).1 (Jw W B k)⟩
abbrev tU (L:List Int):List (List PV):=L.map λ z=>[PV.int z]
theorem Bh {f:Nat} (hac:∀ L:List Int,(∀ z∈L,-9223372036854775808<=z/\z<=9223372036854775807)->AC Tryz.prog gl f [.pv (.slice (tU L))] [] (.ret (.pv (.bool true))) []) {W:World} (h:laidMetH Tryz.prog dJ W) {ad:Option Addr} {len cap:Nat} (zs:List Int) (hz:zs.length=len) (hlc:len<=cap) (hm:len<=maxLen)
  (hr:∀ z∈zs,-9223372036854775808<=z/\z<=9223372036854775807)
  (ha:len=0 \/ ∃ b off,ad=some ⟨b,off,none⟩ /\ ∀ (i:Nat) (n:Int),zs[i]? = some n->W.cell? ⟨b,off+i,none⟩=some (.int .i64 n)) :
  Calls Tryz.prog f #[.slice ad len cap] W λ e W'=>e = .returned (.bool true)/\Below W.heap.size W W':=by
 have UB:∀ B,RepP (H0 W B) (.slice (tU zs)) (.slice ad len cap)->Calls Tryz.prog f #[.slice ad len cap] W λ e W'=>e = .returned (.bool true)/\Below W.heap.size W W':=by
  intro B hrr;refine ((hac zs hr).calls (E0 W B) W [.slice ad len cap] (Iw B h) rfl ⟨hrr,trivial⟩).mono ?_
  rintro e W' ⟨E',hd,v,rfl,hv⟩
  simp only [RepV,RepP] at hv;subst hv;exact⟨rfl,Kw hd⟩
 have hil:(tU zs).length=len:=by simp [hz]
 rcases ha with h0|⟨b,off,rfl,hc⟩
 ·refine UB 0 ⟨ad,cap,by rw [hil],by omega,by omega,.inl ?_⟩;have:zs=[]:=List.eq_nil_of_length_eq_zero (by omega);subst this;rfl
 ·refine UB b ⟨_,cap,by rw [hil],by omega,by omega,.inr ⟨b,off,rfl,?_⟩⟩;refine xh _ _ _ (λ i n hi => ?_);rw [List.getElem?_drop];have h1:=hc i n hi;unfold World.cell? at h1
  cases e:W.heap[b]? with
  | none=>simp [e] at h1
  | some o =>
   cases o with
   | cells c T fr =>
    simp [e] at h1;exact Hw h e (by rw [Array.getElem?_toList];exact h1)
   | _=>simp [e] at h1
theorem Lw (os:Os) (args:Array Value):laidMetH Tryz.prog dJ ((World.doorLaid Tryz.prog 400 os).forCall (λ _ _=>0) ⟨#[],args,[]⟩).memory :=
 laidMetH_of_parts3 (fuel:=8) (laidMet_of_run' 8 (by kernel_rfl) (by kernel_rfl)) (by kernel_rfl) (by kernel_rfl)
end Go.Proofs.YtmkajedkflhbgaaGreatDoor
