/- Part of the proof: from a contract of a law to its row; no conditions. -/
import Derived.Test.YtodjpfpmhjdhbaaGreatDoorTwiceC28
import Derived.Test.YtodjpfpmhjdhbaaGreatDoorTie
import Derived.Test.YtodjpfpmhjdhbaaGreatDoorCards
import Derived.ProofKit
import Derived.LaidMore
import Derived.OpenShut
import Derived.Stop.Joined
import Derived.SevenTiedAt
import Derived.Carry
set_option linter.all false
namespace Go.Proofs.YtodjpfpmhjdhbaaGreatDoor
open Go Go.Lg Go.ChangeShapes Go.WideShapes Go.ChangeAt Go.WideMaps Go.WideElems Go.RowKit
theorem own:ownKnob Tryz.prog.godebug=none:=by kernel_rfl
theorem gOps : Tryz.prog.globalNamed (Rows.runEvalRow.named.headD "none") = some 0 := by kernel_rfl
theorem tOps:(Tryz.prog.globals[0]?).map (·.type)=some 192:=by kernel_rfl
theorem c3:Tryz.prog.cellsOf 3=1:=by kernel_rfl
theorem c191:Tryz.prog.cellsOf 191=2:=by kernel_rfl
theorem c192:Tryz.prog.cellsOf 192=28:=by kernel_rfl
theorem laidOut:laidOutB Tryz.prog=true:=by kernel_rfl
abbrev laid1:List (String × DataW Unit):=Rows.runEvalRow.laid
def opsN:List Int:=[0,0,0,1,0,2,2,3,0,4,1,5,3,6,0,7,2,8,3,9,2,10,1,11,1,12,0,13]
theorem opsP_eq:opsP=opsN.map PV.int:=rfl
theorem pair_cells {H:Type} {enc:TypeId × Value→H} {W:World} {fuel:Nat} {cs:List Value} {x:DataW H × List MemPlace} {sp:Nat→Bool} {hd:Bool} {base:Nat} {a b:Int} (h:DataW.trod enc Tryz.prog W base sp hd fuel 191 cs=some x) (hx:x.1 = .agg [.lit (.int .i64 a),.lit (.int .i64 b)]) :
  cs=[.int .i64 a,.int .i64 b]:=by
 obtain⟨y0,y1,n,rfl,hl,h0,h1⟩:=trod_struct2 Tryz.underlying191 h
 rw [c191] at hl
 simp only [c3] at h0 h1
 obtain⟨k0,e0,f0,_⟩:=DataW.trod_int Tryz.underlying3 h0
 obtain⟨k1,e1,f1,_⟩:=DataW.trod_int Tryz.underlying3 h1
 simp only [f0,f1,DataW.agg.injEq,List.cons.injEq,DataW.lit.injEq,Lit.int.injEq,and_true,true_and] at hx
 obtain⟨rfl,rfl⟩:=hx
 match cs,hl with
 | [u,v],_ =>
  simp at e0 e1
  rw [e0,e1]
theorem of_laid {W:World} (h:laidMetH Tryz.prog laid1 W):∃ c T fr,W.heap[0]? = some (.cells c T fr) ∧ ∀ (i:Nat) (n:Int),opsN[i]? = some n→c.toList[i]? = some (.int .i64 n):=by
 rw [MakeChecks.laidMetH_plain _ _ _ (by kernel_rfl)] at h
 obtain⟨ps,⟨g0,t0,cs0,f0,p0,q0,hg0,ht0,hv0,hd0,_,_⟩,_,_⟩:=h
 obtain rfl:=Option.some.inj (gOps.symm.trans hg0)
 obtain rfl:=Option.some.inj (tOps.symm.trans ht0)
 obtain⟨xs,m,rfl,hx,hlen,hn,hel⟩:=DataW.trod_array Tryz.underlying192 hd0
 rw [c192] at hlen
 have key:∀ (i:Nat),i<14→∀ a b:Int,(xs.map (·.1))[i]? = some (.agg [.lit (.int .i64 a),.lit (.int .i64 b)])→cs0.toList[2 * i]? = some (.int .i64 a)∧cs0.toList[2 * i+1]? = some (.int .i64 b):=by
  intro i hi a b hab
  have h1:=hel i hi
  rw [List.getElem?_map,Option.map_eq_some_iff] at hab
  obtain⟨x,hxi,hxa⟩:=hab
  rw [hxi,c191] at h1
  have h2:=pair_cells h1 hxa
  constructor
  ·have:=congrArg (fun l=>l[0]?) h2
   simpa [List.getElem?_take,List.getElem?_drop,Nat.mul_comm] using this
  ·have:=congrArg (fun l=>l[1]?) h2
   simpa [List.getElem?_take,List.getElem?_drop,Nat.mul_comm] using this
 simp only [Prod.mk.injEq,Rows.laid_proofprograms_code_ops,DataW.agg.injEq] at hx
 rw [← hx.1] at key
 have cells:∀ (i:Nat) (n:Int),opsN[i]? = some n→cs0.toList[i]? = some (.int .i64 n):=by
  intro i n hi
  have hi28:i<28:=(List.getElem?_eq_some_iff.1 hi).1
  have h14:∀ (k:Nat),k<14→∀ j<2,∀ n,opsN[2 * k+j]? = some n→cs0.toList[2 * k+j]? = some (.int .i64 n):=by
   intro k hk j hj n hn
   have hkk:k=0∨k=1∨k=2∨k=3∨k=4∨k=5∨k=6∨k=7∨k=8∨k=9∨k=10∨k=11∨k=12∨k=13:=by omega
   have hjj:j=0∨j=1:=by omega
   rcases hkk with rfl|rfl|rfl|rfl|rfl|rfl|rfl|rfl|rfl|rfl|rfl|rfl|rfl|rfl<;>rcases hjj with rfl|rfl <;>
   (cases hn
    first|exact (key _ (by decide) _ _ rfl).1|exact (key _ (by decide) _ _ rfl).2)
  have:=h14 (i / 2) (by omega) (i % 2) (by omega) n (by rw [Nat.div_add_mod];exact hi)
  rwa [Nat.div_add_mod] at this
 have hc:=World.var?_cell hg0 hv0
 have h00:=cells 0 0 rfl
 have hh:∃ c T fr,W.heap[0]? = some (.cells c T fr) ∧ ∀ i:Nat,c[i]? = cs0[i]?:=by
  have h1:=hc 0
  rw [show cs0[0]? = some (.int .i64 0) by rw [← Array.getElem?_toList];exact h00] at h1
  unfold World.cell? at h1 hc
  cases e:W.heap[0]? with
  | none=>simp [e] at h1
  | some o =>
   cases o with
   | cells c T fr =>
    refine⟨c,T,fr,rfl,fun i => ?_⟩
    have:=hc i
    simpa [e] using this
   | _=>simp [e] at h1
 obtain⟨c,T,fr,hW,hcc⟩:=hh
 refine⟨c,T,fr,hW,fun i n hi => ?_⟩
 rw [Array.getElem?_toList,hcc i,← Array.getElem?_toList]
 exact cells i n hi
def msk (v:Value):Value:=match v with
 | .int .i64 n => .int .i64 n
 | _=>hole
theorem msk_ne {v:Value} (h:msk v≠hole):msk v=v:=by
 unfold msk at *
 split<;>simp_all
theorem msk_int (v:Value):∃ k n,msk v = .int k n:=by
 unfold msk
 split
 ·exact⟨_,_,rfl⟩
 ·exact⟨.u8,0,rfl⟩
def H0 (W:World) (B:Nat):Hp:=fun b=>if b=0∨b=B then (match W.heap[b]? with|some (.cells c _ _)=>c.toList.map msk|_=>[]) else []
def E0 (W:World) (B:Nat):Go.Lg.Env:=⟨H0 W B,fun _ => .pointer none,fun _=>0,fun _=>0⟩
theorem H0_cell {W:World} {B b i:Nat} {c:Array Value} {T:TypeId} {fr:Nat × Nat} {n:Int} (hb:b=0∨b=B) (hc:W.heap[b]? = some (.cells c T fr)) (hi:c.toList[i]? = some (.int .i64 n)):(H0 W B b)[i]? = some (.int .i64 n):=by
 unfold H0
 rw [if_pos hb,hc]
 simp only [List.getElem?_map,hi,Option.map_some]
 rfl
theorem RepL_nums (H:Hp):∀ (ns:List Int) (vs:List Value),(∀ (i:Nat) (n:Int),ns[i]? = some n→vs[i]? = some (.int .i64 n))→RepL H (ns.map PV.int) vs
 | [],_,_=>by simp only [List.map_nil,RepL]
 | n::ns,[],h=>by have:=h 0 n rfl;simp at this
 | n::ns,v::vs,h=>by
  have h0:=h 0 n rfl
  simp at h0
  subst h0
  simp only [List.map_cons,RepL]
  exact⟨by simp [RepP],RepL_nums H ns vs (fun i m hm=>by simpa using h (i+1) m (by simpa using hm))⟩
theorem RepE_nums (H:Hp):∀ (ns:List Int) (vs:List Value),(∀ (i:Nat) (n:Int),ns[i]? = some n→vs[i]? = some (.int .i64 n))→RepE H (ints ns) vs
 | [],_,_=>by simp only [ints,List.map_nil,RepE]
 | n::ns,[],h=>by have:=h 0 n rfl;simp at this
 | n::ns,v::vs,h=>by
  have h0:=h 0 n rfl
  simp at h0
  subst h0
  simp only [ints,List.map_cons,RepE,RepL,List.length_cons,List.length_nil,List.drop_succ_cons,List.drop_zero]
  exact⟨⟨by simp [RepP],trivial⟩,RepE_nums H ns vs (fun i m hm=>by simpa using h (i+1) m (by simpa using hm))⟩
theorem base_of {W:World} (B:Nat) (h:laidMetH Tryz.prog laid1 W):Base gl (E0 W B) W []:=by
 obtain⟨c,T,fr,hW,hc⟩:=of_laid h
 refine⟨?_,?_,?_,?_⟩
 ·intro b hb
  simp only [E0,H0] at hb ⊢
  split at hb
  ·rename_i hbb
   rw [if_pos hbb]
   split at hb
   ·rename_i c T fr hc
    refine⟨c,T,fr,hc,⟨by simp,?_⟩,.inr ?_⟩
    ·intro i v hi hv
     rw [List.getElem?_map,Option.map_eq_some_iff] at hi
     obtain⟨u,hu,rfl⟩:=hi
     rw [hu,msk_ne hv]
    ·intro v hv
     obtain⟨u,_,rfl⟩:=List.mem_map.1 hv
     exact msk_int u
   ·exact absurd rfl hb
  ·exact absurd rfl hb
 ·intro g cs hg
  match g,hg with
  | 0,hg =>
   rw [gl0] at hg
   cases hg
   rw [opsP_eq]
   exact RepL_nums _ _ _ (fun i n hi=>H0_cell (B:=B) (.inl rfl) hW (hc i n hi))
  | g+1,hg=>cases hg
 ·intro n o ho
  cases ho
 ·intro n m o o' ho
  cases ho
theorem below_of {E E':Go.Lg.Env} {W W':World} (h:Done E W [] E' W' []):Below W.heap.size W W' :=
 ⟨h.rest.1,h.rest.2.1,h.rest.2.2,h.size,fun k hk=>(h.same k hk (fun n o ho=>by cases ho)).1⟩
theorem run_law {f:Nat} (hac:∀ L:List Int,AC Tryz.prog gl f [.pv (.slice (ints L))] [] (.ret (.pv (.bool true))) []) {W:World} (h:laidMetH Tryz.prog laid1 W) {ad:Option Addr} {len cap:Nat} (zs:List Int) (hz:zs.length=len) (hlc:len≤cap) (hm:len≤maxLen)
  (ha:len=0 ∨ ∃ b off,ad=some ⟨b,off,none⟩ ∧ ∀ (i:Nat) (n:Int),zs[i]? = some n→W.cell? ⟨b,off+i,none⟩=some (.int .i64 n)) :
  Calls Tryz.prog f #[.slice ad len cap] W fun e W'=>e = .returned (.bool true)∧Below W.heap.size W W':=by
 have fin:∀ B,RepP (H0 W B) (.slice (ints zs)) (.slice ad len cap)→Calls Tryz.prog f #[.slice ad len cap] W fun e W'=>e = .returned (.bool true)∧Below W.heap.size W W':=by
  intro B hr
  refine ((hac zs).calls (E0 W B) W [.slice ad len cap] (base_of B h) rfl ⟨hr,trivial⟩).mono ?_
  rintro e W' ⟨E',hd,v,rfl,hv⟩
  simp only [RepV,RepP] at hv
  subst hv
  exact⟨rfl,below_of hd⟩
 have hil:(ints zs).length=len:=by simp [ints,hz]
 rcases ha with h0|⟨b,off,rfl,hc⟩
 ·refine fin 0 ⟨ad,cap,by rw [hil],by omega,by omega,.inl ?_⟩
  have:zs=[]:=List.eq_nil_of_length_eq_zero (by omega)
  subst this
  rfl
 ·refine fin b ⟨_,cap,by rw [hil],by omega,by omega,.inr ⟨b,off,rfl,?_⟩⟩
  refine RepE_nums _ _ _ (fun i n hi => ?_)
  rw [List.getElem?_drop]
  have h1:=hc i n hi
  unfold World.cell? at h1
  cases e:W.heap[b]? with
  | none=>simp [e] at h1
  | some o =>
   cases o with
   | cells c T fr =>
    simp [e] at h1
    exact H0_cell (.inr rfl) e (by rw [Array.getElem?_toList];exact h1)
   | _=>simp [e] at h1
theorem door_met (os:Os) (args:Array Value):laidMetH Tryz.prog laid1 ((World.doorLaid Tryz.prog 400 os).forCall (fun _ _=>0) ⟨#[],args,[]⟩).memory :=
 laidMetH_of_parts3 (fuel:=8) (laidMet_of_run' 8 (by kernel_rfl) (by kernel_rfl)) (by kernel_rfl) (by kernel_rfl)
end Go.Proofs.YtodjpfpmhjdhbaaGreatDoor
