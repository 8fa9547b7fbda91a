/- The card of the law. -/
import Derived.Test.YtalkjpicadiimaaGreatDoorLY
import Derived.Test.YtalkjpicadiimaaGreatDoorLFf
import Derived.Test.YtalkjpicadiimaaGreatDoorLFg
import Derived.Test.YtalkjpicadiimaaGreatDoorLFh
import Derived.Test.YtalkjpicadiimaaGreatDoorLFi
import Derived.Test.YtalkjpicadiimaaGreatDoorLC10
set_option linter.all false
namespace Go.Proofs.YtalkjpicadiimaaGreatDoor
open Go Go.Lg Go.ChangeShapes Go.WideShapes Go.ChangeAt Go.WideMaps Go.WideElems Go.RowKit
set_option maxRecDepth 100000
theorem an2 {a b:Bool} (h:a=true) (k:b=true):(a && b)=true:=by rw [h,k];rfl
theorem zJp:joinedFacts Tryz.pinned.checked.prog 3 Tryz.f3 Rows.extractLiftSpec Rows.extractLiftRow=true:=an2 (an2 (an2 (an2 (an2 (an2 (an2 (an2 (an2 (an2 (an2 (an2 (an2 (an2 (an2 (an2 (an2 (an2 (an2 (an2 (an2 (an2 (an2 (an2 (an2 (an2 (an2 (an2 (an2 (an2 (an2 jf0 jf1) jf2) jf3) jf4) jf5) jf6) jf7) jf8) jf9) zNs) zNt) zNu) zNv) zNw) zNx) zNy) zNz) zN0) zN1) zN2) zN3) zN4) zN5) zN6) zN7) zN8) zN9) zOa) zOb) zOc) zOd
theorem zWq (L:List Int) (h:∀ z∈L,-9223372036854775808≤z∧z≤9223372036854775807):AC Tryz.prog gl 3 [.pv (.slice (zcs L))] [] (.ret (.pv (.bool true))) []:=zQm zDm a4 h
theorem zD2 {n:Int} (h:(Lit.int .i64 n).wf=true) : -9223372036854775808≤n∧n≤9223372036854775807:=by
 simp [Lit.wf,IntKind.min,IntKind.max,IntKind.signed,IntKind.bits] at h
 omega
theorem qYk (os:Os) (started:os.Started) (H:Type) (enc:TypeId × Value→H) :
  ReturnsInHanded {} Tryz.checked os 3 .any (fun w args=>(Rows.extractLiftSpec.pre enc Tryz.prog Tryz.f3 [] false w args∧laidMetH Tryz.prog qGj w)∧sizedMet enc Tryz.prog Tryz.f3 (OpenSpec.ofChange Rows.extractLiftSpec) false w args)
   (Rows.extractLiftSpec.post enc Tryz.prog Tryz.f3 false true false false):=by
 refine returnsInHanded_of_change_and (C:=Tryz.checked) (X:=fun w _=>laidMetH Tryz.prog qGj w) (fun _ _ _ hh h=>h.of_heap hh) own started (by kernel_rfl) Tryz.func3
  (ChangeSpec.witness_shaped (enc:=enc) (C:=Tryz.checked) (os:=os) (X:=fun w _=>laidMetH Tryz.prog qGj w) false (World.doorLaid Tryz.prog 400 os) #[.slice none 0 0] 8 rfl (World.shaped_of_RefB (by kernel_rfl) (by kernel_rfl)) (by kernel_rfl) (by kernel_rfl) (by kernel_rfl) (zJo os _)) ?_
 intro W base args ds gs before hval0 hW _ _ hL _
 have hval:∀ (j:Nat) t v,Tryz.f3.params[j]? = some t→args[j]? = some v→Value.okWide Tryz.prog W .any base t v:=hval0
 have hW':=hW
 obtain⟨p,q,hA0,hV,rfl,hfz,hnd⟩:=hW
 have hA:DataW.TrodAll enc Tryz.prog W 0 (fun _=>true) true Tryz.f3.params.toList args.toList ds p:=hA0
 rw [Tryz.params3] at hA hval
 obtain⟨v0,d0,rfl,rfl,h0⟩:=trodAll_one hA
 obtain⟨rfl,rfl⟩:=trodVars_none hV
 obtain⟨a0,len,cap,rfl⟩:=okWide_slice Tryz.underlying22 (hval 0 22 v0 rfl rfl)
 have h0k:=h0
 obtain⟨fuel,hf⟩:=h0
 have hv0:=hval 0 22 _ rfl rfl
 clear hA0 hval0 hval
 simp only [List.append_nil] at hW'
 have hlt:∀ x∈p,x.block<W.heap.size:=fun x hx=>by simpa using hW'.lt x hx
 have hargs:∀ (W':World),Below W.heap.size W W'→DataW.Trod enc Tryz.prog W' 0 (fun b=>decide (b<W.heap.size)) true 22 (.slice a0 len cap) d0 p :=
  fun W' hn=>Below.trod zYt (by kernel_rfl) (of_decide_eq_true (by kernel_rfl)) h0k hn hlt
 have close:(Calls Tryz.prog 3 #[.slice a0 len cap] W fun e W'=>e = .returned (.bool true)∧Below W.heap.size W W')→Calls Tryz.checked.prog 3 #[.slice a0 len cap] W fun e W' => ∃ v,e = .returned v∧Rows.extractLiftSpec.post enc Tryz.checked.prog Tryz.f3 false true false false W #[.slice a0 len cap] v W':=by
  intro h
  refine Calls.mono h ?_
  rintro e W' ⟨rfl,hb⟩
  refine⟨_,rfl,[d0],[],p,[],p,[],hW',?_,?_,rfl,hb.frame _,nofun⟩
  ·exact trodAll_mk1 (shut_bool Tryz.underlying4 _)
  ·exact trodAll_mk1 (hargs _ hb)
 refine close ?_
 rcases open_ints Tryz.underlying22 Tryz.underlying3 c3 hf with ⟨hcs,hx⟩|⟨a,len',cap',zs,hcs,_,hl,hm,hz,hx,hcell,hwz⟩
 ·simp [Value.cells] at hcs
  obtain⟨rfl,rfl,rfl⟩:=hcs
  exact qUa zWq hL [] rfl (by omega) (by omega) (fun z hz=>by cases hz) (.inl rfl)
 ·simp [Value.cells] at hcs
  obtain⟨rfl,rfl,rfl⟩:=hcs
  simp only [if_true] at hz
  have hsp:a.spot=none:=by
   simp only [Value.okWide,Tryz.underlying22,Cell.okWide,Cell.ok,World.has] at hv0
   exact hv0.2.2.2.1
  obtain⟨b,off,spot⟩:=a
  simp only at hsp
  subst hsp
  refine qUa zWq hL (zs.take len) (by simp;omega) hl (by omega) (fun z hz=>zD2 (hwz z (List.mem_of_mem_take hz))) (.inr ⟨b,off,rfl,?_⟩)
  intro i n hi
  rw [List.getElem?_take] at hi
  split at hi
  ·have hiz:=(List.getElem?_eq_some_iff.1 hi).1
   have:=hcell i hiz
   rw [add_plain] at this
   rw [this]
   simp [List.getD,hi]
  ·cases hi
theorem extractLift_row_holds:Rows.ExtractLiftSaid :=
 OpenClaim.holds_of_wide 3 Tryz.f3 rfl rfl rfl rfl rfl rfl rfl ⟨rfl,rfl,rfl,rfl,rfl⟩ rfl rfl rfl rfl rfl zDv Tryz.func3 zJp zDw zDx
  (fun os started H enc _=>qYk os started H enc)
theorem extractLift_card_holds:Rows.ExtractLiftCardSaid :=
 Claim7.holds_tied_plain_at .later [] [.data, .data, .data] true (true, "5146de6e59666c41a0ab54c3916c548b687e89c36a7a19cb612fe3a320f039e7") false
  extractLift_row_holds (fun _ h=>by cases h) zDy (fun _ h=>by cases h) extractLift_row_tie rfl ⟨rfl,rfl⟩ zDz rfl
  (fun f fn hf hfn=>by
   obtain rfl:f=3:=Option.some.inj (u_fn.symm.trans hf) |>.symm
   obtain rfl:fn=Tryz.f3:=(Option.some.inj (Tryz.func3.symm.trans hfn)).symm
   exact⟨zYr,fun j t ht=>by
    rw [Tryz.params3] at ht
    have hm:t∈[22]:=by simpa using Array.mem_of_getElem? ht
    exact (show Tryz.prog.wantsStandIn t=false by simpa using List.all_eq_true.1 zYs t hm)⟩)
  zD0
#print axioms extractLift_card_holds
end Go.Proofs.YtalkjpicadiimaaGreatDoor
