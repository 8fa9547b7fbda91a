/- The card holds; the only condition is the row's own: the package variable code.ops reads as the program's text lays it. -/
import Derived.Test.YtodjpfpmhjdhbaaGreatDoorTwiceY
import Derived.Test.YtodjpfpmhjdhbaaGreatDoorTwiceC30
set_option linter.all false
namespace Go.Proofs.YtodjpfpmhjdhbaaGreatDoor
open Go Go.Lg Go.ChangeShapes Go.WideShapes Go.ChangeAt Go.WideMaps Go.WideElems Go.RowKit
set_option maxRecDepth 100000 in
theorem memoTwice_lifted (os:Os) (started:os.Started) (H:Type) (enc:TypeId × Value→H) :
  ReturnsInHanded {} Tryz.checked os 6 .any (fun w args=>(Rows.memoTwiceSpec.pre enc Tryz.prog Tryz.f6 [] false w args∧laidMetH Tryz.prog laid1 w)∧sizedMet enc Tryz.prog Tryz.f6 (OpenSpec.ofChange Rows.memoTwiceSpec) false w args)
   (Rows.memoTwiceSpec.post enc Tryz.prog Tryz.f6 false true false false):=by
 refine returnsInHanded_of_change_and (C:=Tryz.checked) (X:=fun w _=>laidMetH Tryz.prog laid1 w) (fun _ _ _ hh h=>h.of_heap hh) own started (by kernel_rfl) Tryz.func6
  (ChangeSpec.witness_shaped (enc:=enc) (C:=Tryz.checked) (os:=os) (X:=fun w _=>laidMetH Tryz.prog laid1 w) false (World.doorLaid Tryz.prog 400 os) #[.slice none 0 0] 8 rfl (World.shaped_of_RefB (by kernel_rfl) (by kernel_rfl)) (by kernel_rfl) (by kernel_rfl) (by kernel_rfl) (door_met os _)) ?_
 intro W base args ds gs before hval0 hW _ _ hL _
 have hval:∀ (j:Nat) t v,Tryz.f6.params[j]? = some t→args[j]? = some v→Value.okWide Tryz.prog W .any base t v:=hval0
 have hW':=hW
 obtain⟨p,q,hA0,hV,rfl,hfz,hnd⟩:=hW
 have hA:DataW.TrodAll enc Tryz.prog W 0 (fun _=>true) true Tryz.f6.params.toList args.toList ds p:=hA0
 rw [Tryz.params6] at hA hval
 obtain⟨v0,d0,rfl,rfl,h0⟩:=trodAll_one hA
 obtain⟨rfl,rfl⟩:=trodVars_none hV
 obtain⟨a0,len,cap,rfl⟩:=okWide_slice Tryz.underlying22 (hval 0 22 v0 rfl rfl)
 have h0k:=h0
 obtain⟨fuel,hf⟩:=h0
 have hv0:=hval 0 22 _ rfl rfl
 clear hA0 hval0 hval
 simp only [List.append_nil] at hW'
 have hlt:∀ x∈p,x.block<W.heap.size:=fun x hx=>by simpa using hW'.lt x hx
 have hargs:∀ (W':World),Below W.heap.size W W'→DataW.Trod enc Tryz.prog W' 0 (fun b=>decide (b<W.heap.size)) true 22 (.slice a0 len cap) d0 p :=
  fun W' hn=>Below.trod laidOut (by kernel_rfl) (of_decide_eq_true (by kernel_rfl)) h0k hn hlt
 have close:(Calls Tryz.prog 6 #[.slice a0 len cap] W fun e W'=>e = .returned (.bool true)∧Below W.heap.size W W')→Calls Tryz.checked.prog 6 #[.slice a0 len cap] W fun e W' => ∃ v,e = .returned v∧Rows.memoTwiceSpec.post enc Tryz.checked.prog Tryz.f6 false true false false W #[.slice a0 len cap] v W':=by
  intro h
  refine Calls.mono h ?_
  rintro e W' ⟨rfl,hb⟩
  refine⟨_,rfl,[d0],[],p,[],p,[],hW',?_,?_,rfl,hb.frame _,fun h=>by cases h⟩
  ·exact trodAll_mk1 (shut_bool Tryz.underlying4 _)
  ·exact trodAll_mk1 (hargs _ hb)
 refine close ?_
 rcases open_ints Tryz.underlying22 Tryz.underlying3 c3 hf with ⟨hcs,hx⟩|⟨a,len',cap',zs,hcs,_,hl,hm,hz,hx,hcell,hwz⟩
 ·simp [Value.cells] at hcs
  obtain⟨rfl,rfl,rfl⟩:=hcs
  exact run_law law_twice hL [] rfl (by omega) (by omega) (.inl rfl)
 ·simp [Value.cells] at hcs
  obtain⟨rfl,rfl,rfl⟩:=hcs
  simp only [if_true] at hz
  have hsp:a.spot=none:=by
   simp only [Value.okWide,Tryz.underlying22,Cell.okWide,Cell.ok,World.has] at hv0
   exact hv0.2.2.2.1
  obtain⟨b,off,spot⟩:=a
  simp only at hsp
  subst hsp
  refine run_law law_twice hL (zs.take len) (by simp;omega) hl (by omega) (.inr ⟨b,off,rfl,?_⟩)
  intro i n hi
  rw [List.getElem?_take] at hi
  split at hi
  ·have hiz:=(List.getElem?_eq_some_iff.1 hi).1
   have:=hcell i hiz
   rw [add_plain] at this
   rw [this]
   simp [List.getD,hi]
  ·cases hi
theorem memoTwice_row_holds:Rows.MemoTwiceSaid :=
 OpenClaim.holds_of_wide 6 Tryz.f6 rfl rfl rfl rfl rfl rfl rfl ⟨rfl,rfl,rfl,rfl,rfl⟩ rfl rfl rfl rfl rfl (by kernel_rfl) Tryz.func6 (by kernel_rfl)
  (of_decide_eq_true (by kernel_rfl)) (by unfold Func.isWrapper;first|(rw [if_pos (by decide +kernel)];kernel_rfl)|(rw [if_neg (by decide +kernel)];exact⟨rfl,rfl⟩))
  (fun os started H enc _=>memoTwice_lifted os started H enc)
theorem memoTwice_card_holds:Rows.MemoTwiceCardSaid :=
 Claim7.holds_tied_plain_at .later [] [.data] true (true, "44175e459403432bf9b3a4cffdb1464b95cd22eb23e767d434b1516b06f07d7c") true
  memoTwice_row_holds (fun _ h=>by cases h) (by kernel_rfl) (fun _ h=>by cases h) memoTwice_row_tie rfl ⟨rfl,rfl⟩ (by kernel_rfl) rfl
  (fun f fn hf hfn=>by
   obtain rfl:f=6:=Option.some.inj ((show Tryz.prog.funcNamed Tryz.f6.name=some 6 by kernel_rfl).symm.trans hf) |>.symm
   obtain rfl:fn=Tryz.f6:=(Option.some.inj (Tryz.func6.symm.trans hfn)).symm
   exact⟨by kernel_rfl,fun j t ht=>by
    rw [Tryz.params6] at ht
    have hm:t∈[22]:=by simpa using Array.mem_of_getElem? ht
    have hall:([22].all fun u => !Tryz.prog.wantsStandIn u)=true:=by kernel_rfl
    exact (show Tryz.prog.wantsStandIn t=false by simpa using List.all_eq_true.1 hall t hm)⟩)
  (by kernel_rfl)
#print axioms memoTwice_card_holds
end Go.Proofs.YtodjpfpmhjdhbaaGreatDoor
