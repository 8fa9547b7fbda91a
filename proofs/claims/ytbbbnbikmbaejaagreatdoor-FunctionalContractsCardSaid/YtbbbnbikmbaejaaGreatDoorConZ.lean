/- The card of the law. -/
import Derived.Test.YtbbbnbikmbaejaaGreatDoorConY
import Derived.Test.YtbbbnbikmbaejaaGreatDoorConFf
import Derived.Test.YtbbbnbikmbaejaaGreatDoorConFg
import Derived.Test.YtbbbnbikmbaejaaGreatDoorConFh
import Derived.Test.YtbbbnbikmbaejaaGreatDoorConFi
import Derived.Test.YtbbbnbikmbaejaaGreatDoorConC6
set_option linter.all false
namespace Go.Proofs.YtbbbnbikmbaejaaGreatDoor
open Go Go.Lg Go.ChangeShapes Go.WideShapes Go.ChangeAt Go.WideMaps Go.WideElems Go.RowKit
set_option maxRecDepth 100000
theorem an2 {a b:Bool} (h:a=true) (k:b=true):(a && b)=true:=by rw [h,k];rfl
theorem qTk:joinedFacts Tryz.pinned.checked.prog 3 Tryz.f3 Rows.functionalContractsSpec Rows.functionalContractsRow=true:=an2 (an2 (an2 (an2 (an2 (an2 (an2 (an2 (an2 (an2 (an2 (an2 (an2 (an2 (an2 (an2 (an2 (an2 (an2 (an2 (an2 (an2 (an2 (an2 (an2 (an2 (an2 (an2 (an2 (an2 (an2 jf0 jf1) jf2) jf3) jf4) jf5) jf6) jf7) jf8) jf9) zF1) zF2) zF3) zF4) zF5) zF6) zF7) zF8) zF9) zGa) zGb) zGc) zGd) zGe) zGf) zGg) zGh) zGi) zGj) zGk) zGl) zGm
theorem zQb {x y:Int} (hx:0≤x∧x≤255) (hy:0≤y∧y≤255) (L:List Int) (h:∀ z∈L,-9223372036854775808≤z∧z≤9223372036854775807):AC Tryz.prog gl 3 [.pv (.slice (zcs L)),.pv (.num .u8 x),.pv (.num .u8 y)] [] (.ret (.pv (.bool true))) []:=by
 obtain⟨k,rfl⟩:=Int.eq_ofNat_of_zero_le hx.1
 obtain⟨l,rfl⟩:=Int.eq_ofNat_of_zero_le hy.1
 exact zVd h (by omega) (by omega)
theorem zX1 {n:Int} (h:(Lit.int .i64 n).wf=true) : -9223372036854775808≤n∧n≤9223372036854775807:=by
 simp [Lit.wf,IntKind.min,IntKind.max,IntKind.signed,IntKind.bits] at h
 omega
theorem qJm (os:Os) (started:os.Started) (H:Type) (enc:TypeId × Value→H) :
  ReturnsInHanded {} Tryz.checked os 3 .any (fun w args=>(Rows.functionalContractsSpec.pre enc Tryz.prog Tryz.f3 [] false w args∧laidMetH Tryz.prog qDh w)∧sizedMet enc Tryz.prog Tryz.f3 (OpenSpec.ofChange Rows.functionalContractsSpec) false w args)
   (Rows.functionalContractsSpec.post enc Tryz.prog Tryz.f3 false true false false):=by
 refine returnsInHanded_of_change_and (C:=Tryz.checked) (X:=fun w _=>laidMetH Tryz.prog qDh w) (fun _ _ _ hh h=>h.of_heap hh) own started (by kernel_rfl) Tryz.func3
  (ChangeSpec.witness_shaped (enc:=enc) (C:=Tryz.checked) (os:=os) (X:=fun w _=>laidMetH Tryz.prog qDh w) false (World.doorLaid Tryz.prog 400 os) #[.slice none 0 0,.int .u8 0,.int .u8 0] 8 rfl (World.shaped_of_RefB (by kernel_rfl) (by kernel_rfl)) (by kernel_rfl) (by kernel_rfl) (by kernel_rfl) (qTj os _)) ?_
 intro W base args ds gs before hval0 hW _ _ hL _
 have hval:∀ (j:Nat) t v,Tryz.f3.params[j]? = some t→args[j]? = some v→Value.okWide Tryz.prog W .any base t v:=hval0
 have hW':=hW
 obtain⟨p,q,hA0,hV,rfl,hfz,hnd⟩:=hW
 have hA:DataW.TrodAll enc Tryz.prog W 0 (fun _=>true) true Tryz.f3.params.toList args.toList ds p:=hA0
 rw [Tryz.params3] at hA hval
 obtain⟨v0,v1,v2,d0,d1,d2,p,p1,p2,rfl,rfl,rfl,h0,h1,h2⟩:=trodAll_three hA
 obtain⟨x,rfl,rfl,rfl,ux⟩:=open_int Tryz.underlying5 (hval 1 5 v1 rfl rfl) h1
 obtain⟨y,rfl,rfl,rfl,uy⟩:=open_int Tryz.underlying5 (hval 2 5 v2 rfl rfl) h2
 obtain⟨rfl,rfl⟩:=trodVars_none hV
 obtain⟨a0,len,cap,rfl⟩:=okWide_slice Tryz.underlying22 (hval 0 22 v0 rfl rfl)
 have h0k:=h0
 obtain⟨fuel,hf⟩:=h0
 have hv0:=hval 0 22 _ rfl rfl
 clear hA0 hval0 hval
 simp only [List.append_nil] at hW'
 have hlt:∀ x∈p,x.block<W.heap.size:=fun x hx=>by simpa using hW'.lt x hx
 have hargs:∀ (W':World),Below W.heap.size W W'→DataW.Trod enc Tryz.prog W' 0 (fun b=>decide (b<W.heap.size)) true 22 (.slice a0 len cap) d0 p :=
  fun W' hn=>Below.trod zVi (by kernel_rfl) (of_decide_eq_true (by kernel_rfl)) h0k hn hlt
 have close:(Calls Tryz.prog 3 #[.slice a0 len cap,.int .u8 x,.int .u8 y] W fun e W'=>e = .returned (.bool true)∧Below W.heap.size W W')→Calls Tryz.checked.prog 3 #[.slice a0 len cap,.int .u8 x,.int .u8 y] W fun e W' => ∃ v,e = .returned v∧Rows.functionalContractsSpec.post enc Tryz.checked.prog Tryz.f3 false true false false W #[.slice a0 len cap,.int .u8 x,.int .u8 y] v W':=by
  intro h
  refine Calls.mono h ?_
  rintro e W' ⟨rfl,hb⟩
  refine⟨_,rfl,[d0,.lit (.int .u8 x),.lit (.int .u8 y)],[],p,[],p,[],hW',?_,?_,rfl,hb.frame _,nofun⟩
  ·exact trodAll_mk1 (shut_bool Tryz.underlying4 _)
  ·have hk:=trodAll_mk3 (hargs _ hb) (shut_int Tryz.underlying5 ux) (shut_int Tryz.underlying5 uy)
   simp only [List.append_nil] at hk
   exact hk
 refine close ?_
 rcases open_ints Tryz.underlying22 Tryz.underlying3 c3 hf with ⟨hcs,hx⟩|⟨a,len',cap',zs,hcs,_,hl,hm,hz,hx,hcell,hwz⟩
 ·simp [Value.cells] at hcs
  obtain⟨rfl,rfl,rfl⟩:=hcs
  exact qPd (zQb (bounds_u8 ux) (bounds_u8 uy)) hL [] rfl (by omega) (by omega) (fun z hz=>by cases hz) (.inl rfl)
 ·simp [Value.cells] at hcs
  obtain⟨rfl,rfl,rfl⟩:=hcs
  simp only [if_true] at hz
  have hsp:a.spot=none:=by
   simp only [Value.okWide,Tryz.underlying22,Cell.okWide,Cell.ok,World.has] at hv0
   exact hv0.2.2.2.1
  obtain⟨b,off,spot⟩:=a
  simp only at hsp
  subst hsp
  refine qPd (zQb (bounds_u8 ux) (bounds_u8 uy)) hL (zs.take len) (by simp;omega) hl (by omega) (fun z hz=>zX1 (hwz z (List.mem_of_mem_take hz))) (.inr ⟨b,off,rfl,?_⟩)
  intro i n hi
  rw [List.getElem?_take] at hi
  split at hi
  ·have hiz:=(List.getElem?_eq_some_iff.1 hi).1
   have:=hcell i hiz
   rw [add_plain] at this
   rw [this]
   simp [List.getD,hi]
  ·cases hi
theorem functionalContracts_row_holds:Rows.FunctionalContractsSaid :=
 OpenClaim.holds_of_wide 3 Tryz.f3 rfl rfl rfl rfl rfl rfl rfl ⟨rfl,rfl,rfl,rfl,rfl⟩ rfl rfl rfl rfl rfl zXu Tryz.func3 qTk zXv zXw
  (fun os started H enc _=>qJm os started H enc)
theorem functionalContracts_card_holds:Rows.FunctionalContractsCardSaid :=
 Claim7.holds_tied_plain_at .later [] [.data, .data, .data] true (true, "398905feb8773d58a5fe93307d06a748ba4af7ab3ae3b788827cb867f20fba44") true
  functionalContracts_row_holds (fun _ h=>by cases h) zXx (fun _ h=>by cases h) functionalContracts_row_tie rfl ⟨rfl,rfl⟩ zXy rfl
  (fun f fn hf hfn=>by
   obtain rfl:f=3:=Option.some.inj (u_fn.symm.trans hf) |>.symm
   obtain rfl:fn=Tryz.f3:=(Option.some.inj (Tryz.func3.symm.trans hfn)).symm
   exact⟨zVg,fun j t ht=>by
    rw [Tryz.params3] at ht
    have hm:t∈[22,5,5]:=by simpa using Array.mem_of_getElem? ht
    exact (show Tryz.prog.wantsStandIn t=false by simpa using List.all_eq_true.1 zVh t hm)⟩)
  zXz
#print axioms functionalContracts_card_holds
end Go.Proofs.YtbbbnbikmbaejaaGreatDoor
