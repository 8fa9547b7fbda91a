/- The card of the law. -/
import Derived.Test.YtmkajedkflhbgaaGreatDoorIY
import Derived.Test.YtmkajedkflhbgaaGreatDoorIFf
import Derived.Test.YtmkajedkflhbgaaGreatDoorIFg
import Derived.Test.YtmkajedkflhbgaaGreatDoorIFh
import Derived.Test.YtmkajedkflhbgaaGreatDoorIFi
import Derived.Test.YtmkajedkflhbgaaGreatDoorIC10
set_option linter.all false
namespace Go.Proofs.YtmkajedkflhbgaaGreatDoor
open Go Go.Lg Go.ChangeShapes Go.WideShapes Go.ChangeAt Go.WideMaps Go.WideElems Go.RowKit
set_option maxRecDepth 100000
theorem CB {a b:Bool} (h:a=true) (k:b=true):(a && b)=true:=by rw [h,k];rfl
theorem Mw:joinedFacts Tryz.pinned.checked.prog 3 Tryz.f3 Rows.extractInlineSpec Rows.extractInlineRow=true:=CB (CB (CB (CB (CB (CB (CB (CB (CB (CB (CB (CB (CB (CB (CB (CB (CB (CB (CB (CB (CB (CB (CB (CB (CB (CB (CB (CB (CB (CB (CB Ev Fv) Gv) Hv) Iv) Jv) Kv) Lv) Mv) Nv) Ov) Pv) Qv) Rv) Sv) Tv) Uv) Vv) Wv) Xv) Yv) Zv) qw) zw) jw) ww) kw) yw) uw) bw) dw) fw
theorem Ch (L:List Int) (h:∀ z∈L,-9223372036854775808<=z/\z<=9223372036854775807):AC Tryz.prog gl 3 [.pv (.slice (tU L))] [] (.ret (.pv (.bool true))) []:=Ym a4 h
theorem Nw {n:Int} (h:(Lit.int .i64 n).wf=true) : -9223372036854775808<=n/\n<=9223372036854775807:=by
 simp [Lit.wf,IntKind.min,IntKind.max,IntKind.signed,IntKind.bits] at h;omega
theorem Ow (os:Os) (started:os.Started) (H:Type) (enc:TypeId × Value->H) :
  ReturnsInHanded {} Tryz.checked os 3 .any (λ w args=>(Rows.extractInlineSpec.pre enc Tryz.prog Tryz.f3 [] false w args/\laidMetH Tryz.prog dJ w)/\sizedMet enc Tryz.prog Tryz.f3 (OpenSpec.ofChange Rows.extractInlineSpec) false w args)
   (Rows.extractInlineSpec.post enc Tryz.prog Tryz.f3 false true false false):=by
 refine returnsInHanded_of_change_and (C:=Tryz.checked) (X:=λ w _=>laidMetH Tryz.prog dJ w) (λ _ _ _ hh h=>h.of_heap hh) own started (by kernel_rfl) Tryz.func3
  (ChangeSpec.witness_shaped (enc:=enc) (C:=Tryz.checked) (os:=os) (X:=λ w _=>laidMetH Tryz.prog dJ w) false (World.doorLaid Tryz.prog 400 os) #[.slice none 0 0] 8 rfl (World.shaped_of_RefB (by kernel_rfl) (by kernel_rfl)) (by kernel_rfl) (by kernel_rfl) (by kernel_rfl) (Lw os _)) ?_
 intro W base args ds gs before hval0 hW _ _ hL _;have hval:∀ (j:Nat) t v,Tryz.f3.params[j]? = some t->args[j]? = some v->Value.okWide Tryz.prog W .any base t v:=hval0;have hW':=hW;obtain⟨p,q,hA0,hV,rfl,hfz,hnd⟩:=hW;have hA:DataW.TrodAll enc Tryz.prog W 0 (λ _=>true) true Tryz.f3.params.toList args.toList ds p:=hA0;rw [Tryz.params3] at hA hval;obtain⟨v0,d0,rfl,rfl,h0⟩:=trodAll_one hA;obtain⟨rfl,rfl⟩:=trodVars_none hV;obtain⟨a0,len,cap,rfl⟩:=okWide_slice Tryz.underlying22 (hval 0 22 v0 rfl rfl);have h0k:=h0;obtain⟨fuel,hf⟩:=h0;have hv0:=hval 0 22 _ rfl rfl;clear hA0 hval0 hval;simp only [List.append_nil] at hW';have hlt:∀ x∈p,x.block<W.heap.size:=λ x hx=>by simpa using hW'.lt x hx
 have hargs:∀ (W':World),Below W.heap.size W W'->DataW.Trod enc Tryz.prog W' 0 (λ b=>decide (b<W.heap.size)) true 22 (.slice a0 len cap) d0 p :=
  λ W' hn=>Below.trod xw (by kernel_rfl) (of_decide_eq_true (by kernel_rfl)) h0k hn hlt
 have close:(Calls Tryz.prog 3 #[.slice a0 len cap] W λ e W'=>e = .returned (.bool true)/\Below W.heap.size W W')->Calls Tryz.checked.prog 3 #[.slice a0 len cap] W λ e W' => ∃ v,e = .returned v/\Rows.extractInlineSpec.post enc Tryz.checked.prog Tryz.f3 false true false false W #[.slice a0 len cap] v W':=by
  intro h;refine Calls.mono h ?_
  rintro e W' ⟨rfl,hb⟩
  refine⟨_,rfl,[d0],[],p,[],p,[],hW',?_,?_,rfl,hb.frame _,nofun⟩
  ·exact trodAll_mk1 (shut_bool Tryz.underlying4 _)
  ·exact trodAll_mk1 (hargs _ hb)
 refine close ?_;rcases open_ints Tryz.underlying22 Tryz.underlying3 c3 hf with ⟨hcs,hx⟩|⟨a,len',cap',zs,hcs,_,hl,hm,hz,hx,hcell,hwz⟩
 ·simp [Value.cells] at hcs;obtain⟨rfl,rfl,rfl⟩:=hcs;exact Bh Ch hL [] rfl (by omega) (by omega) (λ z hz=>by cases hz) (.inl rfl)
 ·simp [Value.cells] at hcs;obtain⟨rfl,rfl,rfl⟩:=hcs;simp only [if_true] at hz;have hsp:a.spot=none:=by
   simp only [Value.okWide,Tryz.underlying22,Cell.okWide,Cell.ok,World.has] at hv0;exact hv0.2.2.2.1
  obtain⟨b,off,spot⟩:=a;simp only at hsp;subst hsp;refine Bh Ch hL (zs.take len) (by simp;omega) hl (by omega) (λ z hz=>Nw (hwz z (List.mem_of_mem_take hz))) (.inr ⟨b,off,rfl,?_⟩);intro i n hi;rw [List.getElem?_take] at hi;split at hi
  ·have hiz:=(List.getElem?_eq_some_iff.1 hi).1;have:=hcell i hiz;rw [add_plain] at this;rw [this];simp [List.getD,hi]
  ·cases hi
theorem extractInline_row_holds:Rows.ExtractInlineSaid :=
 OpenClaim.holds_of_wide 3 Tryz.f3 rfl rfl rfl rfl rfl rfl rfl ⟨rfl,rfl,rfl,rfl,rfl⟩ rfl rfl rfl rfl rfl lw Tryz.func3 Mw mw pw
  (λ os started H enc _=>Ow os started H enc)
theorem extractInline_card_holds:Rows.ExtractInlineCardSaid :=
 Claim7.holds_tied_plain_at .later [] [.data, .data, .data] true (true, "fa39dcdd40a2cd0c4d5af7515f1a4a4df5d2c394a3b94179b420ffcf09a11c12") false
  extractInline_row_holds (λ _ h=>by cases h) tw (λ _ h=>by cases h) extractInline_row_tie rfl ⟨rfl,rfl⟩ aw rfl
  (λ f fn hf hfn=>by
   obtain rfl:f=3:=Option.some.inj (u_fn.symm.trans hf) |>.symm;obtain rfl:fn=Tryz.f3:=(Option.some.inj (Tryz.func3.symm.trans hfn)).symm;exact⟨iw,λ j t ht=>by
    rw [Tryz.params3] at ht;have hm:t∈[22]:=by simpa using Array.mem_of_getElem? ht
    exact (show Tryz.prog.wantsStandIn t=false by simpa using List.all_eq_true.1 ow t hm)⟩)
  cw
#print axioms extractInline_card_holds
end Go.Proofs.YtmkajedkflhbgaaGreatDoor
