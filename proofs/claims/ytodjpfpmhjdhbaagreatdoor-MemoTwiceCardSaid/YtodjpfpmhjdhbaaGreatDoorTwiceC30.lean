/- Contracts of functions; no conditions. -/
import Derived.Test.YtodjpfpmhjdhbaaGreatDoorTwiceC29
import Derived.Test.YtodjpfpmhjdhbaaGreatDoorTwiceC27
import Derived.Test.YtodjpfpmhjdhbaaGreatDoorTwiceC26
set_option linter.all false
namespace Go.Proofs.YtodjpfpmhjdhbaaGreatDoor
open Go.Lg
set_option maxRecDepth 10000
set_option maxHeartbeats 4000000
theorem many6 (h1:AC Tryz.prog gl 20 [] [] (.ret (.pv (.bool true))) []) (L:List Int) (hL:¬ L.length≤500):AC Tryz.prog gl 6 [.pv (.slice (ints L))] [] (.ret (.pv (.bool true))) []:=by
 have h2:=few_ok L
 have e:decide (L.length≤500)=false:=by simp [hL]
 rw [e] at h2
 generalize ints L=cc at *
 refine body [] Tryz.func6 Tryz.ntmps6 ?_
 refine gg ?_
 refine call h1 ?_
 refine gg ?_
 refine call h2 ?_
 refine gg ?_
 refine call h1 ?_
 refine gg ?_
 exact⟨by simp [retIs,resV,resL,resOne,mkTup,getS,getO,rdV,mkAgg,unL,V.un,TI.isAgg,XX_T,tt41,Tryz.f6],by simp [subO,getO,tt41,Tryz.f6]⟩
theorem shape_valC {B:Nat} {r:Rs} {t:Ty} (h:RsT B r t) (hp:t.plain):∃ k m s q,valC r=[.int k,.int m,s,q]∧s.one=true∧q.one=true:=by
 rcases plain_cases hp with hb|⟨s,hb,rfl⟩
 ·obtain⟨k,n,s,e,o⟩:=valC_shape h hb
  exact⟨k,n,s,.nils,e,o,rfl⟩
 ·cases h with
  | pair ha hb'=>exact⟨_,_,_,_,rfl,rfl,rfl⟩
theorem eval_ends {tm:Tm} {τ:Ty} (hd:Datum tm τ):(∃ e:Int,(e=4∨e=5)∧AC Tryz.prog gl 12 [.pv (.agg tm.cells),.pv (.int 20000)] [] (.ret (.pv (.tuple [.agg [.int 0,.int 0,.nils,.nils],.int 0,.int e]))) []) ∨
  ∃ (r:Rs) (u:Nat),Ev (.ev [] tm) r∧RsT 60000 r τ∧AC Tryz.prog gl 12 [.pv (.agg tm.cells),.pv (.int 20000)] [] (.ret (.pv (.tuple [.agg (valC r),.int u,.int 0]))) []:=by
 have hz:=hd.size
 rcases typeof_all hd.ty hd.wf (by omega) with hT|hT
 ·rcases eval_all (most:=20000) (by omega) 20000 0 0 (by omega) (by omega) (by omega) [] tm τ [] hd.ty ⟨rfl,by intro i r s h;simp at h⟩ (by simp;omega) with ⟨r,hE⟩|⟨r,u,h1,h2,h3,h4,hE⟩
  ·refine .inl ⟨5,.inr rfl,?_⟩
   exact eval_of tm 20000 _ _ _ ⟨_,_,_,_,rfl,rfl,rfl⟩ (call_out tm τ 20000 (by omega) r hT (tdata_ok τ hd.plain) hE)
  ·have hr:RsT 60000 r τ:=h2.mono (by omega)
   refine .inr ⟨r,u,h1,hr,?_⟩
   exact eval_of tm 20000 _ _ _ (shape_valC hr hd.plain) (call_fine (by omega) tm τ 20000 u (by omega) r hr hd.plain hT hE (shape_valC hr hd.plain))
 ·refine .inl ⟨4,.inl rfl,?_⟩
  exact eval_of tm 20000 _ _ _ ⟨_,_,_,_,rfl,rfl,rfl⟩ (call_terr tm 20000 hT)
theorem law_twice (L:List Int):AC Tryz.prog gl 6 [.pv (.slice (ints L))] [] (.ret (.pv (.bool true))) []:=by
 by_cases hL:L.length≤500
 ·obtain⟨b,a1,hg,hS⟩:=step_two L hL 0
  have hN:=next_ok L a1 5 hL (by omega)
  have hn:=nxv_lt L a1 5 (by omega)
  generalize nxv L a1 5=n at *
  generalize nxa L a1 5=a2 at *
  have hd:=two_datum (n:=n) (by omega) hg
  have hz:=hd.size
  have h5:=compile_ok (twoT n b) hd.wf (by omega)
  by_cases hc:(finC (twoT n b)).code.length≤4096
  ·rw [if_pos hc,if_pos hc] at h5
   rcases eval_ends hd with ⟨e,he,h6⟩|⟨r,u,hv,hr,h6⟩
   ·exact tfails awake39_ok L hL n (by omega) b a1 a2 hS hN _ h5 e he h6
   ·rcases end33 hd hc hv hr with ⟨e,he,h7⟩|⟨j,m,h,rfl,hj,hmh,h7⟩
    ·exact trfails awake39_ok L hL n (by omega) b a1 a2 hS hN _ h5 _ _ (shape_valC hr hd.plain) h6 e (by omega) h7
    ·exact tfine awake39_ok L hL n (by omega) b a1 a2 hS hN _ h5 u j hj h6 m h hmh h7
  ·rw [if_neg hc,if_neg hc] at h5
   rcases eval_ends hd with ⟨e,he,h6⟩|⟨r,u,hv,hr,h6⟩
   ·exact tlong awake39_ok L hL n (by omega) b a1 a2 hS hN h5 _ _ _ ⟨_,_,_,_,rfl,rfl,rfl⟩ h6
   ·exact tlong awake39_ok L hL n (by omega) b a1 a2 hS hN h5 _ _ _ (shape_valC hr hd.plain) h6
 ·exact many6 awake39_ok L hL
end Go.Proofs.YtodjpfpmhjdhbaaGreatDoor
