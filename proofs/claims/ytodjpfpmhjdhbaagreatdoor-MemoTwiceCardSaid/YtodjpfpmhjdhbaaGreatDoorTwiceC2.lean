/- Contracts of functions; no conditions. -/
import Derived.Test.YtodjpfpmhjdhbaaGreatDoorTwiceC1
set_option linter.all false
namespace Go.Proofs.YtodjpfpmhjdhbaaGreatDoor
open Go.Lg
theorem enC2 {P Q : Prop} (h : P := by simp [retIs,resV,resL,resOne,mkTup,getS,getO,rdV,mkAgg,unL,V.un,TI.isAgg,XX_T,tt30,Tryz.f75,Tryz.f109,Tryz.f80,Tryz.f38,Tryz.f61,tt36,Tryz.f26,Tryz.f106,Tryz.f107,Tryz.f108,Tryz.f78,Tryz.f79,Tryz.f77,Tryz.f62,Tryz.f27,Tryz.f10,tt27,Tryz.f73]) (k : Q := by simp [subO,getO,tt30,Tryz.f75,Tryz.f109,Tryz.f80,Tryz.f38,Tryz.f61,tt36,Tryz.f26,Tryz.f106,Tryz.f107,Tryz.f108,Tryz.f78,Tryz.f79,Tryz.f77,Tryz.f62,Tryz.f27,Tryz.f10,tt27,Tryz.f73]) : P ∧ Q := ⟨h,k⟩
end Go.Proofs.YtodjpfpmhjdhbaaGreatDoor
namespace Go.Proofs.YtodjpfpmhjdhbaaGreatDoor
open Go.Lg
set_option maxRecDepth 10000
inductive Tm where
 | var (i:Nat)
 | lam (s:Ty) (b:Tm)
 | app (f a:Tm)
 | zero
 | succ (a:Tm)
 | recn (s:Ty) (a b c:Tm)
 | nil
 | cons (a b:Tm)
 | fold (s:Ty) (a b c:Tm)
 | pair (a b:Tm)
 | fst (a:Tm)
 | snd (a:Tm)
 | unit
namespace Tm
def kind:Tm→Int
 | var _=>1|lam _ _=>2|app _ _=>3|zero=>4|succ _=>5|recn _ _ _ _=>6|nil=>7|cons _ _=>8|fold _ _ _ _=>9|pair _ _=>10|fst _=>11|snd _=>12|unit=>13
def idx:Tm→Int
 | var i=>i|_=>0
def ty:Tm→Ty
 | lam s _=>s|recn s _ _ _=>s|fold s _ _ _=>s|_ => .zero
def args:Tm→List Tm
 | lam _ b=>[b]|app f a=>[f,a]|succ a=>[a]|recn _ a b c=>[a,b,c]|cons a b=>[a,b]|fold _ a b c=>[a,b,c]|pair a b=>[a,b]|fst a=>[a]|snd a=>[a]|_=>[]
def node (k i:Int) (s:Ty) (l:List (List PV)):List PV:=[.int k,.int i,.int s.kind,.slice (s.args.map Ty.cells),.slice l]
def cells:Tm→List PV
 | var i=>node 1 i .zero []
 | lam s b=>node 2 0 s [b.cells]
 | app f a=>node 3 0 .zero [f.cells,a.cells]
 | zero=>node 4 0 .zero []
 | succ a=>node 5 0 .zero [a.cells]
 | recn s a b c=>node 6 0 s [a.cells,b.cells,c.cells]
 | nil=>node 7 0 .zero []
 | cons a b=>node 8 0 .zero [a.cells,b.cells]
 | fold s a b c=>node 9 0 s [a.cells,b.cells,c.cells]
 | pair a b=>node 10 0 .zero [a.cells,b.cells]
 | fst a=>node 11 0 .zero [a.cells]
 | snd a=>node 12 0 .zero [a.cells]
 | unit=>node 13 0 .zero []
theorem cells_eq (t:Tm):t.cells=[.int t.kind,.int t.idx,.int t.ty.kind,.slice (t.ty.args.map Ty.cells),.slice (t.args.map Tm.cells)]:=by cases t<;>rfl
theorem ind {P:Tm→Prop} (h:∀ t,(∀ a∈t.args,P a)→P t) (t:Tm):P t:=by
 induction t with
 | _=>exact h _ (by simp_all [args])
theorem args_le (t:Tm):t.args.length≤3:=by cases t<;>simp [args]
theorem cells_len (t:Tm):t.cells.length=5:=by cases t<;>rfl
theorem all_len (l:List Tm):∀ y∈l.map Tm.cells,y.length=5:=by
 intro y hy
 obtain⟨t,_,rfl⟩:=List.mem_map.1 hy
 exact t.cells_len
end Tm
theorem one_ty (s:Ty):∀ x∈s.cells,x.one=true:=by cases s<;>simp [Ty.cells,PV.one]
theorem one_tm (s:Tm):∀ x∈s.cells,x.one=true:=by cases s<;>simp [Tm.cells,Tm.node,PV.one]
theorem tcopy_ok (t:Tm):AC Tryz.prog gl 105 [.pv (.agg t.cells)] [] (.ret (.pv (.agg t.cells))) []:=by
 induction t using Tm.ind with
 | _ t ih =>
  refine body [(3,.arr 3 5 30)] Tryz.func105 Tryz.ntmps105 ?_
  rw [Tm.cells_eq]
  refine gg ?_
  refine AWP.loopN t.args.length (fun k=>⟨[(1,.pv (.ptr [.int t.kind,.int t.idx,.int t.ty.kind,.slice (t.ty.args.map Ty.cells),.slice (t.args.map Tm.cells)])),(2,.loc 2 0),(3,.arr 3 k k),(7,.pv (.slice (t.args.map Tm.cells))),(8,.pv (.int t.args.length)),(9,.pv (.int k))],
   [(2,.box [.pv (.int 0),.pv (.int 0),.pv (.int 0),.pv (.slice []),.pv (.slice [])]),(3,.arr k 5 30 (pvE ((t.args.take k).map Tm.cells)))],[2,3]⟩) ⟨by simp [slotsLe,getS,pvE],by simp [subO,getO,pvE],by simp [subL,namesSl,V.names,namesOb,Ob.names,namesL,namesE,namesE_pvE,XX_given,pvE]⟩ ?_
  intro k hk
  have hl:=t.args_le
  refine gg ?_
  refine cd ?_
  refine caseB_dec (fun h => ?_) (fun h => ?_)
  ·obtain⟨a,hka⟩:∃ a,t.args[k]? = some a:=⟨_,List.getElem?_eq_getElem (by omega)⟩
   have hget:=getD_map (f:=Tm.cells) (d:=[]) hka
   have hsn:=take_snoc hka
   have this:=ih a (List.mem_of_getElem? hka)
   clear ih hka
   rw [Tm.cells_eq] at hget this
   refine gg ?_
   (refine ev ?_ ?_;simp only [buildC,and_true,true_and,implies_true,true_implies,and_self])
   ·exact⟨by omega,by simpa using h,Tm.all_len _⟩
   refine gg ?_
   refine call this ?_
   refine gg ?_
   exact⟨by omega,⟨by simp [slotsLe,getS,hsn,Tm.cells_eq,List.take_take],by simp [subO,getO,hsn,Tm.cells_eq,List.take_take],by simp [subL,namesSl,V.names,namesOb,Ob.names,namesL,namesE,namesE_pvE,XX_given,hsn,Tm.cells_eq,List.take_take]⟩⟩
  ·(repeat (first|with_reducible refine ex_exit ?_|with_reducible refine q_exit ?_|with_reducible refine b_same ?_|refine b_other rfl ?_|with_reducible refine b_normal ?_|with_reducible refine q_normal ?_|with_reducible refine ex_skip ?_))
   refine frz 3 ?_
   have hkk:k=t.args.length:=by omega
   subst hkk
   have e:(t.args.map Tm.cells).take t.args.length=t.args.map Tm.cells:=by rw [← List.map_take,List.take_length]
   have hc:=copy_ok t.ty
   rw [Ty.cells_eq] at hc
   refine gg ?_
   refine call hc ?_
   refine gg ?_
   refine⟨by rfl,?_⟩
   refine gg ?_
   exact⟨by simp [retIs,resV,resL,resOne,mkTup,getS,getO,rdV,mkAgg,unL,V.un,TI.isAgg,XX_T,tt30,Tryz.f105,e],by simp [subO,getO,tt30,Tryz.f105,e]⟩
theorem var_ok (i:Nat):AC Tryz.prog gl 72 [.pv (.int i)] [] (.ret (.pv (.agg (Tm.var i).cells))) []:=by
 refine body [] Tryz.func72 Tryz.ntmps72 ?_
 refine gg ?_
 exact⟨by simp [retIs,resV,resL,resOne,mkTup,getS,getO,rdV,mkAgg,unL,V.un,TI.isAgg,XX_T,tt30,Tryz.f72,Tm.cells,Tm.node,Ty.kind,Ty.args],by simp [subO,getO,tt30,Tryz.f72,Tm.cells,Tm.node,Ty.kind,Ty.args]⟩
theorem nraw_ok (k0:Int) (l:List Tm) (hl:l.length≤3):AC Tryz.prog gl 74 [.pv (.int k0),.pv (.slice (l.map Tm.cells))] [] (.ret (.pv (.agg [.int k0,.int 0,.int 0,.slice [],.slice (l.map Tm.cells)]))) []:=by
 refine body [(5,.arr 5 5 30)] Tryz.func74 Tryz.ntmps74 ?_
 refine gg ?_
 refine AWP.loopN l.length (fun k=>⟨[(0,.pv (.int k0)),(4,.loc 4 0),(5,.arr 5 k k),(8,.pv (.slice (l.map Tm.cells))),(9,.pv (.int l.length)),(10,.pv (.int k))],
   [(4,.box [.pv (.int 0),.pv (.int 0),.pv (.int 0),.pv (.slice []),.pv (.slice [])]),(5,.arr k 5 30 (pvE ((l.take k).map Tm.cells)))],[4,5]⟩) ⟨by simp [slotsLe,getS,pvE],by simp [subO,getO,pvE],by simp [subL,namesSl,V.names,namesOb,Ob.names,namesL,namesE,namesE_pvE,XX_given,pvE]⟩ ?_
 intro k hk
 refine gg ?_
 refine cd ?_
 refine caseB_dec (fun h => ?_) (fun h => ?_)
 ·obtain⟨a,hka⟩:∃ a,l[k]? = some a:=⟨_,List.getElem?_eq_getElem (by omega)⟩
  have hget:=getD_map (f:=Tm.cells) (d:=[]) hka
  have hsn:=take_snoc hka
  have this:=tcopy_ok a
  clear hka
  rw [Tm.cells_eq] at hget this
  refine gg ?_
  (refine ev ?_ ?_;simp only [buildC,and_true,true_and,implies_true,true_implies,and_self])
  ·exact⟨by omega,by simpa using h,Tm.all_len _⟩
  refine gg ?_
  refine call this ?_
  refine gg ?_
  exact⟨by omega,⟨by simp [slotsLe,getS,hsn,Tm.cells_eq,List.take_take],by simp [subO,getO,hsn,Tm.cells_eq,List.take_take],by simp [subL,namesSl,V.names,namesOb,Ob.names,namesL,namesE,namesE_pvE,XX_given,hsn,Tm.cells_eq,List.take_take]⟩⟩
 ·(repeat (first|with_reducible refine ex_exit ?_|with_reducible refine q_exit ?_|with_reducible refine b_same ?_|refine b_other rfl ?_|with_reducible refine b_normal ?_|with_reducible refine q_normal ?_|with_reducible refine ex_skip ?_))
  refine frz 5 ?_
  have hkk:k=l.length:=by omega
  subst hkk
  have e:(l.map Tm.cells).take l.length=l.map Tm.cells:=by rw [← List.map_take,List.take_length]
  refine gg ?_
  exact⟨by simp [retIs,resV,resL,resOne,mkTup,getS,getO,rdV,mkAgg,unL,V.un,TI.isAgg,XX_T,tt30,Tryz.f74,e],by simp [subO,getO,tt30,Tryz.f74,e]⟩
theorem nn_ok (t:Tm) (h0:t.idx=0) (hz:t.ty = .zero):AC Tryz.prog gl 74 [.pv (.int t.kind),.pv (.slice (t.args.map Tm.cells))] [] (.ret (.pv (.agg t.cells))) []:=by
 have hc:t.cells=[.int t.kind,.int 0,.int 0,.slice [],.slice (t.args.map Tm.cells)]:=by rw [Tm.cells_eq,h0,hz];rfl
 rw [hc]
 exact nraw_ok _ _ t.args_le
theorem tn_ok (t:Tm) (h0:t.idx=0):AC Tryz.prog gl 75 [.pv (.int t.kind),.pv (.agg t.ty.cells),.pv (.slice (t.args.map Tm.cells))] [] (.ret (.pv (.agg t.cells))) []:=by
 have h1:=nraw_ok t.kind t.args t.args_le
 have h2:=copy_ok t.ty
 rw [Tm.cells_eq,h0]
 rw [Ty.cells_eq] at h2 ⊢
 clear h0
 refine body [] Tryz.func75 Tryz.ntmps75 ?_
 refine gg ?_
 refine call h1 ?_
 refine gg ?_
 refine call h2 ?_
 refine gg ?_
 exact enC2
def Tm.size:Tm→Nat
 | .lam _ b=>1+b.size
 | .app f a=>1+(f.size+a.size)
 | .succ a=>1+a.size
 | .recn _ a b c=>1+(a.size+b.size+c.size)
 | .cons a b=>1+(a.size+b.size)
 | .fold _ a b c=>1+(a.size+b.size+c.size)
 | .pair a b=>1+(a.size+b.size)
 | .fst a=>1+a.size
 | .snd a=>1+a.size
 | _=>1
def Tm.sizes (l:List Tm):Nat:=(l.map Tm.size).sum
theorem Tm.size_eq (t:Tm):t.size=1+Tm.sizes t.args:=by cases t<;>simp [Tm.size,Tm.sizes,Tm.args]<;>omega
theorem tsizes_le (l:List Tm) (k:Nat):Tm.sizes (l.take k)≤Tm.sizes l:=by
 conv=>rhs;rw [← List.take_append_drop k l]
 simp only [Tm.sizes,List.map_append,List.sum_append];omega
theorem count_ok (t:Tm) (hs:t.size≤1000000000):AC Tryz.prog gl 81 [.pv (.agg t.cells)] [] (.ret (.pv (.int t.size))) []:=by
 induction t using Tm.ind with
 | _ t ih =>
  refine body [] Tryz.func81 Tryz.ntmps81 ?_
  rw [Tm.cells_eq]
  refine gg ?_
  refine AWP.loopN t.args.length (fun k=>⟨[(3,.pv (.int (1+Tm.sizes (t.args.take k)))),(7,.pv (.slice (t.args.map Tm.cells))),(8,.pv (.int t.args.length)),(9,.pv (.int k))],
   [],[]⟩) ⟨by simp [slotsLe,getS,Tm.sizes],by simp [subO,getO,Tm.sizes],by simp [subL,namesSl,V.names,namesOb,Ob.names,namesL,namesE,namesE_pvE,XX_given,Tm.sizes]⟩ ?_
  intro k hk
  have hl:=t.args_le
  refine gg ?_
  refine cd ?_
  refine caseB_dec (fun h => ?_) (fun h => ?_)
  ·obtain⟨a,hka⟩:∃ a,t.args[k]? = some a:=⟨_,List.getElem?_eq_getElem (by omega)⟩
   have hget:=getD_map (f:=Tm.cells) (d:=[]) hka
   have hsn:=take_snoc hka
   have hmem:=List.mem_of_getElem? hka
   have hsz:Tm.sizes (t.args.take (k+1))=Tm.sizes (t.args.take k)+a.size:=by rw [hsn];simp [Tm.sizes]
   have hle:=tsizes_le t.args (k+1)
   have hh:=t.size_eq
   have:=ih a hmem (by omega)
   rw [Tm.cells_eq] at this hget
   clear ih
   refine gg ?_
   (refine ev ?_ ?_;simp only [buildC,and_true,true_and,implies_true,true_implies,and_self])
   ·exact⟨by omega,by simpa using h,Tm.all_len _⟩
   refine gg ?_
   refine call this ?_
   refine gg ?_
   exact⟨by omega,⟨by simp [slotsLe,getS,hsz,Int.add_assoc],by simp [subO,getO,hsz,Int.add_assoc],by simp [subL,namesSl,V.names,namesOb,Ob.names,namesL,namesE,namesE_pvE,XX_given,hsz,Int.add_assoc]⟩⟩
  ·have hkk:k=t.args.length:=by omega
   subst hkk
   have hh:=t.size_eq
   refine gg ?_
   exact⟨by simp [retIs,resV,resL,resOne,mkTup,getS,getO,rdV,mkAgg,unL,V.un,TI.isAgg,XX_T,tt30,Tryz.f81,hh],by simp [subO,getO,tt30,Tryz.f81,hh]⟩
theorem args_ok (t:Tm):AC Tryz.prog gl 109 [.pv (.int t.kind)] [] (.ret (.pv (.int t.args.length))) []:=by
 refine body [] Tryz.func109 Tryz.ntmps109 ?_
 cases t<;>simp only [Tm.kind,Tm.args,List.length_cons,List.length_nil]
 all_goals refine gg ?_
 all_goals exact enC2
end Go.Proofs.YtodjpfpmhjdhbaaGreatDoor
namespace Go.Proofs.YtodjpfpmhjdhbaaGreatDoor
open Go.Lg
set_option maxRecDepth 10000
set_option maxHeartbeats 4000000
def Ty.good (t:Ty):Bool:=t.ok && decide (t.size≤64)
def Tm.wf:Tm→Bool
 | .lam s b=>s.good && b.wf
 | .app f a=>f.wf && a.wf
 | .succ a=>a.wf
 | .recn s a b c=>s.good && (a.wf && (b.wf && c.wf))
 | .cons a b=>a.wf && b.wf
 | .fold s a b c=>s.good && (a.wf && (b.wf && c.wf))
 | .pair a b=>a.wf && b.wf
 | .fst a=>a.wf
 | .snd a=>a.wf
 | _=>true
theorem Tm.wf_args {t:Tm} (h:t.wf=true):∀ a∈t.args,a.wf=true:=by cases t<;>simp_all [Tm.wf,Tm.args]
theorem Tm.wf_kind {t:Tm} (h:t.wf=true):(∃ i,t = .var i)∨((t.kind=2∨t.kind=6∨t.kind=9)∧t.idx=0∧t.ty.ok=true∧t.ty.size≤64)∨(¬ t.kind=1 ∧ ¬ t.kind=2 ∧ ¬ t.kind=6 ∧ ¬ t.kind=9∧t.idx=0∧t.ty = .zero):=by
 cases t<;>simp_all [Tm.wf,Tm.kind,Tm.idx,Tm.ty,Ty.good]
theorem shapes_ok (t:Tm) (hw:t.wf=true):AC Tryz.prog gl 80 [.pv (.agg t.cells)] [] (.ret (.pv (.bool true))) []:=by
 induction t using Tm.ind with
 | _ t ih =>
  refine body [] Tryz.func80 Tryz.ntmps80 ?_
  have ha:=args_ok t
  have hlen:(t.args.map Tm.cells).length=t.args.length:=by simp
  have hl:=t.args_le
  rw [Tm.cells_eq]
  rcases Tm.wf_kind hw with ⟨i,rfl⟩|⟨h1,h2,h3,h4⟩|⟨h1,h2,h3,h4,h5,h6⟩
  ·have hi:¬ (i:Int)<0:=by omega
   simp only [Tm.kind,Tm.idx,Tm.ty,Tm.args,Ty.kind,Ty.args,List.map_nil,List.length_nil] at ha ⊢
   have hz:=zero_ok .zero
   simp only [Ty.cells,decide_true] at hz
   refine gg ?_
   refine call ha ?_
   refine gg ?_
   refine⟨by rfl,?_⟩
   refine gg ?_
   refine call hz ?_
   refine gg ?_
   refine ex_loop 1 (ex_round ?_)
   refine gg ?_
   exact enC2
  ·have hz:=tycheck_ok t.ty h3 h4
   rw [Ty.cells_eq] at hz
   rcases h1 with h1|h1|h1
   all_goals rw [h1] at ha
   all_goals refine gg ?_
   all_goals refine call ha ?_
   all_goals refine gg ?_
   all_goals refine⟨by rfl,?_⟩
   all_goals refine gg ?_
   all_goals refine call hz ?_
   all_goals refine gg ?_
   all_goals refine AWP.loopN t.args.length (fun k=>⟨[(42,.pv (.slice (t.args.map Tm.cells))),(43,.pv (.int t.args.length)),(44,.pv (.int k))],[],[]⟩) ⟨by simp [slotsLe,getS],by simp [subO,getO],by simp [subL,namesSl,V.names,namesOb,Ob.names,namesL,namesE,namesE_pvE,XX_given]⟩ ?_
   all_goals clear hz ha
   all_goals intro k hk
   all_goals refine gg ?_
   all_goals refine cd ?_
   all_goals
    refine caseB_dec (fun h => ?_) (fun h => ?_)
    ·obtain⟨a,hka⟩:∃ a,t.args[k]? = some a:=⟨_,List.getElem?_eq_getElem (by omega)⟩
     have hget:=getD_map (f:=Tm.cells) (d:=[]) hka
     have hm:=List.mem_of_getElem? hka
     have this:=ih a hm (Tm.wf_args hw a hm)
     clear ih hka
     rw [Tm.cells_eq] at hget this
     have hal:=Tm.all_len t.args
     refine gg ?_
     refine call this ?_
     refine gg ?_
     exact⟨by omega,⟨by simp [slotsLe,getS],by simp [subO,getO],by simp [subL,namesSl,V.names,namesOb,Ob.names,namesL,namesE,namesE_pvE,XX_given]⟩⟩
    ·refine gg ?_
     exact enC2
  ·have hz:=zero_ok .zero
   simp only [Ty.cells,decide_true] at hz
   rw [h6]
   simp only [Ty.kind,Ty.args,List.map_nil]
   refine gg ?_
   refine call ha ?_
   refine gg ?_
   refine⟨by rfl,?_⟩
   refine gg ?_
   refine call hz ?_
   refine gg ?_
   all_goals refine AWP.loopN t.args.length (fun k=>⟨[(42,.pv (.slice (t.args.map Tm.cells))),(43,.pv (.int t.args.length)),(44,.pv (.int k))],[],[]⟩) ⟨by simp [slotsLe,getS],by simp [subO,getO],by simp [subL,namesSl,V.names,namesOb,Ob.names,namesL,namesE,namesE_pvE,XX_given]⟩ ?_
   all_goals clear hz ha
   all_goals intro k hk
   all_goals refine gg ?_
   all_goals refine cd ?_
   all_goals
    refine caseB_dec (fun h => ?_) (fun h => ?_)
    ·obtain⟨a,hka⟩:∃ a,t.args[k]? = some a:=⟨_,List.getElem?_eq_getElem (by omega)⟩
     have hget:=getD_map (f:=Tm.cells) (d:=[]) hka
     have hm:=List.mem_of_getElem? hka
     have this:=ih a hm (Tm.wf_args hw a hm)
     clear ih hka
     rw [Tm.cells_eq] at hget this
     have hal:=Tm.all_len t.args
     refine gg ?_
     refine call this ?_
     refine gg ?_
     exact⟨by omega,⟨by simp [slotsLe,getS],by simp [subO,getO],by simp [subL,namesSl,V.names,namesOb,Ob.names,namesL,namesE,namesE_pvE,XX_given]⟩⟩
    ·refine gg ?_
     exact enC2
theorem tcheck_ok (t:Tm) (hw:t.wf=true) (hz:t.size≤1000000000):AC Tryz.prog gl 38 [.pv (.agg t.cells)] [] (.ret (.pv (.int (if t.size≤4096 then 0 else 4)))) []:=by
 have h1:=shapes_ok t hw
 have h2:=count_ok t hz
 refine body [] Tryz.func38 Tryz.ntmps38 ?_
 rw [Tm.cells_eq] at h1 h2 ⊢
 by_cases h:t.size≤4096
 ·rw [if_pos h]
  refine gg ?_
  refine call h1 ?_
  refine gg ?_
  refine call h2 ?_
  have h3:¬ (4096:Int)<t.size:=by omega
  refine gg ?_
  exact enC2
 ·rw [if_neg h]
  refine gg ?_
  refine call h1 ?_
  refine gg ?_
  refine call h2 ?_
  have h3:(4096:Int)<t.size:=by omega
  refine gg ?_
  exact enC2
def numT:Nat→Tm
 | 0 => .zero
 | n+1 => .succ (numT n)
theorem numeral_ok (n:Nat) (hn:n<4096):AC Tryz.prog gl 97 [.pv (.int n)] [] (.ret (.pv (.agg (numT n).cells))) []:=by
 have h1:=nn_ok .zero rfl rfl
 simp only [Tm.cells,Tm.node,Tm.kind,Tm.args,Ty.kind,Ty.args,List.map_nil] at h1
 refine body [] Tryz.func97 Tryz.ntmps97 ?_
 refine gg ?_
 refine call h1 ?_
 refine gg ?_
 refine AWP.loopN n (fun k=>⟨[(0,.pv (.int (n-k))),(2,.loc 2 0),(3,.loc 3 0)],[(2,.box [.pv (.int 0),.pv (.int 0),.pv (.int 0),.pv (.slice []),.pv (.slice [])]),(3,.box (pvL (numT k).cells))],[2,3]⟩) ⟨by simp [slotsLe,getS,numT,Tm.cells,Tm.node,pvL,Ty.kind,Ty.args],by simp [subO,getO,numT,Tm.cells,Tm.node,pvL,Ty.kind,Ty.args],by simp [subL,namesSl,V.names,namesOb,Ob.names,namesL,namesE,namesE_pvE,XX_given,numT,Tm.cells,Tm.node,pvL,Ty.kind,Ty.args]⟩ ?_
 intro k hk
 clear h1
 rw [(numT k).cells_eq]
 simp only [pvL,List.map_cons,List.map_nil]
 by_cases h:k=n
 ·subst h
  have e:¬ (0:Int)<(k:Int)-k:=by omega
  refine gg ?_
  exact⟨by simp [retIs,resV,resL,resOne,mkTup,getS,getO,rdV,mkAgg,unL,V.un,TI.isAgg,XX_T,tt30,Tryz.f97,Tm.cells_eq],by simp [subO,getO,tt30,Tryz.f97,Tm.cells_eq]⟩
 ·have e:(0:Int)<(n:Int)-k:=by omega
  refine gg ?_
  exact⟨by omega,⟨by simp [slotsLe,getS,numT,Tm.cells,Tm.node,pvL,Ty.kind,Ty.args,Tm.cells_eq (numT k),Int.sub_sub],by simp [subO,getO,numT,Tm.cells,Tm.node,pvL,Ty.kind,Ty.args,Tm.cells_eq (numT k),Int.sub_sub],by simp [subL,namesSl,V.names,namesOb,Ob.names,namesL,namesE,namesE_pvE,XX_given,numT,Tm.cells,Tm.node,pvL,Ty.kind,Ty.args,Tm.cells_eq (numT k),Int.sub_sub]⟩⟩
theorem number_ok (n:Nat) (hn:n<4096):AC Tryz.prog gl 61 [.pv (.int n)] [] (.ret (.pv (.tuple [.agg (numT n).cells,.int 0]))) []:=by
 have h1:=numeral_ok n hn
 rw [Tm.cells_eq] at h1 ⊢
 have e1:¬ (n:Int)<0:=by omega
 have e2:¬ (4096:Int)≤n:=by omega
 refine body [] Tryz.func61 Tryz.ntmps61 ?_
 refine gg ?_
 refine call h1 ?_
 refine gg ?_
 exact enC2
theorem num_ok (n:Nat) (hn:n<4096):AC Tryz.prog gl 26 [.pv (.int n)] [] (.ret (.pv (.agg (numT n).cells))) []:=by
 have h1:=number_ok n hn
 rw [Tm.cells_eq] at h1 ⊢
 refine body [] Tryz.func26 Tryz.ntmps26 ?_
 refine gg ?_
 refine call h1 ?_
 refine gg ?_
 exact enC2
theorem lam_ok (b:Tm):AC Tryz.prog gl 106 [.pv (.agg b.cells)] [] (.ret (.pv (.agg (Tm.lam .nat b).cells))) []:=by
 have h1:=nat_ok
 have h2:=tn_ok (.lam .nat b) rfl
 simp only [Tm.cells,Tm.node,Tm.kind,Tm.args,Tm.ty,Ty.cells,Ty.kind,Ty.args,List.map_nil,List.map_cons] at h1 h2 ⊢
 rw [b.cells_eq] at h2 ⊢
 refine body [] Tryz.func106 Tryz.ntmps106 ?_
 refine gg ?_
 refine call h1 ?_
 refine gg ?_
 refine call h2 ?_
 refine gg ?_
 refine⟨by rfl,?_⟩
 refine gg ?_
 exact enC2
theorem rec_ok (a b c:Tm):AC Tryz.prog gl 107 [.pv (.agg a.cells),.pv (.agg b.cells),.pv (.agg c.cells)] [] (.ret (.pv (.agg (Tm.recn .nat a b c).cells))) []:=by
 have h1:=nat_ok
 have h2:=tn_ok (.recn .nat a b c) rfl
 simp only [Tm.cells,Tm.node,Tm.kind,Tm.args,Tm.ty,Ty.cells,Ty.kind,Ty.args,List.map_nil,List.map_cons] at h1 h2 ⊢
 rw [a.cells_eq,b.cells_eq,c.cells_eq] at h2 ⊢
 refine body [] Tryz.func107 Tryz.ntmps107 ?_
 refine gg ?_
 refine call h1 ?_
 refine gg ?_
 refine call h2 ?_
 refine gg ?_
 refine⟨by rfl,?_⟩
 refine gg ?_
 exact enC2
def predT:Tm:=.lam .nat (.recn .nat .zero (.lam .nat (.lam .nat (.var 1))) (.var 0))
def plusT:Tm:=.lam .nat (.lam .nat (.recn .nat (.var 1) (.lam .nat (.lam .nat (.succ (.var 0)))) (.var 0)))
def subT:Tm:=.lam .nat (.lam .nat (.recn .nat (.var 1) (.lam .nat (.lam .nat (.app predT (.var 0)))) (.var 0)))
theorem pred_ok:AC Tryz.prog gl 108 [] [] (.ret (.pv (.agg predT.cells))) []:=by
 have h1:=nn_ok .zero rfl rfl
 have h2:=var_ok 1
 have h3:=lam_ok (.var 1)
 have h4:=lam_ok (.lam .nat (.var 1))
 have h5:=var_ok 0
 have h6:=rec_ok .zero (.lam .nat (.lam .nat (.var 1))) (.var 0)
 have h7:=lam_ok (.recn .nat .zero (.lam .nat (.lam .nat (.var 1))) (.var 0))
 simp only [predT, Tm.cells,Tm.node,Tm.kind,Tm.args,Tm.ty,Ty.cells,Ty.kind,Ty.args,List.map_nil,List.map_cons,Int.cast_ofNat_Int] at h1 h2 h3 h4 h5 h6 h7 ⊢
 refine body [] Tryz.func108 Tryz.ntmps108 ?_
 refine gg ?_
 refine call h1 ?_
 refine gg ?_
 refine call h2 ?_
 refine gg ?_
 refine call h3 ?_
 refine gg ?_
 refine call h4 ?_
 refine gg ?_
 refine call h5 ?_
 refine gg ?_
 refine call h6 ?_
 refine gg ?_
 refine call h7 ?_
 refine gg ?_
 exact enC2
theorem plus_ok:AC Tryz.prog gl 78 [] [] (.ret (.pv (.agg plusT.cells))) []:=by
 have h1:=var_ok 1
 have h2:=var_ok 0
 have h3:=nn_ok (.succ (.var 0)) rfl rfl
 have h4:=lam_ok (.succ (.var 0))
 have h5:=lam_ok (.lam .nat (.succ (.var 0)))
 have h6:=var_ok 0
 have h7:=rec_ok (.var 1) (.lam .nat (.lam .nat (.succ (.var 0)))) (.var 0)
 have h8:=lam_ok (.recn .nat (.var 1) (.lam .nat (.lam .nat (.succ (.var 0)))) (.var 0))
 have h9:=lam_ok (.lam .nat (.recn .nat (.var 1) (.lam .nat (.lam .nat (.succ (.var 0)))) (.var 0)))
 simp only [plusT, Tm.cells,Tm.node,Tm.kind,Tm.args,Tm.ty,Ty.cells,Ty.kind,Ty.args,List.map_nil,List.map_cons,Int.cast_ofNat_Int] at h1 h2 h3 h4 h5 h6 h7 h8 h9 ⊢
 refine body [] Tryz.func78 Tryz.ntmps78 ?_
 refine gg ?_
 refine call h1 ?_
 refine gg ?_
 refine call h2 ?_
 refine gg ?_
 refine call h3 ?_
 refine gg ?_
 refine call h4 ?_
 refine gg ?_
 refine call h5 ?_
 refine gg ?_
 refine call h6 ?_
 refine gg ?_
 refine call h7 ?_
 refine gg ?_
 refine call h8 ?_
 refine gg ?_
 refine call h9 ?_
 refine gg ?_
 exact enC2
theorem sub_ok:AC Tryz.prog gl 79 [] [] (.ret (.pv (.agg subT.cells))) []:=by
 have h1:=var_ok 1
 have h2:=pred_ok
 have h3:=var_ok 0
 have h4:=nn_ok (.app predT (.var 0)) rfl rfl
 have h5:=lam_ok (.app predT (.var 0))
 have h6:=lam_ok (.lam .nat (.app predT (.var 0)))
 have h7:=var_ok 0
 have h8:=rec_ok (.var 1) (.lam .nat (.lam .nat (.app predT (.var 0)))) (.var 0)
 have h9:=lam_ok (.recn .nat (.var 1) (.lam .nat (.lam .nat (.app predT (.var 0)))) (.var 0))
 have h10:=lam_ok (.lam .nat (.recn .nat (.var 1) (.lam .nat (.lam .nat (.app predT (.var 0)))) (.var 0)))
 simp only [subT,predT, Tm.cells,Tm.node,Tm.kind,Tm.args,Tm.ty,Ty.cells,Ty.kind,Ty.args,List.map_nil,List.map_cons,Int.cast_ofNat_Int] at h1 h2 h3 h4 h5 h6 h7 h8 h9 h10 ⊢
 refine body [] Tryz.func79 Tryz.ntmps79 ?_
 refine gg ?_
 refine call h1 ?_
 refine gg ?_
 refine call h2 ?_
 refine gg ?_
 refine call h3 ?_
 refine gg ?_
 refine call h4 ?_
 refine gg ?_
 refine call h5 ?_
 refine gg ?_
 refine call h6 ?_
 refine gg ?_
 refine call h7 ?_
 refine gg ?_
 refine call h8 ?_
 refine gg ?_
 refine call h9 ?_
 refine gg ?_
 refine call h10 ?_
 refine gg ?_
 exact enC2
theorem app_ok (f a b:Tm):AC Tryz.prog gl 77 [.pv (.agg f.cells),.pv (.slice [a.cells,b.cells])] [] (.ret (.pv (.agg (Tm.app (.app f a) b).cells))) []:=by
 have h1:=nn_ok (.app f a) rfl rfl
 have h2:=nn_ok (.app (.app f a) b) rfl rfl
 simp only [Tm.cells,Tm.node,Tm.kind,Tm.args,Tm.ty,Ty.cells,Ty.kind,Ty.args,List.map_nil,List.map_cons] at h1 h2 ⊢
 rw [f.cells_eq,a.cells_eq] at h1
 rw [f.cells_eq,a.cells_eq,b.cells_eq] at h2 ⊢
 refine body [(2,.box 2)] Tryz.func77 Tryz.ntmps77 ?_
 refine gg ?_
 refine ex_loop 3 (ex_round (kp [2,4,7,8,9] [2,4] ?_))
 refine gg ?_
 refine call h1 ?_
 refine gg ?_
 refine ex_round (kp [2,4,7,8,9] [2,4] ?_)
 refine gg ?_
 refine call h2 ?_
 refine gg ?_
 refine ex_round (kp [2,4,7,8,9] [2,4] ?_)
 refine gg ?_
 exact enC2
open Go.Lg
set_option maxRecDepth 10000
set_option maxHeartbeats 4000000
def ints (l:List Int):List (List PV):=l.map fun x=>[.int x]
def dmod (x:Int) (k:Nat):Nat:=((x.tmod k+k).tmod k).toNat
theorem tmod_bound (x:Int) (k:Nat) (hk:0<k) : -(k:Int)<x.tmod k∧x.tmod k<k:=by
 have h1:=Int.tmod_lt_of_pos x (b:=(k:Int)) (by omega)
 have h2 : -(k:Int)<x.tmod k:=by
  have:=Int.neg_tmod x k
  have h3:=Int.tmod_lt_of_pos (-x) (b:=(k:Int)) (by omega)
  rw [Int.neg_tmod] at h3
  omega
 exact⟨h2,h1⟩
theorem dmod_eq (x:Int) (k:Nat) (hk:0<k):(x.tmod k+k).tmod k=dmod x k:=by
 have h:=tmod_bound x k hk
 have:=Int.tmod_nonneg (k:Int) (a:=x.tmod k+k) (by omega)
 unfold dmod
 omega
theorem dmod_lt (x:Int) (k:Nat) (hk:0<k):dmod x k<k:=by
 have h:=(tmod_bound (x.tmod k+k) k hk).2
 rw [dmod_eq x k hk] at h
 omega
theorem mod_ok (x:Int) (k:Nat) (hk:0<k) (hk2:k≤1000000):AC Tryz.prog gl 62 [.pv (.int x),.pv (.int k)] [] (.ret (.pv (.int (dmod x k)))) []:=by
 have h:=tmod_bound x k hk
 have h0:¬ (k:Int)=0:=by omega
 have e:=dmod_eq x k hk
 refine body [] Tryz.func62 Tryz.ntmps62 ?_
 refine gg ?_
 exact enC2
def deck (L:List Int) (at_:Nat):List (Nat × Ob):=[(900,.box [.pv (.slice (ints L)),.pv (.int at_)])]
def nxv (L:List Int) (at_ n:Nat):Nat:=if n<1∨L.length≤at_ then 0 else dmod (L.getD at_ 0) n
def nxa (L:List Int) (at_ n:Nat):Nat:=if n<1∨L.length≤at_ then at_ else at_+1
theorem nxv_lt (L:List Int) (at_ n:Nat) (h:0<n):nxv L at_ n<n:=by
 unfold nxv
 split
 ·exact h
 ·exact dmod_lt _ _ h
theorem ints_len (L:List Int):(ints L).length=L.length:=by simp [ints]
theorem ints_all (L:List Int):∀ y∈ints L,y.length=1:=by simp [ints]
theorem next_ok (L:List Int) (at_ n:Nat) (hL:L.length≤500) (hn:n≤1000):AC Tryz.prog gl 27 [.loc 900 0,.pv (.int n)] (deck L at_) (.ret (.pv (.int (nxv L at_ n)))) (deck L (nxa L at_ n)):=by
 unfold deck
 have hi:=ints_len L
 have ha:=ints_all L
 refine body [] Tryz.func27 Tryz.ntmps27 ?_
 unfold nxv nxa
 by_cases h1:(n:Int)<1
 ·rw [if_pos (.inl (by omega)),if_pos (.inl (by omega))]
  refine gg ?_
  refine⟨by rfl,?_⟩
  refine gg ?_
  exact enC2
 ·by_cases h2:(L.length:Int)≤at_
  ·rw [if_pos (.inr (by omega)),if_pos (.inr (by omega))]
   refine gg ?_
   refine⟨by rfl,?_⟩
   refine gg ?_
   exact enC2
  ·rw [if_neg (by omega),if_neg (by omega)]
   have hm:=mod_ok (L.getD at_ 0) n (by omega) (by omega)
   have hg:(ints L).getD at_ []=[.int (L.getD at_ 0)]:=by
    have:at_<L.length:=by omega
    simp [ints,List.getD,this]
   have hlt:(at_:Int)<L.length:=by omega
   refine gg ?_
   refine⟨by rfl,?_⟩
   refine gg ?_
   refine⟨by rfl,?_⟩
   refine gg ?_
   refine call hm ?_
   refine gg ?_
   exact enC2
theorem new_ok (L:List Int):AC Tryz.prog gl 10 [.pv (.slice (ints L))] [] (.ret (.loc 900 0)) (deck L 0):=by
 unfold deck
 refine body [(5,.box 900)] Tryz.func10 Tryz.ntmps10 ?_
 refine gg ?_
 exact enC2
theorem few_ok (L:List Int):AC Tryz.prog gl 8 [.pv (.slice (ints L))] [] (.ret (.pv (.bool (decide (L.length≤500))))) []:=by
 have hi:=ints_len L
 refine body [] Tryz.func8 Tryz.ntmps8 ?_
 by_cases h:(L.length:Int)≤500
 ·have h':L.length≤500:=by omega
  refine gg ?_
  exact⟨by simp [retIs,resV,resL,resOne,mkTup,getS,getO,rdV,mkAgg,unL,V.un,TI.isAgg,XX_T,tt30,Tryz.f8,h'],by simp [subO,getO,tt30,Tryz.f8,h']⟩
 ·have h':¬ L.length≤500:=by omega
  refine gg ?_
  exact⟨by simp [retIs,resV,resL,resOne,mkTup,getS,getO,rdV,mkAgg,unL,V.un,TI.isAgg,XX_T,tt30,Tryz.f8,h'],by simp [subO,getO,tt30,Tryz.f8,h']⟩
theorem longer_ok (g l:List Ty) (hg:g.length≤100) (hl:l.length≤100):AC Tryz.prog gl 76 [.pv (.slice (g.map Ty.cells)),.pv (.slice (l.map Ty.cells))] [] (.ret (.pv (.slice ((g++l).map Ty.cells)))) []:=by
 have h1:=Ty.all_len g
 have h2:=Ty.all_len l
 have h3:∀ y∈g.map Ty.cells,y.all PV.one=true:=by
  intro y hy
  obtain⟨t,_,rfl⟩:=List.mem_map.1 hy
  simpa using one_ty t
 have h4:∀ y∈l.map Ty.cells,y.all PV.one=true:=by
  intro y hy
  obtain⟨t,_,rfl⟩:=List.mem_map.1 hy
  simpa using one_ty t
 have h5:(g.map Ty.cells).length=g.length:=by simp
 have h6:(l.map Ty.cells).length=l.length:=by simp
 have h7:((g++l).map Ty.cells)=g.map Ty.cells++l.map Ty.cells:=by simp
 have h8:g.length≤maxLen:=by simp [maxLen];omega
 have h9:g.length+l.length≤maxLen:=by simp [maxLen];omega
 have h10:g.length * 32≤140737488355328:=by omega
 have h11:(g.length+l.length) * 32≤140737488355328:=by omega
 refine body [(6,.arr 6 2 27)] Tryz.func76 Tryz.ntmps76 ?_
 rw [h7]
 generalize g.map Ty.cells=gs at *
 generalize l.map Ty.cells=ls at *
 clear h7
 refine ggor ?_
 refine frz 6 ?_
 have h13:List.take g.length gs=gs:=by rw [← h5,List.take_length]
 have h12:List.take (g.length+l.length) (gs++ls)=gs++ls:=by rw [← h5,← h6,← List.length_append,List.take_length]
 refine gg ?_
 exact⟨by simp [retIs,resV,resL,resOne,mkTup,getS,getO,rdV,mkAgg,unL,V.un,TI.isAgg,XX_T,tt30,Tryz.f76,h5,h6,h12,h13],by simp [subO,getO,tt30,Tryz.f76,h5,h6,h12,h13]⟩
def vs (r:List Ty) (t:Ty) (k:Nat):List Nat:=(List.range k).filter (fun i=>decide (r[i]? = some t))
theorem vs_succ (r:List Ty) (t:Ty) (k:Nat):vs r t (k+1)=vs r t k++(if r[k]? = some t then [k] else []):=by
 unfold vs
 rw [List.range_succ,List.filter_append]
 by_cases h:r[k]? = some t<;>simp [h]
theorem vs_le (r:List Ty) (t:Ty) (k:Nat):(vs r t k).length≤k:=by
 unfold vs
 exact Nat.le_trans (List.length_filter_le _ _) (by simp)
def nats (l:List Nat):List (List PV):=l.map fun (x:Nat)=>[.int (x:Int)]
theorem nats_snoc (v:List Nat) (k:Nat):nats (v++[k])=nats v++[[.int (k:Int)]]:=by simp [nats]
theorem vars_ok (g:List Ty) (t:Ty) (hg:g.length≤100):AC Tryz.prog gl 71 [.pv (.slice (g.map Ty.cells)),.pv (.agg t.cells)] [] (.ret (.pv (.slice (nats (vs g.reverse t g.length))))) []:=by
 have hal:=Ty.all_len g
 have hlen:(g.map Ty.cells).length=g.length:=by simp
 rw [Ty.cells_eq]
 refine body [(5,.arr 5 1 3)] Tryz.func71 Tryz.ntmps71 ?_
 refine gg ?_
 refine AWP.loopN g.length (fun k=>⟨[(0,.pv (.slice (g.map Ty.cells))),(3,.pv (.ptr [.int t.kind,.slice (t.args.map Ty.cells)])),(5,.arr 5 (vs g.reverse t k).length (vs g.reverse t k).length),(8,.pv (.int g.length)),(9,.pv (.int k))],
   [(5,.arr (vs g.reverse t k).length 1 3 (pvE (nats (vs g.reverse t k))))],[5]⟩) ⟨by simp [slotsLe,getS,pvE,vs,nats],by simp [subO,getO,pvE,vs,nats],by simp [subL,namesSl,V.names,namesOb,Ob.names,namesL,namesE,namesE_pvE,XX_given,pvE,vs,nats]⟩ ?_
 intro k hk
 have hv:=vs_le g.reverse t k
 have hnl:(nats (vs g.reverse t k)).length=(vs g.reverse t k).length:=by simp [nats]
 have htk:List.take (vs g.reverse t k).length (nats (vs g.reverse t k))=nats (vs g.reverse t k):=by rw [← hnl,List.take_length]
 by_cases h:k<g.length
 ·have h':(k:Int)<g.length:=by omega
  obtain⟨a,hka⟩:∃ a,g[g.length-1-k]? = some a:=⟨_,List.getElem?_eq_getElem (by omega)⟩
  have hka':g.reverse[k]? = some a:=by rw [List.getElem?_reverse h];exact hka
  have hget:=getD_map (f:=Ty.cells) (d:=[]) hka
  have hi:((g.length:Int)-1-k).toNat=g.length-1-k:=by omega
  have hsame:=same_ok a t
  have hs:=vs_succ g.reverse t k
  rw [hka'] at hs
  simp only [Option.some.injEq] at hs
  rw [Ty.cells_eq,t.cells_eq] at hsame
  rw [Ty.cells_eq] at hget
  generalize vs g.reverse t (k+1)=v' at hs ⊢
  generalize vs g.reverse t k=v at *
  clear hka hka'
  have hb1:(0:Int)≤(g.length:Int)-1-k:=by omega
  have hb2:(g.length:Int)-1-k<g.length:=by omega
  refine gg ?_
  refine call hsame ?_
  refine gg ?_
  refine⟨by rfl,?_⟩
  by_cases he:a=t
  ·simp only [he,decide_true]
   rw [if_pos he] at hs
   refine gg ?_
   subst hs
   exact⟨h,⟨by simp [slotsLe,getS,nats_snoc],by simp [subO,getO,nats_snoc],by simp [subL,namesSl,V.names,namesOb,Ob.names,namesL,namesE,namesE_pvE,XX_given,nats_snoc]⟩⟩
  ·simp only [he,decide_false]
   rw [if_neg he] at hs
   refine gg ?_
   rw [List.append_nil] at hs
   subst hs
   exact⟨h,⟨by simp [slotsLe,getS],by simp [subO,getO],by simp [subL,namesSl,V.names,namesOb,Ob.names,namesL,namesE,namesE_pvE,XX_given]⟩⟩
 ·have h':¬ (k:Int)<g.length:=by omega
  have hkk:k=g.length:=by omega
  subst hkk
  refine ggor ?_
  refine frz 5 ?_
  refine gg ?_
  exact⟨by simp [retIs,resV,resL,resOne,mkTup,getS,getO,rdV,mkAgg,unL,V.un,TI.isAgg,XX_T,tt30,Tryz.f71,htk],by simp [subO,getO,tt30,Tryz.f71,htk]⟩
def Ty.base (t:Ty):Prop:=t = .nat∨t = .list∨t = .unit
def Ty.plain (t:Ty):Prop:=t.base∨t = .pair .nat .list∨t = .pair .nat .nat
def pick7 (n:Nat):Ty:=if n=3 then .list else if n=4 then .unit else .nat
theorem type_ok (L:List Int) (at_:Nat) (hL:L.length≤500):AC Tryz.prog gl 73 [.loc 900 0,.pv (.int 0)] (deck L at_) (.ret (.pv (.agg (pick7 (nxv L at_ 7)).cells))) (deck L (nxa L at_ 7)):=by
 have h0:=next_ok L at_ 7 hL (by omega)
 have h1:=nat_ok
 have h2:=list_ok
 have h3:=unit_ok
 have h:=nxv_lt L at_ 7 (by omega)
 generalize nxv L at_ 7=n at *
 generalize nxa L at_ 7=at' at *
 unfold deck at *
 simp only [Int.cast_ofNat_Int] at h0
 simp only [Ty.cells] at h1 h2 h3
 refine body [] Tryz.func73 Tryz.ntmps73 ?_
 refine gg ?_
 refine call h0 ?_
 have hn:n=0∨n=1∨n=2∨n=3∨n=4∨n=5∨n=6:=by omega
 rcases hn with rfl|rfl|rfl|rfl|rfl|rfl|rfl
 all_goals simp only [pick7,↓reduceIte,Nat.reduceEqDiff,Ty.cells,Int.cast_ofNat_Int]
 all_goals refine gg ?_
 all_goals first|refine call h1 ?_|refine call h2 ?_|refine call h3 ?_|fail
 all_goals refine gg ?_
 all_goals exact enC2
end Go.Proofs.YtodjpfpmhjdhbaaGreatDoor
