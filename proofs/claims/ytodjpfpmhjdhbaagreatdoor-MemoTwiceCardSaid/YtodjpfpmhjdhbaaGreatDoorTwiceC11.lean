/- Contracts of functions; no conditions. -/
import Derived.Test.YtodjpfpmhjdhbaaGreatDoorTwiceC10
set_option linter.all false
namespace Go.Proofs.YtodjpfpmhjdhbaaGreatDoor
open Go.Lg
theorem enC11 {P Q : Prop} (h : P := by simp [retIs,resV,resL,resOne,mkTup,getS,getO,rdV,mkAgg,unL,V.un,TI.isAgg,XX_T,tt30,Tryz.f131]) (k : Q := by simp [subO,getO,tt30,Tryz.f131]) : P ∧ Q := ⟨h,k⟩
end Go.Proofs.YtodjpfpmhjdhbaaGreatDoor
namespace Go.Proofs.YtodjpfpmhjdhbaaGreatDoor
open Go.Lg
set_option maxRecDepth 10000
set_option maxHeartbeats 4000000
theorem obn_box (cs:List V):(Ob.box cs).names=namesL cs:=rfl
theorem obn_arr (a b d:Nat) (cs:List (List V)):(Ob.arr a b d cs).names=namesE cs:=rfl
theorem obn_imap (a:List (List Int × PV)):(Ob.imap a).names=[]:=rfl
theorem obn_cache (a:PV→Prop) (b:PV→PV):(Ob.cache a b).names=[]:=rfl
def tailsC (L:List Nat) (k:Nat):List (List PV):=(List.range k).map fun i=>[linkP (L.drop i)]
theorem tailsC_succ (L:List Nat) (k:Nat):tailsC L (k+1)=tailsC L k++[[linkP (L.drop k)]]:=by simp [tailsC,List.range_succ]
theorem tailsC_len (L:List Nat) (k:Nat):(tailsC L k).length=k:=by simp [tailsC]
theorem tailsC_get (L:List Nat) (k i:Nat) (h:i<k):(tailsC L k)[i]? = some [linkP (L.drop i)]:=by simp [tailsC,h]
theorem foldArgs_get (L:List Nat):∀ (j h:Nat) (t:List Nat),j<L.length→L.drop (L.length-1-j)=h::t→(foldArgs L)[j]? = some (h,t):=by
 induction L with
 | nil=>intro j h t hj;simp at hj
 | cons x L ih =>
  intro j h t hj hd
  have hl:=foldArgs_len L
  simp only [List.length_cons] at hj hd
  simp only [foldArgs]
  by_cases e:j=L.length
  ·subst e
   have:L.length+1-1-L.length=0:=by omega
   rw [this] at hd
   simp at hd
   rw [List.getElem?_append_right (by omega),hl]
   simp [hd]
  ·have e1:L.length+1-1-j=(L.length-1-j)+1:=by omega
   rw [e1,List.drop_succ_cons] at hd
   rw [List.getElem?_append_left (by omega)]
   exact ih j h t (by omega) hd
section
variable (c:List Ins) (l:Nat) (m:Mm) (s:List It) (b f x:It) (hs:m.stack=s++[b,f,x]) (hl:m.stack.length≤1000000) (hN:∀ n∈frN (m.frames++m.fg),1000≤n)
include hs hl hN
theorem rec_list_full (L:List Nat) (hk:¬ L=[]) (hk2:L.length≤1000000) (p:Nat) (vs:List It) (hf:f = .fn p vs) (hx:x = .list L) (hd:Nat) (tl:List Nat) (hg:(foldArgs L)[0]? = some (hd,tl)) (r:Rd) (hr:r=⟨f,0,some (foldArgs L),L.length,b,[.list tl,b]⟩) (q:PV)
  (he:AC Tryz.prog gl 115 [.loc 901 0,.pv (itP f),.pv (itP (.num hd)),.loc 920 0] (mO c l (pop3 m s b f x)++[(920,rdB r)]) (.panic q) []) :
  AC Tryz.prog gl 131 [.loc 901 0,.pv (.bool true)] (mO c l m) (.panic q) []:=by
 have p1:=pop_ok c l m (s++[b,f]) x (by simp [hs]) hl
 have p2:=pop_ok c l { m with stack:=s++[b,f],sg:=x::m.sg } (s++[b]) f (by simp) (by simp [hs] at hl ⊢;omega)
 have p3:=pop_ok c l { m with stack:=s++[b],sg:=f::x::m.sg } s b rfl (by simp [hs] at hl ⊢;omega)
 have hw:=want_ok f
 have hkf:f.kind=5:=by rw [hf];rfl
 rw [hkf] at hw
 have hw2:=want_ok x
 have hb:=begin_list_ok ⟨f,0,some (foldArgs L),L.length,b,[]⟩ .nils (foldArgs L) rfl hd tl hg
 have eF:mF (pop3 m s b f x)=mF m:=rfl
 have eT:(pop3 m s b f x).tab=m.tab:=rfl
 simp only [mO,eF,eT] at he
 have hFn:namesE ((m.frames++m.fg).map frV)=frN (m.frames++m.fg):=namesE_frV _
 have q1:=vcells_one (itP_one f)
 have q2:=vcells_one (itP_one b)
 have q3:(V.pv (itP f)).one=true:=by rw [one_pv];exact itP_one f
 have q4:(V.pv (itP b)).one=true:=by rw [one_pv];exact itP_one b
 refine bodyM (ks:=keysM++frN (m.frames++m.fg)) [(24,.box 920),(29,.arr 951 1 87),(8,.arr 952 1 163)] (frN (m.frames++m.fg)) Tryz.func131 Tryz.ntmps131 ?_ (hks:=rfl) (hms1:=mO_1 c l m _) (hms2:=mO_2 c l m hN)  (hna:=mO_3 c l m (by simp [namesL,V.names])) (hms3:=by simp [keysO]) (hno:=by simp [subL,Go.Lg.Out.names,namesOb])
 ·simp only [mO]
  unfold keysM
  unfold tabO tabN at *
  simp only [List.cons_append,List.nil_append] at *
  unfold pop3 at he
  clear eF eT
  simp only [tB] at *
  generalize m.tab.hits=h0 at *
  generalize numE 0 m.tab.nums=n1 at *
  generalize DI m.tab.nums=d2 at *
  generalize FI m.tab.nums=g2 at *
  generalize DL m.tab.nums=d3 at *
  generalize FL m.tab.nums=g3 at *
  generalize DV m.tab.nums=d4 at *
  generalize FV m.tab.nums=g4 at *
  generalize resE m.tab.res=n5 at *
  have h920:920 ∉ frN (m.frames++m.fg):=fun h=>by have:=hN 920 h;omega
  have h951:951 ∉ frN (m.frames++m.fg):=fun h=>by have:=hN 951 h;omega
  have h952:952 ∉ frN (m.frames++m.fg):=fun h=>by have:=hN 952 h;omega
  clear hN
  generalize mB c l m=B0 at *
  generalize mS m=S0 at *
  generalize mB c l { m with stack:=s++[b,f],sg:=x::m.sg } = B1 at *
  generalize mS { m with stack:=s++[b,f],sg:=x::m.sg } = S1 at *
  generalize mB c l { m with stack:=s++[b],sg:=f::x::m.sg } = B2 at *
  generalize mS { m with stack:=s++[b],sg:=f::x::m.sg } = S2 at *
  simp only [mB,mS,mF] at *
  generalize frN (m.frames++m.fg)=ms at *
  generalize (m.frames++m.fg).map frV=FS at *
  generalize (s++b::f::x::m.sg).map itC=SS at *
  subst hr hx
  simp only [rdB,rB,argsP,rpV,It.kind,itP,Int.cast_ofNat_Int,List.map_cons,List.map_nil,itC] at *
  clear hs hf hkf
  generalize itP f=vf at *
  generalize itP b=vb at *
  generalize c.map insP=cs at *
  generalize varsP m.vars=vv at *
  have hLp:0<L.length:=by cases L<;>simp_all
  have hk0:¬ (L.length:Int)=0:=by omega
  refine gg ?_
  refine call p1 ?_
  refine gg ?_
  refine call p2 ?_
  refine gg ?_
  refine call p3 ?_
  refine gg ?_
  refine call hw ?_
  refine gg ?_
  refine call hw2 ?_
  refine gg ?_
  refine AWP.loopN L.length (fun k=>⟨[(0,.loc 901 0),(6,.pv vb),(7,.loc 920 0),(8,.arr 952 k k),(9,.pv (linkP (L.drop k)))],
   [(901,.box [.pv (.slice cs),.pv (.int l),.pv (.int m.steps),.bfn 95 [.loc 980 0],.bfn 96 [.loc 980 0],.arr 902 m.sv s.length,.arr 903 m.fv m.frames.length,.pv (.int m.at_),.pv vv]),(902,.arr m.sv 1 132 (pvE SS)),(903,.arr m.fv 5 206 FS),(980,.box [.map 981,.map 982,.map 983,.map 984,.map 985,.pv (.int h0)]),(981,.imap n1),(982,.cache d2 g2),(983,.cache d3 g3),(984,.cache d4 g4),(985,.imap n5),
    (920,.box [.pv vf,.pv (.int 0),.arr 951 0 0,.pv (.int 0),.pv vb,.pv .nils]),(951,.arr 0 1 87 []),(952,.arr k 1 163 (pvE (tailsC L k)))],[920,951,952,901,902,903,980,981,982,983,984,985]++ms⟩) ?_ ?_
  ·refine⟨by simp [slotsLe,getS],by simp [subO,getO,tailsC,pvE],?_⟩
   rw [subL_iff]
   intro n hn
   simp only [namesSl,V.names,namesOb,obn_box,obn_arr,obn_imap,obn_cache,namesL,namesE,namesE_pvE,XX_given,hFn,List.mem_append,List.mem_cons,List.not_mem_nil,or_false,false_or,List.append_nil,List.nil_append,List.cons_append] at hn ⊢
   refine Classical.byContradiction fun hc => ?_
   simp only [not_or] at hc
   simp [hc] at hn
  intro k hkk
  have htl:=tailsC_len L k
  have htt:(tailsC L k).take k=tailsC L k:=List.take_of_length_le (by omega)
  by_cases h:k<L.length
  ·obtain⟨y,t,hyt⟩:∃ y t,L.drop k=y::t:=by
    cases e:L.drop k with
    | nil=>simp at e;omega
    | cons y t=>exact⟨y,t,rfl⟩
   have ht1:L.drop (k+1)=t:=by rw [← List.drop_drop,hyt];rfl
   have hts:=tailsC_succ L k
   rw [hyt] at hts
   rw [hyt]
   simp only [linkP] at *
   generalize ((t.length+1:Nat):Int)=tn at *
   generalize hlt:linkP t=vt at *
   generalize tailsC L k=TS at *
   refine gg ?_
   refine⟨h,?_,?_,?_⟩
   ·simp [slotsLe,getS,ht1,hlt]
   ·simp [subO,getO,hts,pvE,pvL,htt]
   rw [subL_iff]
   intro n hn
   simp only [namesSl,V.names,namesOb,obn_box,obn_arr,obn_imap,obn_cache,namesL,namesE,namesE_pvE,XX_given,hFn,List.mem_append,List.mem_cons,List.not_mem_nil,or_false,false_or,List.append_nil,List.nil_append,List.cons_append] at hn ⊢
   refine Classical.byContradiction fun hc => ?_
   simp only [not_or] at hc
   simp [hc] at hn
  ·have hkl:k=L.length:=by omega
   subst hkl
   have hdn:L.drop L.length=[]:=by simp
   rw [hdn]
   simp only [linkP]
   refine gg ?_
   refine AWP.loopN L.length (fun j=>⟨[(0,.loc 901 0),(6,.pv vb),(7,.loc 920 0),(8,.arr 952 L.length L.length),(10,.pv (.int ((L.length:Int)-1-j)))],
    [(901,.box [.pv (.slice cs),.pv (.int l),.pv (.int m.steps),.bfn 95 [.loc 980 0],.bfn 96 [.loc 980 0],.arr 902 m.sv s.length,.arr 903 m.fv m.frames.length,.pv (.int m.at_),.pv vv]),(902,.arr m.sv 1 132 (pvE SS)),(903,.arr m.fv 5 206 FS),(980,.box [.map 981,.map 982,.map 983,.map 984,.map 985,.pv (.int h0)]),(981,.imap n1),(982,.cache d2 g2),(983,.cache d3 g3),(984,.cache d4 g4),(985,.imap n5),
     (920,.box [.pv vf,.pv (.int 0),.arr 951 j j,.pv (.int 0),.pv vb,.pv .nils]),(951,.arr j 1 87 (pvE (((foldArgs L).take j).map argC))),(952,.arr L.length 1 163 (pvE (tailsC L L.length)))],[920,951,952,901,902,903,980,981,982,983,984,985]++ms⟩) ?_ ?_
   ·refine⟨by simp [slotsLe,getS],by simp [subO,getO,pvE],?_⟩
    rw [subL_iff]
    intro n hn
    simp only [namesSl,V.names,namesOb,obn_box,obn_arr,obn_imap,obn_cache,namesL,namesE,namesE_pvE,XX_given,hFn,List.mem_append,List.mem_cons,List.not_mem_nil,or_false,false_or,List.append_nil,List.nil_append,List.cons_append] at hn ⊢
    refine Classical.byContradiction fun hc => ?_
    simp only [not_or] at hc
    simp [hc] at hn
   intro j hj
   have hal:(((foldArgs L).take j).map argC).length=j:=by simp [foldArgs_len];omega
   have hat:(((foldArgs L).take j).map argC).take j=((foldArgs L).take j).map argC:=List.take_of_length_le (by omega)
   by_cases h':j<L.length
   ·obtain⟨y,t,hyt⟩:∃ y t,L.drop (L.length-1-j)=y::t:=by
     cases e:L.drop (L.length-1-j) with
     | nil=>simp at e;omega
     | cons y t=>exact⟨y,t,rfl⟩
    have hfa:=foldArgs_get L j y t h' hyt
    have hsn:=take_snoc hfa
    have hnum:=num_item_ok y
    have hg1:=tailsC_get L L.length (L.length-1-j) (by omega)
    have hi:((L.length:Int)-1-j).toNat=L.length-1-j:=by omega
    have hb1:(0:Int)≤(L.length:Int)-1-j:=by omega
    have hb2:(L.length:Int)-1-j<L.length:=by omega
    have hnx:(L.length:Int)-1-j-1=(L.length:Int)-1-((j+1:Nat):Int):=by omega
    have hA:((foldArgs L).take (j+1)).map argC=((foldArgs L).take j).map argC++[[.slice [[itP (.num y)],[itP (.list t)]]]]:=by rw [hsn];simp [argC]
    rw [hyt] at hg1
    simp only [linkP,itP] at hg1 hnum hA
    rw [hA]
    have hvt:=vcells_one (linkP_one t)
    have hvo:(V.pv (linkP t)).one=true:=by rw [one_pv];exact linkP_one t
    clear hfa hsn hyt hA hg hb he hw hw2 p1 p2 p3 hk
    generalize ((t.length+1:Nat):Int)=tn at *
    generalize linkP t=vt at *
    generalize tailsC L L.length=TS at *
    generalize ((foldArgs L).take j).map argC=AS at *
    refine gg ?_
    refine call hnum ?_
    refine gg ?_
    refine⟨by rfl,?_⟩
    refine gg ?_
    refine⟨h',?_,?_,?_⟩
    ·simp [slotsLe,getS,hnx]
    ·simp [subO,getO,pvE,pvL,hat]
    ·rw [subL_iff]
     intro n hn
     simp only [namesSl,V.names,namesOb,obn_box,obn_arr,obn_imap,obn_cache,namesL,namesE,namesE_pvE,XX_given,hFn,List.mem_append,List.mem_cons,List.not_mem_nil,or_false,false_or,List.append_nil,List.nil_append,List.cons_append] at hn ⊢
     refine Classical.byContradiction fun hc => ?_
     simp only [not_or] at hc
     simp [hc] at hn
   ·have hjl:j=L.length:=by omega
    subst hjl
    have hneg:¬ (0:Int)≤(L.length:Int)-1-(L.length:Int):=by omega
    have hat2:(foldArgs L).take L.length=foldArgs L:=List.take_of_length_le (by rw [foldArgs_len];omega)
    rw [hat2] at hal hat ⊢
    generalize hAS:(foldArgs L).map argC=AS at *
    generalize tailsC L L.length=TS at *
    refine frz 951 ?_ (hσ:=by simp only [St.frz,frzS,frzA,frzV,frzL,frzO,frzOb,Nat.reduceEqDiff,false_and,and_self,true_and,↓reduceIte,hat];rfl)
    refine gg ?_
    refine call hb ?_
    refine gg ?_
    refine callP he ?_
    refine gg ?_
    exact⟨rfl,trivial⟩
theorem rec_list_into (L:List Nat) (hk:¬ L=[]) (hk2:L.length≤1000000) (p:Nat) (vs:List It) (hf:f = .fn p vs) (hx:x = .list L) (hd:Nat) (tl:List Nat) (hg:(foldArgs L)[0]? = some (hd,tl)) (r:Rd) (hr:r=⟨f,0,some (foldArgs L),L.length,b,[.list tl,b]⟩) (m':Mm) (r2:Rd) (hm':∀ n∈frN (m'.frames++m'.fg),n∈frN (m.frames++m.fg)∨n=920)
  (he:AC Tryz.prog gl 115 [.loc 901 0,.pv (itP f),.pv (itP (.num hd)),.loc 920 0] (mO c l (pop3 m s b f x)++[(920,rdB r)]) (.ret (.pv (.tuple []))) (mO c l m'++[(920,rdB r2)])) :
  AC Tryz.prog gl 131 [.loc 901 0,.pv (.bool true)] (mO c l m) (.ret (.pv (.tuple []))) (mO c l m'++[(920,rdB r2)]):=by
 have p1:=pop_ok c l m (s++[b,f]) x (by simp [hs]) hl
 have p2:=pop_ok c l { m with stack:=s++[b,f],sg:=x::m.sg } (s++[b]) f (by simp) (by simp [hs] at hl ⊢;omega)
 have p3:=pop_ok c l { m with stack:=s++[b],sg:=f::x::m.sg } s b rfl (by simp [hs] at hl ⊢;omega)
 have hw:=want_ok f
 have hkf:f.kind=5:=by rw [hf];rfl
 rw [hkf] at hw
 have hw2:=want_ok x
 have hb:=begin_list_ok ⟨f,0,some (foldArgs L),L.length,b,[]⟩ .nils (foldArgs L) rfl hd tl hg
 have eF:mF (pop3 m s b f x)=mF m:=rfl
 have eT:(pop3 m s b f x).tab=m.tab:=rfl
 simp only [mO,eF,eT] at he
 have hFn:namesE ((m.frames++m.fg).map frV)=frN (m.frames++m.fg):=namesE_frV _
 have q1:=vcells_one (itP_one f)
 have q2:=vcells_one (itP_one b)
 have q3:(V.pv (itP f)).one=true:=by rw [one_pv];exact itP_one f
 have q4:(V.pv (itP b)).one=true:=by rw [one_pv];exact itP_one b
 refine bodyM (ks:=keysM++frN (m.frames++m.fg)) [(24,.box 920),(29,.arr 951 1 87),(8,.arr 952 1 163)] (frN (m.frames++m.fg)) Tryz.func131 Tryz.ntmps131 ?_ (hks:=rfl) (hms1:=mO_1 c l m _) (hms2:=mO_2 c l m hN)  (hna:=mO_3 c l m (by simp [namesL,V.names])) (hms3:=mO_6 c l m' r2 hN) (hno:=mO_5 c l m m' r2 hm')
 ·simp only [mO]
  unfold keysM
  unfold tabO tabN at *
  simp only [List.cons_append,List.nil_append] at *
  unfold pop3 at he
  clear eF eT
  clear hm'
  generalize mB c l m'=B4 at *
  generalize mS m'=S4 at *
  generalize mF m'=F4 at *
  generalize tB m'.tab.hits=U0 at *
  generalize Ob.imap (numE 0 m'.tab.nums)=U1 at *
  generalize Ob.cache (DI m'.tab.nums) (FI m'.tab.nums)=U2 at *
  generalize Ob.cache (DL m'.tab.nums) (FL m'.tab.nums)=U3 at *
  generalize Ob.cache (DV m'.tab.nums) (FV m'.tab.nums)=U4 at *
  generalize Ob.imap (resE m'.tab.res)=U5 at *
  generalize rdB r2=RB2 at *
  simp only [tB] at *
  generalize m.tab.hits=h0 at *
  generalize numE 0 m.tab.nums=n1 at *
  generalize DI m.tab.nums=d2 at *
  generalize FI m.tab.nums=g2 at *
  generalize DL m.tab.nums=d3 at *
  generalize FL m.tab.nums=g3 at *
  generalize DV m.tab.nums=d4 at *
  generalize FV m.tab.nums=g4 at *
  generalize resE m.tab.res=n5 at *
  have h920:920 ∉ frN (m.frames++m.fg):=fun h=>by have:=hN 920 h;omega
  have h951:951 ∉ frN (m.frames++m.fg):=fun h=>by have:=hN 951 h;omega
  have h952:952 ∉ frN (m.frames++m.fg):=fun h=>by have:=hN 952 h;omega
  clear hN
  generalize mB c l m=B0 at *
  generalize mS m=S0 at *
  generalize mB c l { m with stack:=s++[b,f],sg:=x::m.sg } = B1 at *
  generalize mS { m with stack:=s++[b,f],sg:=x::m.sg } = S1 at *
  generalize mB c l { m with stack:=s++[b],sg:=f::x::m.sg } = B2 at *
  generalize mS { m with stack:=s++[b],sg:=f::x::m.sg } = S2 at *
  simp only [mB,mS,mF] at *
  generalize frN (m.frames++m.fg)=ms at *
  generalize (m.frames++m.fg).map frV=FS at *
  generalize (s++b::f::x::m.sg).map itC=SS at *
  subst hr hx
  simp only [rdB,rB,argsP,rpV,It.kind,itP,Int.cast_ofNat_Int,List.map_cons,List.map_nil,itC] at *
  clear hs hf hkf
  generalize itP f=vf at *
  generalize itP b=vb at *
  generalize c.map insP=cs at *
  generalize varsP m.vars=vv at *
  have hLp:0<L.length:=by cases L<;>simp_all
  have hk0:¬ (L.length:Int)=0:=by omega
  refine gg ?_
  refine call p1 ?_
  refine gg ?_
  refine call p2 ?_
  refine gg ?_
  refine call p3 ?_
  refine gg ?_
  refine call hw ?_
  refine gg ?_
  refine call hw2 ?_
  refine gg ?_
  refine AWP.loopN L.length (fun k=>⟨[(0,.loc 901 0),(6,.pv vb),(7,.loc 920 0),(8,.arr 952 k k),(9,.pv (linkP (L.drop k)))],
   [(901,.box [.pv (.slice cs),.pv (.int l),.pv (.int m.steps),.bfn 95 [.loc 980 0],.bfn 96 [.loc 980 0],.arr 902 m.sv s.length,.arr 903 m.fv m.frames.length,.pv (.int m.at_),.pv vv]),(902,.arr m.sv 1 132 (pvE SS)),(903,.arr m.fv 5 206 FS),(980,.box [.map 981,.map 982,.map 983,.map 984,.map 985,.pv (.int h0)]),(981,.imap n1),(982,.cache d2 g2),(983,.cache d3 g3),(984,.cache d4 g4),(985,.imap n5),
    (920,.box [.pv vf,.pv (.int 0),.arr 951 0 0,.pv (.int 0),.pv vb,.pv .nils]),(951,.arr 0 1 87 []),(952,.arr k 1 163 (pvE (tailsC L k)))],[920,951,952,901,902,903,980,981,982,983,984,985]++ms⟩) ?_ ?_
  ·refine⟨by simp [slotsLe,getS],by simp [subO,getO,tailsC,pvE],?_⟩
   rw [subL_iff]
   intro n hn
   simp only [namesSl,V.names,namesOb,obn_box,obn_arr,obn_imap,obn_cache,namesL,namesE,namesE_pvE,XX_given,hFn,List.mem_append,List.mem_cons,List.not_mem_nil,or_false,false_or,List.append_nil,List.nil_append,List.cons_append] at hn ⊢
   refine Classical.byContradiction fun hc => ?_
   simp only [not_or] at hc
   simp [hc] at hn
  intro k hkk
  have htl:=tailsC_len L k
  have htt:(tailsC L k).take k=tailsC L k:=List.take_of_length_le (by omega)
  by_cases h:k<L.length
  ·obtain⟨y,t,hyt⟩:∃ y t,L.drop k=y::t:=by
    cases e:L.drop k with
    | nil=>simp at e;omega
    | cons y t=>exact⟨y,t,rfl⟩
   have ht1:L.drop (k+1)=t:=by rw [← List.drop_drop,hyt];rfl
   have hts:=tailsC_succ L k
   rw [hyt] at hts
   rw [hyt]
   simp only [linkP] at *
   generalize ((t.length+1:Nat):Int)=tn at *
   generalize hlt:linkP t=vt at *
   generalize tailsC L k=TS at *
   refine gg ?_
   refine⟨h,?_,?_,?_⟩
   ·simp [slotsLe,getS,ht1,hlt]
   ·simp [subO,getO,hts,pvE,pvL,htt]
   rw [subL_iff]
   intro n hn
   simp only [namesSl,V.names,namesOb,obn_box,obn_arr,obn_imap,obn_cache,namesL,namesE,namesE_pvE,XX_given,hFn,List.mem_append,List.mem_cons,List.not_mem_nil,or_false,false_or,List.append_nil,List.nil_append,List.cons_append] at hn ⊢
   refine Classical.byContradiction fun hc => ?_
   simp only [not_or] at hc
   simp [hc] at hn
  ·have hkl:k=L.length:=by omega
   subst hkl
   have hdn:L.drop L.length=[]:=by simp
   rw [hdn]
   simp only [linkP]
   refine gg ?_
   refine AWP.loopN L.length (fun j=>⟨[(0,.loc 901 0),(6,.pv vb),(7,.loc 920 0),(8,.arr 952 L.length L.length),(10,.pv (.int ((L.length:Int)-1-j)))],
    [(901,.box [.pv (.slice cs),.pv (.int l),.pv (.int m.steps),.bfn 95 [.loc 980 0],.bfn 96 [.loc 980 0],.arr 902 m.sv s.length,.arr 903 m.fv m.frames.length,.pv (.int m.at_),.pv vv]),(902,.arr m.sv 1 132 (pvE SS)),(903,.arr m.fv 5 206 FS),(980,.box [.map 981,.map 982,.map 983,.map 984,.map 985,.pv (.int h0)]),(981,.imap n1),(982,.cache d2 g2),(983,.cache d3 g3),(984,.cache d4 g4),(985,.imap n5),
     (920,.box [.pv vf,.pv (.int 0),.arr 951 j j,.pv (.int 0),.pv vb,.pv .nils]),(951,.arr j 1 87 (pvE (((foldArgs L).take j).map argC))),(952,.arr L.length 1 163 (pvE (tailsC L L.length)))],[920,951,952,901,902,903,980,981,982,983,984,985]++ms⟩) ?_ ?_
   ·refine⟨by simp [slotsLe,getS],by simp [subO,getO,pvE],?_⟩
    rw [subL_iff]
    intro n hn
    simp only [namesSl,V.names,namesOb,obn_box,obn_arr,obn_imap,obn_cache,namesL,namesE,namesE_pvE,XX_given,hFn,List.mem_append,List.mem_cons,List.not_mem_nil,or_false,false_or,List.append_nil,List.nil_append,List.cons_append] at hn ⊢
    refine Classical.byContradiction fun hc => ?_
    simp only [not_or] at hc
    simp [hc] at hn
   intro j hj
   have hal:(((foldArgs L).take j).map argC).length=j:=by simp [foldArgs_len];omega
   have hat:(((foldArgs L).take j).map argC).take j=((foldArgs L).take j).map argC:=List.take_of_length_le (by omega)
   by_cases h':j<L.length
   ·obtain⟨y,t,hyt⟩:∃ y t,L.drop (L.length-1-j)=y::t:=by
     cases e:L.drop (L.length-1-j) with
     | nil=>simp at e;omega
     | cons y t=>exact⟨y,t,rfl⟩
    have hfa:=foldArgs_get L j y t h' hyt
    have hsn:=take_snoc hfa
    have hnum:=num_item_ok y
    have hg1:=tailsC_get L L.length (L.length-1-j) (by omega)
    have hi:((L.length:Int)-1-j).toNat=L.length-1-j:=by omega
    have hb1:(0:Int)≤(L.length:Int)-1-j:=by omega
    have hb2:(L.length:Int)-1-j<L.length:=by omega
    have hnx:(L.length:Int)-1-j-1=(L.length:Int)-1-((j+1:Nat):Int):=by omega
    have hA:((foldArgs L).take (j+1)).map argC=((foldArgs L).take j).map argC++[[.slice [[itP (.num y)],[itP (.list t)]]]]:=by rw [hsn];simp [argC]
    rw [hyt] at hg1
    simp only [linkP,itP] at hg1 hnum hA
    rw [hA]
    have hvt:=vcells_one (linkP_one t)
    have hvo:(V.pv (linkP t)).one=true:=by rw [one_pv];exact linkP_one t
    clear hfa hsn hyt hA hg hb he hw hw2 p1 p2 p3 hk
    generalize ((t.length+1:Nat):Int)=tn at *
    generalize linkP t=vt at *
    generalize tailsC L L.length=TS at *
    generalize ((foldArgs L).take j).map argC=AS at *
    refine gg ?_
    refine call hnum ?_
    refine gg ?_
    refine⟨by rfl,?_⟩
    refine gg ?_
    refine⟨h',?_,?_,?_⟩
    ·simp [slotsLe,getS,hnx]
    ·simp [subO,getO,pvE,pvL,hat]
    ·rw [subL_iff]
     intro n hn
     simp only [namesSl,V.names,namesOb,obn_box,obn_arr,obn_imap,obn_cache,namesL,namesE,namesE_pvE,XX_given,hFn,List.mem_append,List.mem_cons,List.not_mem_nil,or_false,false_or,List.append_nil,List.nil_append,List.cons_append] at hn ⊢
     refine Classical.byContradiction fun hc => ?_
     simp only [not_or] at hc
     simp [hc] at hn
   ·have hjl:j=L.length:=by omega
    subst hjl
    have hneg:¬ (0:Int)≤(L.length:Int)-1-(L.length:Int):=by omega
    have hat2:(foldArgs L).take L.length=foldArgs L:=List.take_of_length_le (by rw [foldArgs_len];omega)
    rw [hat2] at hal hat ⊢
    generalize hAS:(foldArgs L).map argC=AS at *
    generalize tailsC L L.length=TS at *
    refine frz 951 ?_ (hσ:=by simp only [St.frz,frzS,frzA,frzV,frzL,frzO,frzOb,Nat.reduceEqDiff,false_and,and_self,true_and,↓reduceIte,hat];rfl)
    refine gg ?_
    refine call hb ?_
    refine gg ?_
    refine call he ?_
    refine gg ?_
    exact enC11
theorem rec_list_push (L:List Nat) (hk:¬ L=[]) (hk2:L.length≤1000000) (p:Nat) (vs:List It) (hf:f = .fn p vs) (hx:x = .list L) (hd:Nat) (tl:List Nat) (hg:(foldArgs L)[0]? = some (hd,tl)) (r:Rd) (hr:r=⟨f,0,some (foldArgs L),L.length,b,[.list tl,b]⟩) (m':Mm) (hm':∀ n∈frN (m'.frames++m'.fg),n∈frN (m.frames++m.fg))
  (he:AC Tryz.prog gl 115 [.loc 901 0,.pv (itP f),.pv (itP (.num hd)),.loc 920 0] (mO c l (pop3 m s b f x)++[(920,rdB r)]) (.ret (.pv (.tuple []))) (mO c l m')) :
  AC Tryz.prog gl 131 [.loc 901 0,.pv (.bool true)] (mO c l m) (.ret (.pv (.tuple []))) (mO c l m'):=by
 have p1:=pop_ok c l m (s++[b,f]) x (by simp [hs]) hl
 have p2:=pop_ok c l { m with stack:=s++[b,f],sg:=x::m.sg } (s++[b]) f (by simp) (by simp [hs] at hl ⊢;omega)
 have p3:=pop_ok c l { m with stack:=s++[b],sg:=f::x::m.sg } s b rfl (by simp [hs] at hl ⊢;omega)
 have hw:=want_ok f
 have hkf:f.kind=5:=by rw [hf];rfl
 rw [hkf] at hw
 have hw2:=want_ok x
 have hb:=begin_list_ok ⟨f,0,some (foldArgs L),L.length,b,[]⟩ .nils (foldArgs L) rfl hd tl hg
 have eF:mF (pop3 m s b f x)=mF m:=rfl
 have eT:(pop3 m s b f x).tab=m.tab:=rfl
 simp only [mO,eF,eT] at he
 have hFn:namesE ((m.frames++m.fg).map frV)=frN (m.frames++m.fg):=namesE_frV _
 have q1:=vcells_one (itP_one f)
 have q2:=vcells_one (itP_one b)
 have q3:(V.pv (itP f)).one=true:=by rw [one_pv];exact itP_one f
 have q4:(V.pv (itP b)).one=true:=by rw [one_pv];exact itP_one b
 refine bodyM (ks:=keysM++frN (m.frames++m.fg)) [(24,.box 920),(29,.arr 951 1 87),(8,.arr 952 1 163)] (frN (m.frames++m.fg)) Tryz.func131 Tryz.ntmps131 ?_ (hks:=rfl) (hms1:=mO_1 c l m _) (hms2:=mO_2 c l m hN)  (hna:=mO_3 c l m (by simp [namesL,V.names])) (hms3:=mO_2 c l m' hN) (hno:=mO_4 c l m m' rfl hm')
 ·simp only [mO]
  unfold keysM
  unfold tabO tabN at *
  simp only [List.cons_append,List.nil_append] at *
  unfold pop3 at he
  clear eF eT
  clear hm'
  generalize mB c l m'=B4 at *
  generalize mS m'=S4 at *
  generalize mF m'=F4 at *
  generalize tB m'.tab.hits=U0 at *
  generalize Ob.imap (numE 0 m'.tab.nums)=U1 at *
  generalize Ob.cache (DI m'.tab.nums) (FI m'.tab.nums)=U2 at *
  generalize Ob.cache (DL m'.tab.nums) (FL m'.tab.nums)=U3 at *
  generalize Ob.cache (DV m'.tab.nums) (FV m'.tab.nums)=U4 at *
  generalize Ob.imap (resE m'.tab.res)=U5 at *
  simp only [tB] at *
  generalize m.tab.hits=h0 at *
  generalize numE 0 m.tab.nums=n1 at *
  generalize DI m.tab.nums=d2 at *
  generalize FI m.tab.nums=g2 at *
  generalize DL m.tab.nums=d3 at *
  generalize FL m.tab.nums=g3 at *
  generalize DV m.tab.nums=d4 at *
  generalize FV m.tab.nums=g4 at *
  generalize resE m.tab.res=n5 at *
  have h920:920 ∉ frN (m.frames++m.fg):=fun h=>by have:=hN 920 h;omega
  have h951:951 ∉ frN (m.frames++m.fg):=fun h=>by have:=hN 951 h;omega
  have h952:952 ∉ frN (m.frames++m.fg):=fun h=>by have:=hN 952 h;omega
  clear hN
  generalize mB c l m=B0 at *
  generalize mS m=S0 at *
  generalize mB c l { m with stack:=s++[b,f],sg:=x::m.sg } = B1 at *
  generalize mS { m with stack:=s++[b,f],sg:=x::m.sg } = S1 at *
  generalize mB c l { m with stack:=s++[b],sg:=f::x::m.sg } = B2 at *
  generalize mS { m with stack:=s++[b],sg:=f::x::m.sg } = S2 at *
  simp only [mB,mS,mF] at *
  generalize frN (m.frames++m.fg)=ms at *
  generalize (m.frames++m.fg).map frV=FS at *
  generalize (s++b::f::x::m.sg).map itC=SS at *
  subst hr hx
  simp only [rdB,rB,argsP,rpV,It.kind,itP,Int.cast_ofNat_Int,List.map_cons,List.map_nil,itC] at *
  clear hs hf hkf
  generalize itP f=vf at *
  generalize itP b=vb at *
  generalize c.map insP=cs at *
  generalize varsP m.vars=vv at *
  have hLp:0<L.length:=by cases L<;>simp_all
  have hk0:¬ (L.length:Int)=0:=by omega
  refine gg ?_
  refine call p1 ?_
  refine gg ?_
  refine call p2 ?_
  refine gg ?_
  refine call p3 ?_
  refine gg ?_
  refine call hw ?_
  refine gg ?_
  refine call hw2 ?_
  refine gg ?_
  refine AWP.loopN L.length (fun k=>⟨[(0,.loc 901 0),(6,.pv vb),(7,.loc 920 0),(8,.arr 952 k k),(9,.pv (linkP (L.drop k)))],
   [(901,.box [.pv (.slice cs),.pv (.int l),.pv (.int m.steps),.bfn 95 [.loc 980 0],.bfn 96 [.loc 980 0],.arr 902 m.sv s.length,.arr 903 m.fv m.frames.length,.pv (.int m.at_),.pv vv]),(902,.arr m.sv 1 132 (pvE SS)),(903,.arr m.fv 5 206 FS),(980,.box [.map 981,.map 982,.map 983,.map 984,.map 985,.pv (.int h0)]),(981,.imap n1),(982,.cache d2 g2),(983,.cache d3 g3),(984,.cache d4 g4),(985,.imap n5),
    (920,.box [.pv vf,.pv (.int 0),.arr 951 0 0,.pv (.int 0),.pv vb,.pv .nils]),(951,.arr 0 1 87 []),(952,.arr k 1 163 (pvE (tailsC L k)))],[920,951,952,901,902,903,980,981,982,983,984,985]++ms⟩) ?_ ?_
  ·refine⟨by simp [slotsLe,getS],by simp [subO,getO,tailsC,pvE],?_⟩
   rw [subL_iff]
   intro n hn
   simp only [namesSl,V.names,namesOb,obn_box,obn_arr,obn_imap,obn_cache,namesL,namesE,namesE_pvE,XX_given,hFn,List.mem_append,List.mem_cons,List.not_mem_nil,or_false,false_or,List.append_nil,List.nil_append,List.cons_append] at hn ⊢
   refine Classical.byContradiction fun hc => ?_
   simp only [not_or] at hc
   simp [hc] at hn
  intro k hkk
  have htl:=tailsC_len L k
  have htt:(tailsC L k).take k=tailsC L k:=List.take_of_length_le (by omega)
  by_cases h:k<L.length
  ·obtain⟨y,t,hyt⟩:∃ y t,L.drop k=y::t:=by
    cases e:L.drop k with
    | nil=>simp at e;omega
    | cons y t=>exact⟨y,t,rfl⟩
   have ht1:L.drop (k+1)=t:=by rw [← List.drop_drop,hyt];rfl
   have hts:=tailsC_succ L k
   rw [hyt] at hts
   rw [hyt]
   simp only [linkP] at *
   generalize ((t.length+1:Nat):Int)=tn at *
   generalize hlt:linkP t=vt at *
   generalize tailsC L k=TS at *
   refine gg ?_
   refine⟨h,?_,?_,?_⟩
   ·simp [slotsLe,getS,ht1,hlt]
   ·simp [subO,getO,hts,pvE,pvL,htt]
   rw [subL_iff]
   intro n hn
   simp only [namesSl,V.names,namesOb,obn_box,obn_arr,obn_imap,obn_cache,namesL,namesE,namesE_pvE,XX_given,hFn,List.mem_append,List.mem_cons,List.not_mem_nil,or_false,false_or,List.append_nil,List.nil_append,List.cons_append] at hn ⊢
   refine Classical.byContradiction fun hc => ?_
   simp only [not_or] at hc
   simp [hc] at hn
  ·have hkl:k=L.length:=by omega
   subst hkl
   have hdn:L.drop L.length=[]:=by simp
   rw [hdn]
   simp only [linkP]
   refine gg ?_
   refine AWP.loopN L.length (fun j=>⟨[(0,.loc 901 0),(6,.pv vb),(7,.loc 920 0),(8,.arr 952 L.length L.length),(10,.pv (.int ((L.length:Int)-1-j)))],
    [(901,.box [.pv (.slice cs),.pv (.int l),.pv (.int m.steps),.bfn 95 [.loc 980 0],.bfn 96 [.loc 980 0],.arr 902 m.sv s.length,.arr 903 m.fv m.frames.length,.pv (.int m.at_),.pv vv]),(902,.arr m.sv 1 132 (pvE SS)),(903,.arr m.fv 5 206 FS),(980,.box [.map 981,.map 982,.map 983,.map 984,.map 985,.pv (.int h0)]),(981,.imap n1),(982,.cache d2 g2),(983,.cache d3 g3),(984,.cache d4 g4),(985,.imap n5),
     (920,.box [.pv vf,.pv (.int 0),.arr 951 j j,.pv (.int 0),.pv vb,.pv .nils]),(951,.arr j 1 87 (pvE (((foldArgs L).take j).map argC))),(952,.arr L.length 1 163 (pvE (tailsC L L.length)))],[920,951,952,901,902,903,980,981,982,983,984,985]++ms⟩) ?_ ?_
   ·refine⟨by simp [slotsLe,getS],by simp [subO,getO,pvE],?_⟩
    rw [subL_iff]
    intro n hn
    simp only [namesSl,V.names,namesOb,obn_box,obn_arr,obn_imap,obn_cache,namesL,namesE,namesE_pvE,XX_given,hFn,List.mem_append,List.mem_cons,List.not_mem_nil,or_false,false_or,List.append_nil,List.nil_append,List.cons_append] at hn ⊢
    refine Classical.byContradiction fun hc => ?_
    simp only [not_or] at hc
    simp [hc] at hn
   intro j hj
   have hal:(((foldArgs L).take j).map argC).length=j:=by simp [foldArgs_len];omega
   have hat:(((foldArgs L).take j).map argC).take j=((foldArgs L).take j).map argC:=List.take_of_length_le (by omega)
   by_cases h':j<L.length
   ·obtain⟨y,t,hyt⟩:∃ y t,L.drop (L.length-1-j)=y::t:=by
     cases e:L.drop (L.length-1-j) with
     | nil=>simp at e;omega
     | cons y t=>exact⟨y,t,rfl⟩
    have hfa:=foldArgs_get L j y t h' hyt
    have hsn:=take_snoc hfa
    have hnum:=num_item_ok y
    have hg1:=tailsC_get L L.length (L.length-1-j) (by omega)
    have hi:((L.length:Int)-1-j).toNat=L.length-1-j:=by omega
    have hb1:(0:Int)≤(L.length:Int)-1-j:=by omega
    have hb2:(L.length:Int)-1-j<L.length:=by omega
    have hnx:(L.length:Int)-1-j-1=(L.length:Int)-1-((j+1:Nat):Int):=by omega
    have hA:((foldArgs L).take (j+1)).map argC=((foldArgs L).take j).map argC++[[.slice [[itP (.num y)],[itP (.list t)]]]]:=by rw [hsn];simp [argC]
    rw [hyt] at hg1
    simp only [linkP,itP] at hg1 hnum hA
    rw [hA]
    have hvt:=vcells_one (linkP_one t)
    have hvo:(V.pv (linkP t)).one=true:=by rw [one_pv];exact linkP_one t
    clear hfa hsn hyt hA hg hb he hw hw2 p1 p2 p3 hk
    generalize ((t.length+1:Nat):Int)=tn at *
    generalize linkP t=vt at *
    generalize tailsC L L.length=TS at *
    generalize ((foldArgs L).take j).map argC=AS at *
    refine gg ?_
    refine call hnum ?_
    refine gg ?_
    refine⟨by rfl,?_⟩
    refine gg ?_
    refine⟨h',?_,?_,?_⟩
    ·simp [slotsLe,getS,hnx]
    ·simp [subO,getO,pvE,pvL,hat]
    ·rw [subL_iff]
     intro n hn
     simp only [namesSl,V.names,namesOb,obn_box,obn_arr,obn_imap,obn_cache,namesL,namesE,namesE_pvE,XX_given,hFn,List.mem_append,List.mem_cons,List.not_mem_nil,or_false,false_or,List.append_nil,List.nil_append,List.cons_append] at hn ⊢
     refine Classical.byContradiction fun hc => ?_
     simp only [not_or] at hc
     simp [hc] at hn
   ·have hjl:j=L.length:=by omega
    subst hjl
    have hneg:¬ (0:Int)≤(L.length:Int)-1-(L.length:Int):=by omega
    have hat2:(foldArgs L).take L.length=foldArgs L:=List.take_of_length_le (by rw [foldArgs_len];omega)
    rw [hat2] at hal hat ⊢
    generalize hAS:(foldArgs L).map argC=AS at *
    generalize tailsC L L.length=TS at *
    refine frz 951 ?_ (hσ:=by simp only [St.frz,frzS,frzA,frzV,frzL,frzO,frzOb,Nat.reduceEqDiff,false_and,and_self,true_and,↓reduceIte,hat];rfl)
    refine gg ?_
    refine call hb ?_
    refine gg ?_
    refine call he ?_
    refine gg ?_
    exact enC11
end
end Go.Proofs.YtodjpfpmhjdhbaaGreatDoor
