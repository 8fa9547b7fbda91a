/- Contracts of functions; no conditions. -/
import Derived.Test.YtodjpfpmhjdhbaaGreatDoorTwiceC12
set_option linter.all false
namespace Go.Proofs.YtodjpfpmhjdhbaaGreatDoor
open Go.Lg
theorem enC13 {P Q : Prop} (h : P := by simp [retIs,resV,resL,resOne,mkTup,getS,getO,rdV,mkAgg,unL,V.un,TI.isAgg,XX_T,tt30,Tryz.f132,Tryz.f113]) (k : Q := by simp [subO,getO,tt30,Tryz.f132,Tryz.f113]) : P ∧ Q := ⟨h,k⟩
end Go.Proofs.YtodjpfpmhjdhbaaGreatDoor
namespace Go.Proofs.YtodjpfpmhjdhbaaGreatDoor
open Go.Lg
set_option maxRecDepth 10000
set_option maxHeartbeats 4000000
theorem leave_last (c:List Ins) (l:Nat) (m:Mm) (s:List It) (x:It) (hs:m.stack=s++[x]) (hl:m.stack.length≤1000000) (hf:m.frames=[]) (hN:∀ n∈frN (m.frames++m.fg),1000≤n) :
  AC Tryz.prog gl 132 [.loc 901 0] (mO c l m) (.ret (.pv (.bool false))) (mO c l ((pop1 m s x).push x)):=by
 have p1:=pop_ok c l m s x hs hl
 have p2:=push_ok c l (pop1 m s x) x (by simp [hs] at hl;simp [pop1];omega)
 refine bodyM (ks:=keysM++frN (m.frames++m.fg)) [] (frN (m.frames++m.fg)) Tryz.func132 Tryz.ntmps132 ?_ (hks:=rfl) (hms1:=mO_1 c l m _) (hms2:=mO_2 c l m hN) (hms3:=mO_2 c l _ hN) (hna:=mO_3 c l m (by simp [namesL,V.names])) (hno:=mO_4 c l m _ rfl (fun n hn=>hn))
 clear hN
 generalize frN (m.frames++m.fg)=ms at *
 have eF:mF ((pop1 m s x).push x)=mF m:=rfl
 have eT:((pop1 m s x).push x).tab=m.tab:=rfl
 simp only [mO,eF,eT]
 clear eF eT
 unfold pop1 at *
 unfold keysM
 unfold tabO tabN at *
 generalize mB c l (Mm.push { m with stack:=s,sg:=x::m.sg } x)=B2 at *
 generalize mS (Mm.push { m with stack:=s,sg:=x::m.sg } x)=S2 at *
 generalize mB c l m=B0 at *
 generalize mS m=S0 at *
 generalize mS { m with stack:=s,sg:=x::m.sg } = S1 at *
 simp only [mB,mF,hf,List.length_nil,List.nil_append,List.cons_append,Int.cast_ofNat_Int] at *
 generalize m.fg.map frV=FS at *
 generalize itP x=vx at *
 generalize tB m.tab.hits=T0 at *
 generalize Ob.imap (numE 0 m.tab.nums)=T1 at *
 generalize Ob.cache (DI m.tab.nums) (FI m.tab.nums)=T2 at *
 generalize Ob.cache (DL m.tab.nums) (FL m.tab.nums)=T3 at *
 generalize Ob.cache (DV m.tab.nums) (FV m.tab.nums)=T4 at *
 generalize Ob.imap (resE m.tab.res)=T5 at *
 refine gg ?_
 refine call p1 ?_
 refine gg ?_
 refine call p2 ?_
 refine gg ?_
 exact enC13
theorem keep_names {m:Mm} {s:List It} {x:It} {fs:List Fr} {fr:Fr} (hf:m.frames=fs++[fr]) (n:Nat):n∈frN (((popFr (pop1 m s x) fs fr).keep fr.f fr.a x).frames++((popFr (pop1 m s x) fs fr).keep fr.f fr.a x).fg)↔n∈frN (m.frames++m.fg):=by
 have e:((popFr (pop1 m s x) fs fr).keep fr.f fr.a x).frames++((popFr (pop1 m s x) fs fr).keep fr.f fr.a x).fg=m.frames++m.fg:=by
  unfold Mm.keep
  split<;>simp [popFr,pop1,hf]
 rw [e]
theorem keep_stack (m:Mm) (s:List It) (x:It) (fs:List Fr) (fr:Fr):((popFr (pop1 m s x) fs fr).keep fr.f fr.a x).stack=s∧((popFr (pop1 m s x) fs fr).keep fr.f fr.a x).at_=fr.at_:=by
 unfold Mm.keep
 split<;>exact⟨rfl,rfl⟩
theorem mR_1 (c:List Ins) (l:Nat) (m:Mm) (R:Ob) (args:List V):subL (oth m) (mentL args (mO c l m++[(920,R)])):=by
 rw [subL_iff]
 intro n hn
 simp only [oth,List.mem_filter] at hn
 simp only [mO,mentL,mentO_app,mentO,mF_names,List.mem_append]
 simp [hn.1]
theorem oth_le {m:Mm} (hN:∀ n∈frN (m.frames++m.fg),n=920∨1000≤n):∀ n∈oth m,1000≤n:=by
 intro n hn
 simp only [oth,List.mem_filter,decide_eq_true_eq] at hn
 have:=hN n hn.1
 omega
theorem mR_3 (c:List Ins) (l:Nat) (m:Mm) (r:Rd) {args:List V} (ha:∀ n∈namesL args,n=901):subL (namesL args++namesOb (mO c l m++[(920,rdB r)])) (KS m):=by
 rw [subL_iff]
 intro n hn
 rcases List.mem_append.1 hn with hn|hn
 ·rw [ha n hn];simp [KS,keysM]
 ·exact namesR c l m r n hn
theorem KS_of {m m':Mm} (h:∀ n∈frN (m'.frames++m'.fg),n∈frN (m.frames++m.fg)∨n=920) (c:List Ins) (l:Nat):∀ n∈namesOb (mO c l m'),n∈KS m:=by
 intro n hn
 have h1:=namesOb_mO c l m' n hn
 have h2:=h n
 simp only [KS,oth,List.mem_append,List.mem_cons,List.mem_filter,decide_eq_true_eq] at h1 ⊢
 grind
theorem mR_4 (c:List Ins) (l:Nat) (m m':Mm) {x:V} (hx:x.names=[]) (h:∀ n∈frN (m'.frames++m'.fg),n∈frN (m.frames++m.fg)∨n=920):subL ((Go.Lg.Out.ret x).names++namesOb (mO c l m')) (KS m++keysO (mO c l m')):=by
 rw [subL_iff]
 intro n hn
 simp only [Go.Lg.Out.names,hx,List.nil_append] at hn
 exact List.mem_append.2 (.inl (KS_of h c l n hn))
theorem mR_5 (c:List Ins) (l:Nat) (m m':Mm) (r:Rd) {x:V} (hx:x.names=[]) (h:∀ n∈frN (m'.frames++m'.fg),n∈frN (m.frames++m.fg)∨n=920):subL ((Go.Lg.Out.ret x).names++namesOb (mO c l m'++[(920,rdB r)])) (KS m++keysO (mO c l m'++[(920,rdB r)])):=by
 rw [subL_iff]
 intro n hn
 simp only [Go.Lg.Out.names,hx,List.nil_append,namesOb_app,namesOb,rdB_names,List.mem_append,List.mem_cons,List.not_mem_nil,or_false] at hn
 rcases hn with hn|rfl
 ·exact List.mem_append.2 (.inl (KS_of h c l n hn))
 ·exact List.mem_append.2 (.inl (by simp [KS]))
section
variable (c:List Ins) (l:Nat) (m:Mm) (s:List It) (x:It) (hs:m.stack=s++[x]) (hl:m.stack.length≤1000000) (fs:List Fr) (fr:Fr) (hf:m.frames=fs++[fr]) (hfl:m.frames.length≤1000000)
  (p:Nat) (vs:List It) (hff:fr.f = .fn p vs) (hz:m.tab.nums.length+szI (.fn p vs)+szI fr.a≤1152921504606846976) (hsh:Sh m.tab.nums) (hk:Rk m.tab.res)
include hs hl hf hfl hff hz hsh hk
theorem lv_preA (hr:fr.rd=none) (ms:List Nat) (h4:4 ∉ ms) (hms:∀ n∈frN (m.frames++m.fg),n∈keysM++ms) (Q:AEx→St→Prop)
  (h:AWP (XX [] 111 (keysM++ms)) sw132 ⟨[(0,.loc 901 0),(2,.pv (.bool false)),(3,.pv (itP x)),(4,.loc 4 0)],(4,.box (frV fr))::mO c l ((popFr (pop1 m s x) fs fr).keep fr.f fr.a x),4::(keysM++ms)⟩ Q) :
  AWP (XX [] 111 (keysM++ms)) c132 ⟨zipArgs 0 [.loc 901 0],mO c l m,keysM++ms⟩ Q:=by
 unfold Mm.keep at h
 rw [hff] at h
 split at h
 ·rename_i hpl
  exact lv_preP c l m s x hs hl fs fr hf hfl p vs hff hpl hz hsh hk hr ms h4 hms Q h
 ·rename_i hpl
  exact lv_pre c l m s x hs hl fs fr hf hfl p vs hff (by simpa using hpl) hr ms h4 hms Q h
theorem lv_preB (r:Rd) (hr:fr.rd=some (920,r)) (RB:Ob) (hR:RB.names=[]) (ms:List Nat) (h4:4 ∉ ms) (hms:∀ n∈frN (m.frames++m.fg),n∈keysM++920::ms) (Q:AEx→St→Prop)
  (h:AWP (XX [] 111 (keysM++920::ms)) sw132 ⟨[(0,.loc 901 0),(2,.pv (.bool false)),(3,.pv (itP x)),(4,.loc 4 0)],(4,.box (frV fr))::mO c l ((popFr (pop1 m s x) fs fr).keep fr.f fr.a x)++[(920,RB)],4::(keysM++920::ms)⟩ Q) :
  AWP (XX [] 111 (keysM++920::ms)) c132 ⟨zipArgs 0 [.loc 901 0],mO c l m++[(920,RB)],keysM++920::ms⟩ Q:=by
 unfold Mm.keep at h
 rw [hff] at h
 split at h
 ·rename_i hpl
  exact lv_preRP c l m s x hs hl fs fr hf hfl p vs hff hpl hz hsh hk r hr RB hR ms h4 hms Q h
 ·rename_i hpl
  exact lv_preR c l m s x hs hl fs fr hf hfl p vs hff (by simpa using hpl) r hr RB hR ms h4 hms Q h
theorem leave_plain (hr:fr.rd=none) (hN:∀ n∈frN (m.frames++m.fg),1000≤n) :
  AC Tryz.prog gl 132 [.loc 901 0] (mO c l m) (.ret (.pv (.bool (decide (0≤fr.at_))))) (mO c l (((popFr (pop1 m s x) fs fr).keep fr.f fr.a x).push x)):=by
 have hkn:=keep_names (s:=s) (x:=x) hf
 obtain⟨k1,k2⟩:=keep_stack m s x fs fr
 refine bodyM (ks:=keysM++frN (m.frames++m.fg)) [] (frN (m.frames++m.fg)) Tryz.func132 Tryz.ntmps132 ?_ (hks:=rfl) (hms1:=mO_1 c l m _) (hms2:=mO_2 c l m hN) (hms3:=mO_2 c l _ hN) (hna:=mO_3 c l m (by simp [namesL,V.names])) (hno:=mO_4 c l m _ rfl (fun n hn=>(hkn n).1 hn))
 refine lv_preA c l m s x hs hl fs fr hf hfl p vs hff hz hsh hk hr _ (fun h=>by have:=hN 4 h;omega) (fun n hn=>List.mem_append.2 (.inr hn)) _ ?_
 have:=lv_none c l ((popFr (pop1 m s x) fs fr).keep fr.f fr.a x) x fr (frN (m.frames++m.fg)) (by rw [k1];simp [hs] at hl;omega) hr
 rw [k2] at this
 exact this
section
variable (r:Rd) (hr:fr.rd=some (920,r)) (hN:∀ n∈frN (m.frames++m.fg),n=920∨1000≤n)
include hr hN
theorem lv_body (out:Go.Lg.Out) (objs':List (Nat × Ob)) (h3:∀ n∈oth m,n ∉ keysO objs') (hno:subL (out.names++namesOb objs') (KS m++keysO objs'))
  (h:AWP (XX [] 111 (KS m)) sw132 ⟨[(0,.loc 901 0),(2,.pv (.bool false)),(3,.pv (itP x)),(4,.loc 4 0)],(4,.box (frV fr))::mO c l ((popFr (pop1 m s x) fs fr).keep fr.f fr.a x)++[(920,rdB r)],4::KS m⟩ (endQ (XX [] 111 (KS m)) Tryz.f132.results.toList out objs')) :
  AC Tryz.prog gl 132 [.loc 901 0] (mO c l m++[(920,rdB r)]) out objs':=by
 have ho:=oth_le hN
 refine bodyM (ks:=KS m) [] (oth m) Tryz.func132 Tryz.ntmps132 ?_ (hks:=rfl) (hms1:=mR_1 c l m _ _) (hms2:=fun n hn=>mO_6 c l m r ho n hn) (hms3:=h3) (hna:=mR_3 c l m r (by simp [namesL,V.names])) (hno:=hno)
 refine lv_preB c l m s x hs hl fs fr hf hfl p vs hff hz hsh hk r hr (rdB r) (rdB_names r) (oth m) (fun h=>by have:=ho 4 h;omega) ?_ _ h
 intro n hn
 simp only [oth,List.mem_append,List.mem_cons,List.mem_filter,decide_eq_true_eq]
 grind
theorem leave_done (r1:Rd) (hret:AC Tryz.prog gl 134 [.loc 920 0,.pv (itP x)] [(920,rdB r)] (.ret (.pv (.tuple [.nil,.nil,.bool true]))) [(920,rdB r1)]) :
  AC Tryz.prog gl 132 [.loc 901 0] (mO c l m++[(920,rdB r)]) (.ret (.pv (.bool (decide (0≤fr.at_))))) (mO c l (((popFr (pop1 m s x) fs fr).keep fr.f fr.a x).push x)):=by
 have hkn:=keep_names (s:=s) (x:=x) hf
 obtain⟨k1,k2⟩:=keep_stack m s x fs fr
 have:=lv_done c l ((popFr (pop1 m s x) fs fr).keep fr.f fr.a x) x fr (oth m) (by rw [k1];simp [hs] at hl;omega) r hr (rdB r) (rdB r1) hret
 rw [k2] at this
 exact lv_body c l m s x hs hl fs fr hf hfl p vs hff hz hsh hk r hr hN _ _ (mO_2 c l _ (oth_le hN)) (mR_4 c l m _ rfl (fun n hn => .inl ((hkn n).1 hn))) this
theorem leave_err (r1:Rd) (pf pa:It) (hret:AC Tryz.prog gl 134 [.loc 920 0,.pv (itP x)] [(920,rdB r)] (.ret (.pv (.tuple [itP pf,itP pa,.bool false]))) [(920,rdB r1)]) (q:PV)
  (he:AC Tryz.prog gl 115 [.loc 901 0,.pv (itP pf),.pv (itP pa),.loc 920 0] (mO c l ((popFr (pop1 m s x) fs fr).keep fr.f fr.a x)++[(920,rdB r1)]) (.panic q) []) :
  AC Tryz.prog gl 132 [.loc 901 0] (mO c l m++[(920,rdB r)]) (.panic q) [] :=
 lv_body c l m s x hs hl fs fr hf hfl p vs hff hz hsh hk r hr hN _ _ (by simp [keysO]) (by simp [subL,Go.Lg.Out.names,namesOb]) (lv_err c l _ x fr (oth m) r hr (rdB r) (rdB r1) pf pa hret q he)
theorem leave_into (r1:Rd) (pf pa:It) (hret:AC Tryz.prog gl 134 [.loc 920 0,.pv (itP x)] [(920,rdB r)] (.ret (.pv (.tuple [itP pf,itP pa,.bool false]))) [(920,rdB r1)]) (m':Mm) (r2:Rd) (hm':∀ n∈frN (m'.frames++m'.fg),n∈frN (m.frames++m.fg)∨n=920)
  (he:AC Tryz.prog gl 115 [.loc 901 0,.pv (itP pf),.pv (itP pa),.loc 920 0] (mO c l ((popFr (pop1 m s x) fs fr).keep fr.f fr.a x)++[(920,rdB r1)]) (.ret (.pv (.tuple []))) (mO c l m'++[(920,rdB r2)])) :
  AC Tryz.prog gl 132 [.loc 901 0] (mO c l m++[(920,rdB r)]) (.ret (.pv (.bool true))) (mO c l m'++[(920,rdB r2)]) :=
 lv_body c l m s x hs hl fs fr hf hfl p vs hff hz hsh hk r hr hN _ _ (fun n hn=>mO_6 c l m' r2 (oth_le hN) n hn) (mR_5 c l m m' r2 rfl hm') (lv_into c l _ x fr (oth m) r hr (rdB r) (rdB r1) pf pa hret m' (rdB r2) he)
theorem leave_push (r1:Rd) (pf pa:It) (hret:AC Tryz.prog gl 134 [.loc 920 0,.pv (itP x)] [(920,rdB r)] (.ret (.pv (.tuple [itP pf,itP pa,.bool false]))) [(920,rdB r1)]) (m':Mm) (hm':∀ n∈frN (m'.frames++m'.fg),n∈frN (m.frames++m.fg)∨n=920)
  (he:AC Tryz.prog gl 115 [.loc 901 0,.pv (itP pf),.pv (itP pa),.loc 920 0] (mO c l ((popFr (pop1 m s x) fs fr).keep fr.f fr.a x)++[(920,rdB r1)]) (.ret (.pv (.tuple []))) (mO c l m')) :
  AC Tryz.prog gl 132 [.loc 901 0] (mO c l m++[(920,rdB r)]) (.ret (.pv (.bool true))) (mO c l m') :=
 lv_body c l m s x hs hl fs fr hf hfl p vs hff hz hsh hk r hr hN _ _ (mO_2 c l _ (oth_le hN)) (mR_4 c l m m' rfl hm') (lv_push c l _ x fr (oth m) r hr (rdB r) (rdB r1) pf pa hret m' he)
end
end
def mO3 (c:List Ins) (l:Nat) (m:Mm):List (Nat × Ob):=[(901,mB c l m),(902,mS m),(903,mF m)]
def fr3 (m:Mm):List Nat:=980::frN (m.frames++m.fg)
theorem lo3 {m:Mm} {k:Nat} (hk:k≤980) (hN:∀ n∈frN (m.frames++m.fg),k≤n):∀ n∈fr3 m,k≤n:=by
 intro n hn
 simp only [fr3,List.mem_cons] at hn
 rcases hn with rfl|hn
 ·exact hk
 ·exact hN n hn
theorem mO3_1 (c:List Ins) (l:Nat) (m:Mm) {args:List V} : subL (fr3 m) (mentL args (mO3 c l m)):=by
 rw [subL_iff]
 intro n hn
 simp only [fr3,List.mem_cons] at hn
 simp only [mO3,mentL,mentO,mB_names,mF_names,mS_names,List.mem_append,List.mem_cons,List.not_mem_nil,or_false,false_or,List.append_nil,List.nil_append]
 rcases hn with hn|hn<;>simp [hn]
theorem mO3_2 (c:List Ins) (l:Nat) (m:Mm) {L:List Nat} (hN:∀ n∈L,905≤n):∀ n∈L,n ∉ keysO (mO3 c l m):=by
 intro n hn
 have:=hN n hn
 simp [keysO,mO3]
 omega
theorem namesOb_mO3 (c:List Ins) (l:Nat) (m:Mm):∀ n∈namesOb (mO3 c l m),n∈[901,902,903]++fr3 m:=by
 intro n hn
 simp only [mO3,fr3,namesOb,mB_names,mF_names,mS_names,List.mem_append,List.mem_cons,List.not_mem_nil,or_false,false_or,List.append_nil,List.nil_append,List.cons_append] at hn ⊢
 grind
theorem mO3_3 (c:List Ins) (l:Nat) (m:Mm) {args:List V} (ha:namesL args=[901]):subL (namesL args++namesOb (mO3 c l m)) ([901,902,903]++fr3 m):=by
 rw [subL_iff]
 intro n hn
 rw [ha] at hn
 rcases List.mem_append.1 hn with hn|hn
 ·simp only [List.mem_singleton] at hn;subst hn;simp
 ·exact namesOb_mO3 c l m n hn
noncomputable def c67:Code:=Tryz.f113.body.getD .skip
noncomputable def sw67:Code:=right (right (right (right (right c67))))
def nxt (m:Mm):Mm:={ m with steps:=m.steps+1,at_:=m.at_+1 }
theorem step_pre (c:List Ins) (l:Nat) (m:Mm) (p op a:Nat) (hat:m.at_=((p:Nat):Int)) (hc:c[p]? = some (op,a)) (hst:¬ m.steps=l) (hsl:m.steps≤1000000) (hp:p≤1000000) (SB FB RB:Ob) (ms:List Nat) (h3:3 ∉ ms) (h9:980∈ms) (Q:AEx→St→Prop)
  (hS:SB.names=[]) (hF:∀ n∈FB.names,n∈[901,902,903]++ms) (hR:RB.names=[])
  (h:AWP (XX [] 239 ([901,902,903]++ms)) sw67 ⟨[(0,.loc 901 0),(3,.loc 3 0)],[(901,mB c l (nxt m)),(902,SB),(903,FB),(3,.box [.pv (.int op),.pv (.int a)])],3::([901,902,903]++ms)⟩ Q) (hQ:∀ σ,Q (.panic (fail 5)) σ→Q (.panic (fail 5)) σ) :
  AWP (XX [] 239 ([901,902,903]++ms)) c67 ⟨zipArgs 0 [.loc 901 0],[(901,mB c l m),(902,SB),(903,FB)],[901,902,903]++ms⟩ Q:=by
 have e:c67 = .seq (left c67) (.seq (left (right c67)) (.seq (left (right (right c67))) (.seq (left (right (right (right c67)))) (.seq (left (right (right (right (right c67))))) sw67)))):=rfl
 rw [e]
 generalize sw67=tl at *
 clear e
 have hpl:p<c.length:=(List.getElem?_eq_some_iff.1 hc).1
 have hget:(c.map insP).getD p []=[.int op,.int a]:=by simp [List.getD,hc,insP]
 have hal:=insP_all c
 have hlen:(c.map insP).length=c.length:=by simp
 have hst':¬ ((m.steps:Nat):Int)=l:=by omega
 have hp1:((p:Nat):Int)<c.length:=by omega
 simp only [left,right,c67,Tryz.f113,Option.getD_some] at *
 have e1:((m.steps+1:Nat):Int)=m.steps+1:=by omega
 simp only [mB,nxt,hat,e1] at *
 generalize c.map insP=cs at *
 generalize varsP m.vars=vv at *
 clear hc hst e1 hat
 refine gg ?_
 refine⟨by rfl,?_⟩
 refine gg ?_
 refine⟨by rfl,?_⟩
 refine gg ?_
 refine AWP.weaken (τ:=⟨[(0,.loc 901 0),(3,.loc 3 0)],_,_⟩) ⟨by simp [slotsLe,getS],?_,?_⟩ h
 ·simp [subO,getO]
 ·rw [subL_iff]
  intro n hn
  have:=hF n
  simp only [namesSl,V.names,namesOb,obn_box,namesL,XX_given,hS,hR,List.mem_append,List.mem_cons,List.not_mem_nil,or_false,false_or,List.append_nil,List.nil_append,List.cons_append] at hn this ⊢
  grind
theorem step_limit (c:List Ins) (l:Nat) (m:Mm) (hst:m.steps=l) (hN:∀ n∈frN (m.frames++m.fg),905≤n):AC Tryz.prog gl 113 [.loc 901 0] (mO3 c l m) (.panic (fail 5)) []:=by
 refine bodyM [] (fr3 m) Tryz.func113 Tryz.ntmps113 ?_ (hms1:=mO3_1 c l m) (hms2:=mO3_2 c l m (lo3 (by omega) hN)) (hms3:=by simp [keysO]) (hna:=mO3_3 c l m rfl) (hno:=by simp [subL,Go.Lg.Out.names,namesOb])
 clear hN
 generalize fr3 m=ms at *
 generalize hF0:mF m=F0 at *
 subst hst
 simp only [mO3,hF0]
 generalize mS m=S0 at *
 simp only [mB,fail]
 generalize c.map insP=cs at *
 generalize varsP m.vars=vv at *
 refine gg ?_
 refine⟨by rfl,?_⟩
 refine gg ?_
 refine pnc (t:=179) (p:=.agg [.int 5]) ?_
 refine gg ?_
 exact⟨rfl,trivial⟩
open Go.Lg
set_option maxRecDepth 10000
set_option maxHeartbeats 4000000
theorem st_no (c:List Ins) (l:Nat) (m m':Mm) (b:Bool) (h:∀ n∈frN (m'.frames++m'.fg),n∈frN (m.frames++m.fg)):subL ((Go.Lg.Out.ret (.pv (.bool b))).names++namesOb (mO3 c l m')) (([901,902,903]++fr3 m)++keysO (mO3 c l m')):=by
 rw [subL_iff]
 intro n hn
 simp only [Go.Lg.Out.names,V.names,List.nil_append] at hn
 have h1:=namesOb_mO3 c l m' n hn
 have:=h n
 refine List.mem_append.2 (.inl ?_)
 simp only [fr3,List.mem_append,List.mem_cons] at h1 ⊢
 grind
theorem frN_app (a b:List Fr):frN (a++b)=frN a++frN b:=by simp [frN]
theorem hF_of (m:Mm):∀ n∈(mF m).names,n∈[901,902,903]++fr3 m:=by
 intro n hn
 rw [mF_names] at hn
 simp [fr3,hn]
section
variable (c:List Ins) (l:Nat) (m:Mm) (p:Nat) (hat:m.at_=((p:Nat):Int)) (hst:¬ m.steps=l) (hsl:m.steps≤1000000) (hp:p≤1000000) (hN:∀ n∈frN (m.frames++m.fg),1000≤n) (hl:m.stack.length≤900000)
include hat hst hsl hp hN hl
theorem step_zero (hc:c[p]? = some (4,0)):AC Tryz.prog gl 113 [.loc 901 0] (mO3 c l m) (.ret (.pv (.bool true))) (mO3 c l ((nxt m).push (.num 0))):=by
 have p1:=push_ok c l (nxt m) (.num 0) (by simp [nxt];omega)
 have hn:=num_item_ok 0
 have eS:mS (nxt m)=mS m:=rfl
 have eF:mF ((nxt m).push (.num 0))=mF m:=rfl
 rw [eS] at p1
 refine bodyM (c:=c67) (ks:=[901,902,903]++fr3 m) [] (fr3 m) Tryz.func113 Tryz.ntmps113 ?_ (hks:=rfl) (hms1:=mO3_1 c l m) (hms2:=mO3_2 c l m (lo3 (by omega) (fun n hn=>by have:=hN n hn;omega))) (hms3:=mO3_2 c l _ (lo3 (by omega) (fun n hn=>by have:=hN n hn;omega))) (hna:=mO3_3 c l m rfl) (hno:=st_no c l m _ true (fun n h=>h))
 refine step_pre c l m p 4 0 hat hc hst hsl hp (mS m) (mF m) (mS m) _ (fun h=>by have:=lo3 (k:=905) (by omega) (fun n hn=>by have:=hN n hn;omega) 3 h;omega) (by simp [fr3]) _ (mS_names m) (hF_of m) (mS_names m) ?_ (fun _ h=>h)
 simp only [sw67,right,c67,Tryz.f113,Option.getD_some]
 clear hN
 generalize fr3 m=ms at *
 simp only [mO3,eF]
 clear eF eS
 generalize mS m=S1 at *
 generalize mF m=F1 at *
 generalize mB c l (nxt m)=B1 at *
 generalize mB c l ((nxt m).push (.num 0))=B2 at *
 generalize mS ((nxt m).push (.num 0))=S2 at *
 simp only [itP,Int.cast_ofNat_Int] at *
 refine gg ?_
 refine call hn ?_
 refine gg ?_
 refine call p1 ?_
 refine gg ?_
 exact enC13
theorem step_nil (hc:c[p]? = some (7,0)):AC Tryz.prog gl 113 [.loc 901 0] (mO3 c l m) (.ret (.pv (.bool true))) (mO3 c l ((nxt m).push (.list []))):=by
 have p1:=push_ok c l (nxt m) (.list []) (by simp [nxt];omega)
 have eS:mS (nxt m)=mS m:=rfl
 have eF:mF ((nxt m).push (.list []))=mF m:=rfl
 rw [eS] at p1
 refine bodyM (c:=c67) (ks:=[901,902,903]++fr3 m) [] (fr3 m) Tryz.func113 Tryz.ntmps113 ?_ (hks:=rfl) (hms1:=mO3_1 c l m) (hms2:=mO3_2 c l m (lo3 (by omega) (fun n hn=>by have:=hN n hn;omega))) (hms3:=mO3_2 c l _ (lo3 (by omega) (fun n hn=>by have:=hN n hn;omega))) (hna:=mO3_3 c l m rfl) (hno:=st_no c l m _ true (fun n h=>h))
 refine step_pre c l m p 7 0 hat hc hst hsl hp (mS m) (mF m) (mS m) _ (fun h=>by have:=lo3 (k:=905) (by omega) (fun n hn=>by have:=hN n hn;omega) 3 h;omega) (by simp [fr3]) _ (mS_names m) (hF_of m) (mS_names m) ?_ (fun _ h=>h)
 simp only [sw67,right,c67,Tryz.f113,Option.getD_some]
 clear hN
 generalize fr3 m=ms at *
 simp only [mO3,eF]
 clear eF eS
 generalize mS m=S1 at *
 generalize mF m=F1 at *
 generalize mB c l (nxt m)=B1 at *
 generalize mB c l ((nxt m).push (.list []))=B2 at *
 generalize mS ((nxt m).push (.list []))=S2 at *
 simp only [itP,linkP,Int.cast_ofNat_Int] at *
 refine gg ?_
 refine call p1 ?_
 refine gg ?_
 exact enC13
theorem step_unit (hc:c[p]? = some (13,0)):AC Tryz.prog gl 113 [.loc 901 0] (mO3 c l m) (.ret (.pv (.bool true))) (mO3 c l ((nxt m).push .unit)):=by
 have p1:=push_ok c l (nxt m) .unit (by simp [nxt];omega)
 have eS:mS (nxt m)=mS m:=rfl
 have eF:mF ((nxt m).push .unit)=mF m:=rfl
 rw [eS] at p1
 refine bodyM (c:=c67) (ks:=[901,902,903]++fr3 m) [] (fr3 m) Tryz.func113 Tryz.ntmps113 ?_ (hks:=rfl) (hms1:=mO3_1 c l m) (hms2:=mO3_2 c l m (lo3 (by omega) (fun n hn=>by have:=hN n hn;omega))) (hms3:=mO3_2 c l _ (lo3 (by omega) (fun n hn=>by have:=hN n hn;omega))) (hna:=mO3_3 c l m rfl) (hno:=st_no c l m _ true (fun n h=>h))
 refine step_pre c l m p 13 0 hat hc hst hsl hp (mS m) (mF m) (mS m) _ (fun h=>by have:=lo3 (k:=905) (by omega) (fun n hn=>by have:=hN n hn;omega) 3 h;omega) (by simp [fr3]) _ (mS_names m) (hF_of m) (mS_names m) ?_ (fun _ h=>h)
 simp only [sw67,right,c67,Tryz.f113,Option.getD_some]
 clear hN
 generalize fr3 m=ms at *
 simp only [mO3,eF]
 clear eF eS
 generalize mS m=S1 at *
 generalize mF m=F1 at *
 generalize mB c l (nxt m)=B1 at *
 generalize mB c l ((nxt m).push .unit)=B2 at *
 generalize mS ((nxt m).push .unit)=S2 at *
 simp only [itP,Int.cast_ofNat_Int] at *
 refine gg ?_
 refine call p1 ?_
 refine gg ?_
 exact enC13
theorem step_var (a:Nat) (ha:a≤1000000) (x:It) (hx:m.vars[a]? = some x) (hc:c[p]? = some (1,a)):AC Tryz.prog gl 113 [.loc 901 0] (mO3 c l m) (.ret (.pv (.bool true))) (mO3 c l ((nxt m).push x)):=by
 have p1:=push_ok c l (nxt m) x (by simp [nxt];omega)
 have eS:mS (nxt m)=mS m:=rfl
 have eF:mF ((nxt m).push x)=mF m:=rfl
 have hal:a<m.vars.length:=(List.getElem?_eq_some_iff.1 hx).1
 rw [eS] at p1
 refine bodyM (c:=c67) (ks:=[901,902,903]++fr3 m) [] (fr3 m) Tryz.func113 Tryz.ntmps113 ?_ (hks:=rfl) (hms1:=mO3_1 c l m) (hms2:=mO3_2 c l m (lo3 (by omega) (fun n hn=>by have:=hN n hn;omega))) (hms3:=mO3_2 c l _ (lo3 (by omega) (fun n hn=>by have:=hN n hn;omega))) (hna:=mO3_3 c l m rfl) (hno:=st_no c l m _ true (fun n h=>h))
 refine step_pre c l m p 1 a hat hc hst hsl hp (mS m) (mF m) (mS m) _ (fun h=>by have:=lo3 (k:=905) (by omega) (fun n hn=>by have:=hN n hn;omega) 3 h;omega) (by simp [fr3]) _ (mS_names m) (hF_of m) (mS_names m) ?_ (fun _ h=>h)
 simp only [sw67,right,c67,Tryz.f113,Option.getD_some]
 have h3:3 ∉ fr3 m:=fun h=>by have:=lo3 (k:=905) (by omega) (fun n hn=>by have:=hN n hn;omega) 3 h;omega
 have h9:980∈fr3 m:=by simp [fr3]
 clear hN
 have hFn:∀ n∈(mF m).names,n∈fr3 m:=by intro n hn;rw [mF_names] at hn;simp [fr3,hn]
 have hSn:=mS_names m
 generalize fr3 m=ms at *
 simp only [mO3,eF]
 clear eF eS
 generalize mS m=S1 at *
 generalize mF m=F1 at *
 generalize mB c l ((nxt m).push x)=B2 at *
 generalize mS ((nxt m).push x)=S2 at *
 have hxd:m.vars.drop a=x::m.vars.drop (a+1):=by
  rw [List.drop_eq_getElem_cons hal]
  congr 1
  rw [List.getElem?_eq_getElem hal] at hx
  exact Option.some.inj hx
 simp only [mB] at *
 generalize c.map insP=cs at *
 generalize hn1:(nxt m).sv=n1 at *
 generalize hn2:(nxt m).fv=n2 at *
 generalize hn3:(nxt m).steps=n3 at *
 generalize hn4:(nxt m).at_=n4 at *
 generalize hn5:(nxt m).stack.length=n5 at *
 generalize hn6:(nxt m).frames.length=n6 at *
 have hvs:(nxt m).vars=m.vars:=rfl
 simp only [hvs] at p1 ⊢
 clear hvs
 refine gg ?_
 refine AWP.loopN a (fun k=>⟨[(0,.loc 901 0),(3,.loc 3 0),(4,.pv (varsP (m.vars.drop k))),(5,.pv (.int k))],[(901,.box [.pv (.slice cs),.pv (.int l),.pv (.int n3),.bfn 95 [.loc 980 0],.bfn 96 [.loc 980 0],.arr 902 n1 n5,.arr 903 n2 n6,.pv (.int n4),.pv (varsP m.vars)]),(902,S1),(903,F1),(3,.box [.pv (.int 1),.pv (.int a)])],[3,901,902,903]++ms⟩) ?_ ?_
 ·refine⟨by simp [slotsLe,getS],by simp [subO,getO],?_⟩
  rw [subL_iff]
  intro n hn
  have:=hFn n
  simp only [namesSl,V.names,namesOb,obn_box,namesL,XX_given,hSn,List.mem_append,List.mem_cons,List.not_mem_nil,or_false,false_or,List.append_nil,List.nil_append,List.cons_append] at hn this ⊢
  grind
 intro k hk
 by_cases h:k<a
 ·have h':(k:Int)<a:=by omega
  obtain⟨y,t,hyt⟩:∃ y t,m.vars.drop k=y::t:=by
   cases e:m.vars.drop k with
   | nil=>simp at e;omega
   | cons y t=>exact⟨y,t,rfl⟩
  have ht1:m.vars.drop (k+1)=t:=by rw [← List.drop_drop,hyt];rfl
  clear hxd hx
  rw [hyt]
  simp only [varsP]
  generalize hvt:varsP t=vt at *
  generalize itP y=vy at *
  generalize varsP m.vars=vv at *
  refine gg ?_
  refine⟨h,?_,?_,?_⟩
  ·simp [slotsLe,getS,ht1,hvt]
  ·simp [subO,getO]
  ·rw [subL_iff]
   intro n hn
   have:=hFn n
   simp only [namesSl,V.names,namesOb,obn_box,namesL,XX_given,hSn,List.mem_append,List.mem_cons,List.not_mem_nil,or_false,false_or,List.append_nil,List.nil_append,List.cons_append] at hn this ⊢
   grind
 ·have hka:k=a:=by omega
  subst hka
  have h':¬ (k:Int)<k:=by omega
  rw [hxd]
  simp only [varsP]
  generalize varsP (m.vars.drop (k+1))=vt at *
  generalize itP x=vx at *
  generalize varsP m.vars=vv at *
  clear hxd hx
  refine gg ?_
  refine call p1 ?_
  refine gg ?_
  exact enC13
end
section
variable (c:List Ins) (l:Nat) (m:Mm) (p:Nat) (hat:m.at_=((p:Nat):Int)) (hst:¬ m.steps=l) (hsl:m.steps≤1000000) (hp:p≤1000000) (hN:∀ n∈frN (m.frames++m.fg),1000≤n) (hl:m.stack.length≤900000)
include hat hst hsl hp hN hl
theorem step_succ_err (s:List It) (x:It) (hs:m.stack=s++[x]) (hk:¬ x.kind=1) (hc:c[p]? = some (5,0)):AC Tryz.prog gl 113 [.loc 901 0] (mO3 c l m) (.panic (fail 44)) []:=by
 have p1:=pop_ok c l (nxt m) s x (by simp [nxt,hs]) (by simp [nxt];omega)
 have eS:mS (nxt m)=mS m:=rfl
 rw [eS] at p1
 have hw:=want_err x 1 hk
 unfold fail at *
 refine bodyM (c:=c67) (ks:=[901,902,903]++fr3 m) [] (fr3 m) Tryz.func113 Tryz.ntmps113 ?_ (hks:=rfl) (hms1:=mO3_1 c l m) (hms2:=mO3_2 c l m (lo3 (by omega) (fun n hn=>by have:=hN n hn;omega))) (hms3:=by simp [keysO]) (hna:=mO3_3 c l m rfl) (hno:=by simp [subL,Go.Lg.Out.names,namesOb])
 refine step_pre c l m p 5 0 hat hc hst hsl hp (mS m) (mF m) (mS m) _ (fun h=>by have:=lo3 (k:=905) (by omega) (fun n hn=>by have:=hN n hn;omega) 3 h;omega) (by simp [fr3]) _ (mS_names m) (hF_of m) (mS_names m) ?_ (fun _ h=>h)
 simp only [sw67,right,c67,Tryz.f113,Option.getD_some]
 clear hN
 generalize fr3 m=ms at *
 try simp only [mO3]
 clear hk
 generalize itP x=vx at *
 clear eS
 try unfold pop1 at *
 generalize mS m=S1 at *
 generalize mF m=F1 at *
 generalize mB c l (nxt m)=B1 at *
 generalize mB c l { nxt m with stack:=s,sg:=x::(nxt m).sg } = B2 at *
 generalize mS { nxt m with stack:=s,sg:=x::(nxt m).sg } = S2 at *
 try simp only [Int.cast_ofNat_Int] at *
 refine gg ?_
 refine call p1 ?_
 refine gg ?_
 refine callP hw ?_
 refine gg ?_
 exact⟨rfl,trivial⟩
theorem step_fst_err (s:List It) (x:It) (hs:m.stack=s++[x]) (hk:¬ x.kind=3) (hc:c[p]? = some (11,0)):AC Tryz.prog gl 113 [.loc 901 0] (mO3 c l m) (.panic (fail 44)) []:=by
 have p1:=pop_ok c l (nxt m) s x (by simp [nxt,hs]) (by simp [nxt];omega)
 have eS:mS (nxt m)=mS m:=rfl
 rw [eS] at p1
 have hw:=want_err x 3 hk
 unfold fail at *
 refine bodyM (c:=c67) (ks:=[901,902,903]++fr3 m) [] (fr3 m) Tryz.func113 Tryz.ntmps113 ?_ (hks:=rfl) (hms1:=mO3_1 c l m) (hms2:=mO3_2 c l m (lo3 (by omega) (fun n hn=>by have:=hN n hn;omega))) (hms3:=by simp [keysO]) (hna:=mO3_3 c l m rfl) (hno:=by simp [subL,Go.Lg.Out.names,namesOb])
 refine step_pre c l m p 11 0 hat hc hst hsl hp (mS m) (mF m) (mS m) _ (fun h=>by have:=lo3 (k:=905) (by omega) (fun n hn=>by have:=hN n hn;omega) 3 h;omega) (by simp [fr3]) _ (mS_names m) (hF_of m) (mS_names m) ?_ (fun _ h=>h)
 simp only [sw67,right,c67,Tryz.f113,Option.getD_some]
 clear hN
 generalize fr3 m=ms at *
 try simp only [mO3]
 clear hk
 generalize itP x=vx at *
 clear eS
 try unfold pop1 at *
 generalize mS m=S1 at *
 generalize mF m=F1 at *
 generalize mB c l (nxt m)=B1 at *
 generalize mB c l { nxt m with stack:=s,sg:=x::(nxt m).sg } = B2 at *
 generalize mS { nxt m with stack:=s,sg:=x::(nxt m).sg } = S2 at *
 try simp only [Int.cast_ofNat_Int] at *
 refine gg ?_
 refine call p1 ?_
 refine gg ?_
 refine callP hw ?_
 refine gg ?_
 exact⟨rfl,trivial⟩
theorem step_snd_err (s:List It) (x:It) (hs:m.stack=s++[x]) (hk:¬ x.kind=3) (hc:c[p]? = some (12,0)):AC Tryz.prog gl 113 [.loc 901 0] (mO3 c l m) (.panic (fail 44)) []:=by
 have p1:=pop_ok c l (nxt m) s x (by simp [nxt,hs]) (by simp [nxt];omega)
 have eS:mS (nxt m)=mS m:=rfl
 rw [eS] at p1
 have hw:=want_err x 3 hk
 unfold fail at *
 refine bodyM (c:=c67) (ks:=[901,902,903]++fr3 m) [] (fr3 m) Tryz.func113 Tryz.ntmps113 ?_ (hks:=rfl) (hms1:=mO3_1 c l m) (hms2:=mO3_2 c l m (lo3 (by omega) (fun n hn=>by have:=hN n hn;omega))) (hms3:=by simp [keysO]) (hna:=mO3_3 c l m rfl) (hno:=by simp [subL,Go.Lg.Out.names,namesOb])
 refine step_pre c l m p 12 0 hat hc hst hsl hp (mS m) (mF m) (mS m) _ (fun h=>by have:=lo3 (k:=905) (by omega) (fun n hn=>by have:=hN n hn;omega) 3 h;omega) (by simp [fr3]) _ (mS_names m) (hF_of m) (mS_names m) ?_ (fun _ h=>h)
 simp only [sw67,right,c67,Tryz.f113,Option.getD_some]
 clear hN
 generalize fr3 m=ms at *
 try simp only [mO3]
 clear hk
 generalize itP x=vx at *
 clear eS
 try unfold pop1 at *
 generalize mS m=S1 at *
 generalize mF m=F1 at *
 generalize mB c l (nxt m)=B1 at *
 generalize mB c l { nxt m with stack:=s,sg:=x::(nxt m).sg } = B2 at *
 generalize mS { nxt m with stack:=s,sg:=x::(nxt m).sg } = S2 at *
 try simp only [Int.cast_ofNat_Int] at *
 refine gg ?_
 refine call p1 ?_
 refine gg ?_
 refine callP hw ?_
 refine gg ?_
 exact⟨rfl,trivial⟩
theorem step_succ (s:List It) (x:It) (hs:m.stack=s++[x]) (k:Nat) (hk:k≤1000000000) (hx:x = .num k) (hc:c[p]? = some (5,0)):AC Tryz.prog gl 113 [.loc 901 0] (mO3 c l m) (.ret (.pv (.bool true))) (mO3 c l ((pop1 (nxt m) s x).push (.num (k+1)))):=by
 have p1:=pop_ok c l (nxt m) s x (by simp [nxt,hs]) (by simp [nxt];omega)
 have eS:mS (nxt m)=mS m:=rfl
 rw [eS] at p1
 have hw:=want_ok x
 have hn:=number_item_ok ((k:Int)+1)
 have p2:=push_ok c l (pop1 (nxt m) s x) (.num (k+1)) (by simp [hs] at hl;simp [pop1];omega)
 have eF:mF ((pop1 (nxt m) s x).push (.num (k+1)))=mF m:=rfl
 have ek:((k+1:Nat):Int)=(k:Int)+1:=by omega
 refine bodyM (c:=c67) (ks:=[901,902,903]++fr3 m) [] (fr3 m) Tryz.func113 Tryz.ntmps113 ?_ (hks:=rfl) (hms1:=mO3_1 c l m) (hms2:=mO3_2 c l m (lo3 (by omega) (fun n hn=>by have:=hN n hn;omega))) (hms3:=mO3_2 c l _ (lo3 (by omega) (fun n hn=>by have:=hN n hn;omega))) (hna:=mO3_3 c l m rfl) (hno:=st_no c l m _ true (fun n h=>h))
 refine step_pre c l m p 5 0 hat hc hst hsl hp (mS m) (mF m) (mS m) _ (fun h=>by have:=lo3 (k:=905) (by omega) (fun n hn=>by have:=hN n hn;omega) 3 h;omega) (by simp [fr3]) _ (mS_names m) (hF_of m) (mS_names m) ?_ (fun _ h=>h)
 simp only [sw67,right,c67,Tryz.f113,Option.getD_some]
 clear hN
 generalize fr3 m=ms at *
 simp only [mO3,eF]
 clear eF
 generalize mB c l ((pop1 (nxt m) s x).push (.num (k+1)))=B3 at *
 generalize mS ((pop1 (nxt m) s x).push (.num (k+1)))=S3 at *
 subst hx
 clear eS
 try unfold pop1 at *
 generalize mS m=S1 at *
 generalize mF m=F1 at *
 generalize mB c l (nxt m)=B1 at *
 generalize mB c l { nxt m with stack:=s,sg:=.num k::(nxt m).sg } = B2 at *
 generalize mS { nxt m with stack:=s,sg:=.num k::(nxt m).sg } = S2 at *
 simp only [It.kind,itP,ek,Int.cast_ofNat_Int] at *
 refine gg ?_
 refine call p1 ?_
 refine gg ?_
 refine call hw ?_
 refine gg ?_
 refine call hn ?_
 refine gg ?_
 refine call p2 ?_
 refine gg ?_
 exact enC13
theorem step_fst (s:List It) (x:It) (hs:m.stack=s++[x]) (a b:It) (hx:x = .pair a b) (hc:c[p]? = some (11,0)):AC Tryz.prog gl 113 [.loc 901 0] (mO3 c l m) (.ret (.pv (.bool true))) (mO3 c l ((pop1 (nxt m) s x).push a)):=by
 have p1:=pop_ok c l (nxt m) s x (by simp [nxt,hs]) (by simp [nxt];omega)
 have eS:mS (nxt m)=mS m:=rfl
 rw [eS] at p1
 have hw:=want_ok x
 have p2:=push_ok c l (pop1 (nxt m) s x) a (by simp [hs] at hl;simp [pop1];omega)
 have eF:mF ((pop1 (nxt m) s x).push a)=mF m:=rfl
 refine bodyM (c:=c67) (ks:=[901,902,903]++fr3 m) [] (fr3 m) Tryz.func113 Tryz.ntmps113 ?_ (hks:=rfl) (hms1:=mO3_1 c l m) (hms2:=mO3_2 c l m (lo3 (by omega) (fun n hn=>by have:=hN n hn;omega))) (hms3:=mO3_2 c l _ (lo3 (by omega) (fun n hn=>by have:=hN n hn;omega))) (hna:=mO3_3 c l m rfl) (hno:=st_no c l m _ true (fun n h=>h))
 refine step_pre c l m p 11 0 hat hc hst hsl hp (mS m) (mF m) (mS m) _ (fun h=>by have:=lo3 (k:=905) (by omega) (fun n hn=>by have:=hN n hn;omega) 3 h;omega) (by simp [fr3]) _ (mS_names m) (hF_of m) (mS_names m) ?_ (fun _ h=>h)
 simp only [sw67,right,c67,Tryz.f113,Option.getD_some]
 clear hN
 generalize fr3 m=ms at *
 simp only [mO3,eF]
 clear eF
 generalize mB c l ((pop1 (nxt m) s x).push a)=B3 at *
 generalize mS ((pop1 (nxt m) s x).push a)=S3 at *
 subst hx
 clear eS
 try unfold pop1 at *
 generalize mS m=S1 at *
 generalize mF m=F1 at *
 generalize mB c l (nxt m)=B1 at *
 generalize mB c l { nxt m with stack:=s,sg:=.pair a b::(nxt m).sg } = B2 at *
 generalize mS { nxt m with stack:=s,sg:=.pair a b::(nxt m).sg } = S2 at *
 simp only [It.kind,itP,Int.cast_ofNat_Int] at *
 generalize itP a=va at *
 generalize itP b=vb at *
 generalize ((2+a.more+b.more:Nat):Int)=mo at *
 generalize (a.func || b.func)=fu at *
 refine gg ?_
 refine call p1 ?_
 refine gg ?_
 refine call hw ?_
 refine gg ?_
 refine call p2 ?_
 refine gg ?_
 refine⟨by rfl,?_⟩
 refine gg ?_
 exact enC13
theorem step_snd (s:List It) (x:It) (hs:m.stack=s++[x]) (a b:It) (hx:x = .pair a b) (hc:c[p]? = some (12,0)):AC Tryz.prog gl 113 [.loc 901 0] (mO3 c l m) (.ret (.pv (.bool true))) (mO3 c l ((pop1 (nxt m) s x).push b)):=by
 have p1:=pop_ok c l (nxt m) s x (by simp [nxt,hs]) (by simp [nxt];omega)
 have eS:mS (nxt m)=mS m:=rfl
 rw [eS] at p1
 have hw:=want_ok x
 have p2:=push_ok c l (pop1 (nxt m) s x) b (by simp [hs] at hl;simp [pop1];omega)
 have eF:mF ((pop1 (nxt m) s x).push b)=mF m:=rfl
 refine bodyM (c:=c67) (ks:=[901,902,903]++fr3 m) [] (fr3 m) Tryz.func113 Tryz.ntmps113 ?_ (hks:=rfl) (hms1:=mO3_1 c l m) (hms2:=mO3_2 c l m (lo3 (by omega) (fun n hn=>by have:=hN n hn;omega))) (hms3:=mO3_2 c l _ (lo3 (by omega) (fun n hn=>by have:=hN n hn;omega))) (hna:=mO3_3 c l m rfl) (hno:=st_no c l m _ true (fun n h=>h))
 refine step_pre c l m p 12 0 hat hc hst hsl hp (mS m) (mF m) (mS m) _ (fun h=>by have:=lo3 (k:=905) (by omega) (fun n hn=>by have:=hN n hn;omega) 3 h;omega) (by simp [fr3]) _ (mS_names m) (hF_of m) (mS_names m) ?_ (fun _ h=>h)
 simp only [sw67,right,c67,Tryz.f113,Option.getD_some]
 clear hN
 generalize fr3 m=ms at *
 simp only [mO3,eF]
 clear eF
 generalize mB c l ((pop1 (nxt m) s x).push b)=B3 at *
 generalize mS ((pop1 (nxt m) s x).push b)=S3 at *
 subst hx
 clear eS
 try unfold pop1 at *
 generalize mS m=S1 at *
 generalize mF m=F1 at *
 generalize mB c l (nxt m)=B1 at *
 generalize mB c l { nxt m with stack:=s,sg:=.pair a b::(nxt m).sg } = B2 at *
 generalize mS { nxt m with stack:=s,sg:=.pair a b::(nxt m).sg } = S2 at *
 simp only [It.kind,itP,Int.cast_ofNat_Int] at *
 generalize itP a=va at *
 generalize itP b=vb at *
 generalize ((2+a.more+b.more:Nat):Int)=mo at *
 generalize (a.func || b.func)=fu at *
 refine gg ?_
 refine call p1 ?_
 refine gg ?_
 refine call hw ?_
 refine gg ?_
 refine call p2 ?_
 refine gg ?_
 refine⟨by rfl,?_⟩
 refine gg ?_
 exact enC13
end
end Go.Proofs.YtodjpfpmhjdhbaaGreatDoor
