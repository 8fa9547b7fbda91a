/- Contracts of functions; no conditions. -/
import Derived.Test.YtodjpfpmhjdhbaaGreatDoorTwiceC17
set_option linter.all false
theorem Go.Proofs.YtodjpfpmhjdhbaaGreatDoor.onC18 {s : Go.Lg.PV} (h : s.one = true) : (Go.Lg.V.pv s).one = true := by rw [Go.Lg.one_pv]; exact h
namespace Go.Proofs.YtodjpfpmhjdhbaaGreatDoor
open Go.Lg
set_option maxRecDepth 10000
set_option maxHeartbeats 4000000
def resO:List (Nat × Ob):=[(4,.box [.pv .nil]),(5,.box [.pv (.int 0)])]
noncomputable def gO (c:List Ins) (l:Nat) (m:Mm):List (Nat × Ob):=(mO c l m++rdO m.frames)++resO
def gU (m:Mm):List Nat:=4::5::(keysM++frN (m.frames++m.fg))
noncomputable def GS (c:List Ins) (l:Nat) (S:List (Nat × V)) (m:Mm):St:=⟨S,gO c l m,gU m⟩
theorem keys_mr (c:List Ins) (l:Nat) (m:Mm):keysO (mO c l m++rdO m.frames)=keysM++frN m.frames:=by rw [keysO_app,keys_mO,rdO_keys]
theorem mr_not {c:List Ins} {l:Nat} {m:Mm} (hnm:Nm m) {k:Nat} (hk:k<900):k ∉ keysO (mO c l m++rdO m.frames):=by
 rw [keys_mr]
 intro h
 rcases List.mem_append.1 h with h|h
 ·simp [keysM] at h;omega
 ·have:=hnm.lo k (by rw [frN_app];exact List.mem_append.2 (.inl h))
  omega
theorem sub_gO {c:List Ins} {l:Nat} {m:Mm} {objs:List (Nat × Ob)} (h:subO objs (mO c l m++rdO m.frames)):subO objs (gO c l m):=by
 refine subO_congr (l:=mO c l m++rdO m.frames) ?_ h
 intro n hn
 obtain⟨o,ho⟩:=getO_of_mem hn
 have:=subO_spec h n o ho
 unfold gO
 rw [getO_app (mO c l m++rdO m.frames),this]
theorem sub_keys {objs L:List (Nat × Ob)} (h:subO objs L):∀ k∈keysO objs,k∈keysO L:=by
 intro k hk
 obtain⟨o,ho⟩:=getO_of_mem hk
 exact getO_some_mem (subO_spec h k o ho)
theorem freshL_of {l u:List Nat} (h:∀ n∈l,n ∉ u):freshL l u:=by
 induction l with
 | nil=>trivial
 | cons a l ih=>exact⟨h a (by simp),ih (fun n hn=>h n (by simp [hn]))⟩
theorem fresh_gU {m:Mm} (hnm:Nm m) {objs objs':List (Nat × Ob)} (h:∀ k∈keysO objs',k∈keysO objs∨k=1000+m.steps):freshL ((keysO objs').filter (fun n=>(getO objs n).isNone)) (gU m):=by
 refine freshL_of fun n hn => ?_
 rw [List.mem_filter] at hn
 rcases h n hn.1 with h1|rfl
 ·obtain⟨o,ho⟩:=getO_of_mem h1
  rw [ho] at hn
  simp at hn
 ·intro hu
  simp only [gU,List.mem_cons,List.mem_append] at hu
  rcases hu with hu|hu|hu|hu<;>try omega
  ·simp [keysM] at hu;omega
  ·have:=hnm.hi _ hu
   omega
theorem rdO_names (l:List Fr):∀ n∈namesOb (rdO l),n∈frN l:=by
 intro n hn
 rw [← rdO_keys]
 have key:∀ (L:List (Nat × Ob)),(∀ p∈L,p.2.names=[])→∀ n∈namesOb L,n∈keysO L:=by
  intro L
  induction L with
  | nil=>intro _ n hn;exact hn
  | cons p r ih =>
   obtain⟨k,o⟩:=p
   intro hL n hn
   have h0:=hL (k,o) (by simp)
   simp only at h0
   simp only [namesOb,h0,List.nil_append,List.cons_append,List.append_nil,List.mem_cons,List.mem_append,List.not_mem_nil,or_false,false_or] at hn
   simp only [keysO,List.map_cons,List.mem_cons]
   rcases hn with hh|hh
   ·exact .inl hh
   ·exact .inr (ih (fun p hp=>hL p (by simp [hp])) n hh)
 refine key (rdO l) ?_ n hn
 intro p hp
 simp only [rdO,List.mem_filterMap,Option.map_eq_some_iff] at hp
 obtain⟨fr,_,q,_,rfl⟩:=hp
 exact rB_names _ _
theorem gO_names (c:List Ins) (l:Nat) (m:Mm):∀ n∈namesOb (gO c l m),n∈gU m:=by
 intro n hn
 unfold gO at hn
 rw [namesOb_app,namesOb_app] at hn
 simp only [gU,List.mem_cons]
 rcases List.mem_append.1 hn with hn|hn
 ·rcases List.mem_append.1 hn with hn|hn
  ·have:=namesOb_mO c l m n hn
   exact .inr (.inr this)
  ·have:=rdO_names _ n hn
   rw [frN_app]
   simp only [List.mem_append]
   exact .inr (.inr (.inr (.inl this)))
 ·simp [resO,namesOb,Ob.names,namesL,V.names] at hn
  omega
theorem GS_weak {nm:List (Nat × Note)} {nt:Nat} {c:List Ins} {l:Nat} {m m':Mm} {S S':List (Nat × V)} {U:List Nat} {objs objs':List (Nat × Ob)} (hnm:Nm m) (hnm':Nm m') (hsub:subO objs (mO c l m++rdO m.frames))
  (hkeys:∀ k∈keysO objs',k∈keysO objs∨k=1000+m.steps)
  (hget:∀ k o,getO (mO c l m'++rdO m'.frames) k=some o→getO objs' k=some o∨(getO objs' k=none∧k ∉ keysO objs∧getO (mO c l m++rdO m.frames) k=some o))
  (hS:slotsLe S S') (hSn:∀ n∈namesSl S,n∈[901,980,981,982,983,984,985,4,5]):Weak (XX nm nt [901,980,981,982,983,984,985,4,5]) ⟨S',updAll (gO c l m) (callWr objs objs'),U⟩ (GS c l S m'):=by
 refine⟨hS,?_,?_⟩
 ·refine subO_mem ?_
  have low:∀ p∈resO,getO (updAll (gO c l m) (callWr objs objs')) p.1=some p.2:=by
   intro p hp
   have hp1:p.1<900:=by
    simp only [resO,List.mem_cons,List.not_mem_nil,or_false] at hp
    rcases hp with rfl|rfl<;>decide
   have h1:p.1 ∉ keysO objs:=fun h=>mr_not (c:=c) (l:=l) hnm hp1 (sub_keys hsub _ h)
   have h2:getO objs' p.1=none:=getO_none (fun h=>by
    rcases hkeys _ h with h|h
    ·exact h1 h
    ·omega)
   rw [getO_callWr,h2]
   simp only [h1,if_false]
   unfold gO
   rw [getO_app,getO_none (mr_not (c:=c) (l:=l) hnm hp1)]
   exact getO_nodup (by decide) p hp
  intro p hp
  simp only [GS,gO] at hp
  rcases List.mem_append.1 hp with hp|hp
  ·have hnd:(keysO (mO c l m'++rdO m'.frames)).Nodup:=by
    rw [keys_mr,List.nodup_append]
    refine⟨by decide,hnm'.nd,?_⟩
    intro a ha b hb e
    subst e
    have:=hnm'.lo a (by rw [frN_app];exact List.mem_append.2 (.inl hb))
    simp [keysM] at ha
    omega
   have hg:=getO_nodup hnd p hp
   rw [getO_callWr]
   rcases hget _ _ hg with h|⟨h1,h2,h3⟩
   ·rw [h]
   ·rw [h1]
    simp only [h2,if_false]
    unfold gO
    rw [getO_app,h3]
  ·exact low p hp
 ·rw [subL_iff]
  intro n hn
  simp only [XX_given,List.mem_append] at hn
  show n∈gU m'
  rcases hn with (hn|hn)|hn
  ·have:=hSn n hn
   simp [gU,keysM] at this ⊢
   omega
  ·exact gO_names c l m' n hn
  ·simp [gU,keysM] at hn ⊢
   omega
theorem resGo (nm:List (Nat × Note)) (gv:List Nat) (σ:St) (x:PV) (e:Int) (h4:getS σ.slots 4 = .loc 4 0) (h5:getS σ.slots 5 = .loc 5 0) (o4:getO σ.objs 4=some (.box [.pv x])) (o5:getO σ.objs 5=some (.box [.pv (.int e)])) (hx:x.one=true) :
  resV (XX nm 38 gv) σ Tryz.f84.results.toList=some (.pv (.tuple [x,.int e])):=by
 have v1:=vcells_one hx
 have o1:=onC18 hx
 show resV (XX nm 38 gv) σ [.cell 4 132,.cell 5 36]=_
 simp only [resV,resL,resOne,XX_T,tt132,tt36,h4,h5,o4,o5,List.drop_zero,TI.isAgg,rdV,vcells,List.take_succ_cons,List.take_zero,List.take_nil,mkTup,unL,V.un,Option.map_some,Bool.false_eq_true,if_false]
def ErrSt (σ:St):Prop:=getS σ.slots 4 = .loc 4 0∧getS σ.slots 5 = .loc 5 0∧getO σ.objs 4=some (.box [.pv .nil])∧getO σ.objs 5=some (.box [.pv (.int 0)])
theorem rescue_err {e:Nat} {σ:St} (h:ErrSt σ):rescueQ (XX [] 38 [901,980,981,982,983,984,985]) Tryz.f84.results.toList 112 [.loc 4 0,.loc 5 0] (.pv (.tuple [.nil,.int e])) [] (.panic (fail e)) σ:=by
 obtain⟨h4,h5,o4,o5⟩:=h
 have hsub:subO [(4,.box [.pv .nil]),(5,.box [.pv (.int 0)])] σ.objs:=⟨o4,o5,trivial⟩
 refine⟨_,_,catch_66 e,hsub,rfl,rfl,?_,trivial⟩
 refine resGo [] [901,980,981,982,983,984,985] _ .nil e h4 h5 ?_ ?_ rfl
 ·simp only [St.eff,callEff]
  rw [getO_callWr]
  rfl
 ·simp only [St.eff,callEff]
  rw [getO_callWr]
  rfl
theorem errSt_of {c:List Ins} {l:Nat} {m:Mm} {objs:List (Nat × Ob)} {S:List (Nat × V)} {U:List Nat} (hnm:Nm m) (hsub:subO objs (mO c l m++rdO m.frames)) (h4:getS S 4 = .loc 4 0) (h5:getS S 5 = .loc 5 0) :
  ErrSt ⟨S,updAll (gO c l m) (callWr objs []),U⟩:=by
 have low:∀ k o,k<900→getO resO k=some o→getO (updAll (gO c l m) (callWr objs [])) k=some o:=by
  intro k o hk ho
  have h1:k ∉ keysO objs:=fun h=>mr_not (c:=c) (l:=l) hnm hk (sub_keys hsub _ h)
  rw [getO_callWr]
  simp only [getO,h1,if_false]
  unfold gO
  rw [getO_app (mO c l m++rdO m.frames),getO_none (mr_not (c:=c) (l:=l) hnm hk)]
  exact ho
 exact⟨h4,h5,low 4 _ (by decide) rfl,low 5 _ (by decide) rfl⟩
structure Inv (l b:Nat) (m:Mm):Prop where
 nm:Nm m
 ok:OkM (b+m.steps) ((b+m.steps) * 4700000000000) m
 le:m.steps≤l
theorem Inv.step {c:List Ins} {l b:Nat} {m:Mm} {r:Rm} (hcode:Okc c) (hl:b+l≤200000) (hi:Inv l b m) (h:m.step c l (1000+m.steps)=some r) :
  StepR c l m r∧(∀ m',r = .go m'∨r = .stop m'→Inv l b m'∧l-m'.steps<l-m.steps):=by
 obtain⟨h1,h2,h3⟩:=step_stepsM h
 have hle:=hi.le
 have hokr:=hi.ok.step h
 by_cases e:m.steps=l
 ·obtain rfl:=h2 e
  exact⟨step_full_limit c l m e hi.nm,fun m' hm=>by rcases hm with h|h<;>cases h⟩
 ·have hat:=h3 e
  have hp:m.at_=((m.at_.toNat:Nat):Int):=by omega
  have hpl:m.at_.toNat≤1000000:=by
   unfold Mm.step at h
   rw [if_neg e,if_neg (by omega)] at h
   split at h
   ·cases h
   ·rename_i op a hc
    exact (hcode _ _ _ hc).1
  have hfull:=step_full c l m m.at_.toNat hp e (by omega) hpl hi.nm (b0:=b+m.steps) (by omega) (N0:=(b+m.steps) * 4700000000000) (by omega) hi.ok hcode r h
  refine⟨hfull,?_⟩
  rintro m' (rfl|rfl)
  ·obtain⟨objs,objs',-,-,-,-,hnm'⟩:=hfull
   simp only [StsM] at h1
   simp only [OkrM] at hokr
   exact⟨⟨hnm',by rw [h1];exact hokr.mono (by omega) (by omega),by omega⟩,by omega⟩
  ·obtain⟨objs,objs',-,-,-,-,hnm'⟩:=hfull
   simp only [StsM] at h1
   simp only [OkrM] at hokr
   exact⟨⟨hnm',by rw [h1];exact hokr.mono (by omega) (by omega),by omega⟩,by omega⟩
noncomputable def c49:Code:=Tryz.f84.body.getD .skip
noncomputable def lp49:Code:=left (right (right c49))
theorem names_S1 (av:PV):∀ n∈namesSl [(0,.loc 901 0),(1,.pv av),(4,.loc 4 0),(5,.loc 5 0)],n∈[901,980,981,982,983,984,985,4,5]:=by
 intro n hn
 simp [namesSl,V.names] at hn ⊢
 omega
theorem GS_refl {nm:List (Nat × Note)} {nt:Nat} {c:List Ins} {l:Nat} {m:Mm} {S:List (Nat × V)} (hnm:Nm m) (hSn:∀ n∈namesSl S,n∈[901,980,981,982,983,984,985,4,5]) (hS:slotsLe S S):Weak (XX nm nt [901,980,981,982,983,984,985,4,5]) (GS c l S m) (GS c l S m):=by
 have:=GS_weak (nm:=nm) (nt:=nt) (c:=c) (l:=l) (S:=S) (S':=S) (U:=gU m) (objs:=[]) (objs':=[]) hnm hnm trivial (by simp [keysO]) (fun k o h => .inr ⟨rfl,by simp [keysO],h⟩) hS hSn
 exact this
theorem loop1 (c:List Ins) (l b:Nat) (hcode:Okc c) (hl:b+l≤200000) (av:PV) (r:Rm) (m:Mm) (hi:Inv l b m) (hr:RunsM c l m r) (Q:AEx→St→Prop)
  (hstop:∀ m1 σ,r = .stop m1→Inv l b m1→Weak (XX [] 38 [901,980,981,982,983,984,985,4,5]) σ (GS c l [(0,.loc 901 0),(1,.pv av),(4,.loc 4 0),(5,.loc 5 0)] m1)→Q .normal σ) (herr:∀ e σ,r = .err e→ErrSt σ→Q (.panic (fail e)) σ) :
  AWP (XX [] 38 [901,980,981,982,983,984,985,4,5]) lp49 (GS c l [(0,.loc 901 0),(1,.pv av),(4,.loc 4 0),(5,.loc 5 0)] m) Q:=by
 simp only [lp49,c49,Tryz.f84,Option.getD_some,left,right]
 refine ex_block ?_
 refine AWP.loop (ι:={ m:Mm // Inv l b m∧RunsM c l m r }) (fun i=>GS c l [(0,.loc 901 0),(1,.pv av),(4,.loc 4 0),(5,.loc 5 0)] i.1) (fun i=>l-i.1.steps) ⟨m,hi,hr⟩ ?_ ?_
 ·exact GS_refl hi.nm (names_S1 av) (by simp [slotsLe,getS])
 ·rintro⟨m,hi,hr⟩
  simp only
  have hs:∃ q,m.step c l (1000+m.steps)=some q:=by cases hr<;>exact⟨_,by assumption⟩
  obtain⟨q,hq⟩:=hs
  obtain⟨hfull,hnext⟩:=hi.step hcode hl hq
  have hfg:=fun (objs objs':List (Nat × Ob)) h=>fresh_gU (objs:=objs) (objs':=objs') hi.nm h
  unfold GS
  refine gg ?_
  cases q with
  | err e =>
   obtain⟨objs,hac,hsub⟩:=hfull
   have hre:r = .err e:=by
    cases hr with
    | stop h=>rw [h] at hq;cases hq
    | err h=>rw [h] at hq;cases hq;rfl
    | go h _=>rw [h] at hq;cases hq
   have hst:ErrSt ⟨[(10,.loc 901 0),(0,.loc 901 0),(1,.pv av),(4,.loc 4 0),(5,.loc 5 0)],updAll (gO c l m) (callWr objs []),[]++gU m⟩:=errSt_of hi.nm hsub rfl rfl
   refine runOps_call_panic (X:=XX [] 38 [901,980,981,982,983,984,985,4,5]) hac (by simp only [dstOK,XX_nt];decide) rfl rfl (sub_gO hsub) trivial (σ':=⟨[(10,.loc 901 0),(0,.loc 901 0),(1,.pv av),(4,.loc 4 0),(5,.loc 5 0)],updAll (gO c l m) (callWr objs []),[]++gU m⟩) rfl ?_
   simp only [thenQ_panic,blockQ_panic]
   exact herr e _ hre hst
  | go m' =>
   obtain⟨objs,objs',hac,hsub,hkeys,hget,hnm'⟩:=hfull
   have hrm:RunsM c l m' r:=by
    cases hr with
    | stop h=>rw [h] at hq;cases hq
    | err h=>rw [h] at hq;cases hq
    | go h h'=>rw [h] at hq;cases hq;exact h'
   have hn:=hnext m' (.inl rfl)
   have hw:=fun (S':List (Nat × V)) (U:List Nat) hS=>GS_weak (nm:=[]) (nt:=38) (c:=c) (l:=l) (S:=[(0,.loc 901 0),(1,.pv av),(4,.loc 4 0),(5,.loc 5 0)]) (S':=S') (U:=U) hi.nm hnm' hsub hkeys hget hS (names_S1 av)
   refine runOps_call (X:=XX [] 38 [901,980,981,982,983,984,985,4,5]) hac (by simp only [dstOK,XX_nt];decide) rfl rfl (sub_gO hsub) (hfg _ _ hkeys) (σ':=⟨[(11,.pv (.bool true)),(10,.loc 901 0),(0,.loc 901 0),(1,.pv av),(4,.loc 4 0),(5,.loc 5 0)],updAll (gO c l m) (callWr objs objs'),(keysO objs').filter (fun n=>(getO objs n).isNone)++gU m⟩) rfl rfl ?_
   generalize updAll (gO c l m) (callWr objs objs')=O1 at *
   generalize (keysO objs').filter (fun n=>(getO objs n).isNone)++gU m=U1 at *
   refine gg ?_
   exact⟨⟨m',hn.1,hrm⟩,hn.2,hw _ _ (by simp [slotsLe,getS])⟩
  | stop m' =>
   obtain⟨objs,objs',hac,hsub,hkeys,hget,hnm'⟩:=hfull
   have hrm:r = .stop m':=by
    cases hr with
    | stop h=>rw [h] at hq;cases hq;rfl
    | err h=>rw [h] at hq;cases hq
    | go h h'=>rw [h] at hq;cases hq
   have hn:=hnext m' (.inr rfl)
   have hw:=fun (S':List (Nat × V)) (U:List Nat) hS=>GS_weak (nm:=[]) (nt:=38) (c:=c) (l:=l) (S:=[(0,.loc 901 0),(1,.pv av),(4,.loc 4 0),(5,.loc 5 0)]) (S':=S') (U:=U) hi.nm hnm' hsub hkeys hget hS (names_S1 av)
   refine runOps_call (X:=XX [] 38 [901,980,981,982,983,984,985,4,5]) hac (by simp only [dstOK,XX_nt];decide) rfl rfl (sub_gO hsub) (hfg _ _ hkeys) (σ':=⟨[(11,.pv (.bool false)),(10,.loc 901 0),(0,.loc 901 0),(1,.pv av),(4,.loc 4 0),(5,.loc 5 0)],updAll (gO c l m) (callWr objs objs'),(keysO objs').filter (fun n=>(getO objs n).isNone)++gU m⟩) rfl rfl ?_
   generalize updAll (gO c l m) (callWr objs objs')=O1 at *
   generalize (keysO objs').filter (fun n=>(getO objs n).isNone)++gU m=U1 at *
   refine gg ?_
   exact hstop m' _ hrm hn.1 (hw _ _ (by simp [slotsLe,getS]))
open Go.Lg
set_option maxRecDepth 10000
set_option maxHeartbeats 4000000
def tE (h:Nat):Ob:=.box [.undef,.undef,.undef,.undef,.undef,.pv (.int h)]
def mE (c:List Ins) (l k:Nat):Ob:=.box [.pv (.slice (c.map insP)),.pv (.int l),.pv (.int k),.undef,.undef,.undef,.undef,.undef,.undef]
theorem GS_less {nm:List (Nat × Note)} {nt:Nat} {c:List Ins} {l:Nat} {m:Mm} {S:List (Nat × V)} (hnm:Nm m) (hS:slotsLe [(0,.loc 901 0),(4,.loc 4 0),(5,.loc 5 0)] S) :
  Weak (XX nm nt [901,980,981,982,983,984,985,4,5]) (GS c l S m) ⟨[(0,.loc 901 0),(4,.loc 4 0),(5,.loc 5 0)],[(901,mB c l m),(902,mS m),(980,tB m.tab.hits),(4,.box [.pv .nil]),(5,.box [.pv (.int 0)])],[4,5,901,902,903,980,981,982,983,984,985]⟩:=by
 have h4:=getO_none (mr_not (c:=c) (l:=l) hnm (k:=4) (by decide))
 have h5:=getO_none (mr_not (c:=c) (l:=l) hnm (k:=5) (by decide))
 refine⟨hS,?_,?_⟩
 ·refine⟨rfl,rfl,rfl,?_,?_,trivial⟩
  ·show getO (gO c l m) 4=_
   unfold gO
   rw [getO_app (mO c l m++rdO m.frames),h4]
   rfl
  ·show getO (gO c l m) 5=_
   unfold gO
   rw [getO_app (mO c l m++rdO m.frames),h5]
   rfl
 ·rw [subL_iff]
  intro n hn
  simp only [XX_given,namesSl,V.names,namesOb,mB_names,mS_names,tB_names,obn_box,namesL,List.mem_append,List.mem_cons,List.not_mem_nil,or_false,false_or,List.append_nil,List.nil_append,List.cons_append] at hn ⊢
  grind
noncomputable def tl49:Code:=right (right (right (right c49)))
theorem tail49 (c:List Ins) (l b:Nat) (hl:b+l≤200000) (m m':Mm) (x:It) (hi:Inv l b m) (hpop:m.pop=some (x,m')) (S:List (Nat × V)) (hS:slotsLe [(0,.loc 901 0),(4,.loc 4 0),(5,.loc 5 0)] S) :
  AWP (XX [] 38 [901,980,981,982,983,984,985,4,5]) tl49 (GS c l S m) (rescueQ (XX [] 38 [901,980,981,982,983,984,985]) Tryz.f84.results.toList 112 [.loc 4 0,.loc 5 0] (.pv (.tuple [itP x,.int 0])) [(901,mE c l m.steps),(980,tE m.tab.hits)]):=by
 refine AWP.weaken (GS_less hi.nm hS) ?_
 obtain⟨s,hs,-⟩:=popM_inv hpop
 have hle:=hi.le
 have hlen:=hi.ok.len
 have p1:=pop_ok c l m s x hs (by omega)
 have q1:=vcells_one (itP_one x)
 have q3:(V.pv (itP x)).one=true:=by rw [one_pv];exact itP_one x
 have q4:=itP_one x
 refine AWP.fgt ?_
 have hres:∀ (σ:St) (y:PV) (e:Int),getS σ.slots 4 = .loc 4 0→getS σ.slots 5 = .loc 5 0→getO σ.objs 4=some (.box [.pv y])→getO σ.objs 5=some (.box [.pv (.int e)])→y.one=true→resV (XX [] 38 [901,980,981,982,983,984,985]) σ Tryz.f84.results.toList=some (.pv (.tuple [y,.int e])):=fun σ y e=>resGo [] [901,980,981,982,983,984,985] σ y e
 generalize hRQ:rescueQ (XX [] 38 [901,980,981,982,983,984,985]) Tryz.f84.results.toList=RQ
 have hfin:∀ (σ:St) (cs:List V),getO σ.objs 901=some (.box cs)→cs.length=9→cs[0]? = some (.pv (.slice (c.map insP)))→cs[1]? = some (.pv (.int l))→cs[2]? = some (.pv (.int m.steps))→getS σ.slots 4 = .loc 4 0→getS σ.slots 5 = .loc 5 0→getO σ.objs 4=some (.box [.pv (itP x)])→getO σ.objs 5=some (.box [.pv (.int 0)])→getO σ.objs 980=some (tB m.tab.hits) →
   ∃ σ2,Fgt σ σ2∧RQ 112 [.loc 4 0,.loc 5 0] (.pv (.tuple [itP x,.int 0])) [(901,mE c l m.steps),(980,tE m.tab.hits)] .ret σ2:=by
  intro σ cs h1 h2 h3 h4 h5 h6 h7 h8 h9 h10
  have f1:=Fgt.box (σ:=σ) (n:=901) (cs':=[.pv (.slice (c.map insP)),.pv (.int l),.pv (.int m.steps),.undef,.undef,.undef,.undef,.undef,.undef]) h1 (by rw [h2];rfl) (by
   intro i y hy
   match i with
   | 0=>right;rw [h3];exact hy
   | 1=>right;rw [h4];exact hy
   | 2=>right;rw [h5];exact hy
   | 3|4|5|6|7|8=>left;cases hy;rfl
   | n+9=>cases hy)
  have f2:=Fgt.box (σ:=⟨σ.slots,setO σ.objs 901 (.box [.pv (.slice (c.map insP)),.pv (.int l),.pv (.int m.steps),.undef,.undef,.undef,.undef,.undef,.undef]),σ.used⟩) (n:=980) (cs:=[.map 981,.map 982,.map 983,.map 984,.map 985,.pv (.int m.tab.hits)]) (cs':=[.undef,.undef,.undef,.undef,.undef,.pv (.int m.tab.hits)]) (by simp only [getO_setO];exact h10) rfl (by
   intro i y hy
   match i with
   | 5=>right;exact hy
   | 0|1|2|3|4=>left;cases hy;rfl
   | n+6=>cases hy)
  refine⟨_,fun C E a w h=>f2 C E a w (f1 C E a w h),?_⟩
  rw [← hRQ]
  refine⟨hres _ _ _ h6 h7 ?_ ?_ q4,?_,?_,trivial⟩
  ·simp only [getO_setO];exact h8
  ·simp only [getO_setO];exact h9
  ·simp only [getO_setO];rfl
  ·simp only [getO_setO];rfl
 simp only [tl49,c49,Tryz.f84,Option.getD_some,right]
 clear hRQ hres hi hpop hs hlen
 simp only [mB] at p1 ⊢
 generalize tB m.tab.hits=T0 at *
 generalize mS m=S0 at *
 generalize mS { m with stack:=s,sg:=x::m.sg } = S1 at *
 generalize itP x=vx at *
 generalize varsP m.vars=vv at *
 generalize c.map insP=cc at *
 refine gg ?_
 refine call p1 ?_
 refine gg ?_
 exact hfin _ _ rfl rfl rfl rfl rfl rfl rfl rfl rfl rfl
noncomputable def md49:Code:=left (right (right (right c49)))
def mB0 (c:List Ins) (l:Nat):Ob:=.box [.pv (.slice (c.map insP)),.pv (.int l),.pv (.int 0),.bfn 95 [.loc 980 0],.bfn 96 [.loc 980 0],.pv .nils,.pv .nils,.pv (.int 0),.pv .nil]
noncomputable def gO0 (c:List Ins) (l:Nat):List (Nat × Ob):=(901,mB0 c l)::(980,tB mm0.tab.hits)::(981,.imap (numE 0 mm0.tab.nums))::(982,.cache (DI mm0.tab.nums) (FI mm0.tab.nums))::(983,.cache (DL mm0.tab.nums) (FL mm0.tab.nums))::(984,.cache (DV mm0.tab.nums) (FV mm0.tab.nums))::(985,.imap (resE mm0.tab.res))::[]
theorem inv0 (l b:Nat):Inv l b mm0:=⟨⟨by simp [mm0,frN],by simp [mm0,frN],by simp [mm0,frN]⟩,⟨by simp [mm0,BdL],by simp [mm0],by simp [mm0,BdL],by simp [mm0,insideL],by simp [mm0],by simp [mm0],⟨by simp [mm0],by intro t ht;simp [mm0] at ht,by intro t ht;simp [mm0] at ht,by simp [mm0],by simp [mm0]⟩⟩,by simp [mm0]⟩
theorem go_start (c:List Ins) (l:Nat) (av:PV) (x:V) (objs':List (Nat × Ob)) (hno:subL (x.names++namesOb objs') ([901,980,981,982,983,984,985]++keysO objs'))
  (h:AWP (XX [] 38 [901,980,981,982,983,984,985,4,5]) (.seq lp49 (.seq md49 tl49)) (GS c l [(0,.loc 901 0),(1,.pv av),(4,.loc 4 0),(5,.loc 5 0)] mm0) (rescueQ (XX [] 38 [901,980,981,982,983,984,985]) Tryz.f84.results.toList 112 [.loc 4 0,.loc 5 0] x objs')) :
  AC Tryz.prog gl 84 [.loc 901 0,.pv av] (gO0 c l) (.ret x) objs':=by
 have hd66:Direct Tryz.prog 112:=⟨Tryz.f112,Tryz.func112,rfl,rfl⟩
 refine AC.of_rescue (X:=XX [] 38 [901,980,981,982,983,984,985]) (f:=84) (fn:=Tryz.f84) (fc:=112) (tf:=9) (ms:=[]) Tryz.func84 rfl rfl Tryz.ntmps84 hd66 rfl rfl rfl (by decide) rfl rfl rfl rfl (by show 2≤38;decide) trivial (by simp) (by simp [gO0,subL,namesL,V.names,namesOb,mB0,tB,Ob.names,keysO]) (by simpa [keysO,gO0] using hno)
  (σ1:=⟨[(5,.loc 5 0),(4,.loc 4 0),(0,.loc 901 0),(1,.pv av)],[(901,mB0 c l),(980,tB mm0.tab.hits),(981,.imap (numE 0 mm0.tab.nums)),(982,.cache (DI mm0.tab.nums) (FI mm0.tab.nums)),(983,.cache (DL mm0.tab.nums) (FL mm0.tab.nums)),(984,.cache (DV mm0.tab.nums) (FV mm0.tab.nums)),(985,.imap (resE mm0.tab.res)),(4,.box [.pv .nil]),(5,.box [.pv (.int 0)])],[5,4,901,980,981,982,983,984,985]⟩) ?_ rfl idle_66 ?_
 ·unfold gO0 mB0
  simp only [keysO,List.map_cons,List.map_nil,List.append_nil]
  generalize c.map insP=cc
  generalize tB mm0.tab.hits=T0
  generalize Ob.imap (numE 0 mm0.tab.nums)=T1
  generalize Ob.cache (DI mm0.tab.nums) (FI mm0.tab.nums)=T2
  generalize Ob.cache (DL mm0.tab.nums) (FL mm0.tab.nums)=T3
  generalize Ob.cache (DV mm0.tab.nums) (FV mm0.tab.nums)=T4
  generalize Ob.imap (resE mm0.tab.res)=T5
  refine gg ?_
  exact⟨rfl,rfl⟩
 ·show AWP (XX [] 38 [901,980,981,982,983,984,985,4,5]) (.seq lp49 (.seq md49 tl49)) _ _
  unfold mB0
  refine th 901 5 902 1 132 ?_
  refine th 901 6 903 5 206 ?_
  refine AWP.weaken ?_ h
  refine⟨by simp [slotsLe,getS,GS],⟨rfl,rfl,rfl,rfl,rfl,rfl,rfl,rfl,rfl,rfl,rfl,trivial⟩,?_⟩
  rw [subL_iff]
  intro n hn
  simp only [XX_given,List.mem_append] at hn
  show n∈gU mm0
  rcases hn with (hn|hn)|hn
  ·have:=names_S1 av n hn
   simp [gU,keysM] at this ⊢
   omega
  ·exact gO_names c l mm0 n hn
  ·simp [gU,keysM] at hn ⊢
   omega
open Go.Lg
set_option maxRecDepth 10000
set_option maxHeartbeats 4000000
def inBlock:Code→Code
 | .block _ c=>c
 | c=>c
def inLoop:Code→Code
 | .loop c=>c
 | c=>c
noncomputable def rd49:Code:=inBlock (left (right (right (inLoop (inBlock (right md49))))))
noncomputable def dr49:Code:=right (right (right (right rd49)))
noncomputable def hd49:Code:=left (inLoop (inBlock dr49))
def S2 (av:PV) (n i:Nat):List (Nat × V):=[(0,.loc 901 0),(1,.pv av),(4,.loc 4 0),(5,.loc 5 0),(12,.pv av),(13,.pv (.int n)),(14,.pv (.int i))]
theorem names_S2 (av:PV) (n i:Nat):∀ k∈namesSl (S2 av n i),k∈[901,980,981,982,983,984,985,4,5]:=by
 intro n hn
 simp [S2,namesSl,V.names] at hn ⊢
 omega
theorem GS_slots {c:List Ins} {l:Nat} {m:Mm} {S S':List (Nat × V)} {U:List Nat} (hnm:Nm m) (hS:slotsLe S S') (hSn:∀ n∈namesSl S,n∈[901,980,981,982,983,984,985,4,5]):Weak (XX [] 38 [901,980,981,982,983,984,985,4,5]) ⟨S',gO c l m,U⟩ (GS c l S m):=by
 have:=GS_weak (nm:=[]) (nt:=38) (c:=c) (l:=l) (S:=S) (S':=S') (U:=U) (objs:=[]) (objs':=[]) hnm hnm trivial (by simp [keysO]) (fun k o h => .inr ⟨rfl,by simp [keysO],h⟩) hS hSn
 exact this
theorem head_go (c:List Ins) (l:Nat) (av:PV) (n i:Nat) (m:Mm) (hnm:Nm m) (hf:m.frames≠[]) (Q:AEx→St→Prop) (hQ:∀ σ,Weak (XX [] 38 [901,980,981,982,983,984,985,4,5]) σ (GS c l (S2 av n i) m)→Q .normal σ):AWP (XX [] 38 [901,980,981,982,983,984,985,4,5]) hd49 (GS c l (S2 av n i) m) Q:=by
 have hw:=fun (S':List (Nat × V)) (U:List Nat) hS=>GS_slots (c:=c) (l:=l) (S':=S') (U:=U) hnm hS (names_S2 av n i)
 have h901:getO (gO c l m) 901=some (.box [.pv (.slice (c.map insP)),.pv (.int l),.pv (.int m.steps),.bfn 95 [.loc 980 0],.bfn 96 [.loc 980 0],.arr 902 m.sv m.stack.length,.arr 903 m.fv m.frames.length,.pv (.int m.at_),.pv (varsP m.vars)]):=rfl
 have hlt:(0:Int)<(m.frames.length:Int):=by
  have:=List.length_pos_iff.2 hf
  omega
 have h903:getO (gO c l m) 903=some (.arr m.fv 5 206 ((m.frames++m.fg).map frV)):=rfl
 unfold GS S2 at *
 generalize (m.frames++m.fg).map frV=FF at *
 generalize gO c l m=O1 at *
 generalize gU m=U1 at *
 generalize m.frames.length=fl at *
 clear hf
 simp only [hd49,dr49,rd49,md49,c49,Tryz.f84,Option.getD_some,left,right,inBlock,inLoop]
 refine gg ?_
 exact hQ _ (hw _ _ (by simp [slotsLe,getS]))
theorem head_out (c:List Ins) (l:Nat) (av:PV) (n i:Nat) (m:Mm) (hnm:Nm m) (hf:m.frames=[]) (Q:AEx→St→Prop) (hQ:∀ σ,Weak (XX [] 38 [901,980,981,982,983,984,985,4,5]) σ (GS c l (S2 av n i) m)→Q (.exit 4) σ):AWP (XX [] 38 [901,980,981,982,983,984,985,4,5]) hd49 (GS c l (S2 av n i) m) Q:=by
 have hw:=fun (S':List (Nat × V)) (U:List Nat) hS=>GS_slots (c:=c) (l:=l) (S':=S') (U:=U) hnm hS (names_S2 av n i)
 have h901:getO (gO c l m) 901=some (.box [.pv (.slice (c.map insP)),.pv (.int l),.pv (.int m.steps),.bfn 95 [.loc 980 0],.bfn 96 [.loc 980 0],.arr 902 m.sv m.stack.length,.arr 903 m.fv 0,.pv (.int m.at_),.pv (varsP m.vars)]):=by
  have:getO (gO c l m) 901=some (.box [.pv (.slice (c.map insP)),.pv (.int l),.pv (.int m.steps),.bfn 95 [.loc 980 0],.bfn 96 [.loc 980 0],.arr 902 m.sv m.stack.length,.arr 903 m.fv m.frames.length,.pv (.int m.at_),.pv (varsP m.vars)]):=rfl
  rw [this,hf]
  rfl
 have h903:getO (gO c l m) 903=some (.arr m.fv 5 206 ((m.frames++m.fg).map frV)):=rfl
 unfold GS S2 at *
 generalize (m.frames++m.fg).map frV=FF at *
 generalize gO c l m=O1 at *
 generalize gU m=U1 at *
 clear hf
 simp only [hd49,dr49,rd49,md49,c49,Tryz.f84,Option.getD_some,left,right,inBlock,inLoop]
 refine gg ?_
 exact hQ _ (hw _ _ (by simp [slotsLe,getS]))
theorem drain49 (c:List Ins) (l b:Nat) (hcode:Okc c) (hl:b+l≤200000) (av:PV) (n i:Nat) (r:Rm) (m:Mm) (hi:Inv l b m) (hr:DrainsM c l m r) (Q:AEx→St→Prop)
  (hstop:∀ m1 σ,r = .stop m1→Inv l b m1→Weak (XX [] 38 [901,980,981,982,983,984,985,4,5]) σ (GS c l (S2 av n i) m1)→Q .normal σ) (herr:∀ e σ,r = .err e→ErrSt σ→Q (.panic (fail e)) σ) :
  AWP (XX [] 38 [901,980,981,982,983,984,985,4,5]) dr49 (GS c l (S2 av n i) m) Q:=by
 have edr:dr49 = .block 4 (.loop (.seq hd49 (right (inLoop (inBlock dr49))))):=rfl
 rw [edr]
 refine ex_block ?_
 refine AWP.loop (ι:={ m:Mm // Inv l b m∧DrainsM c l m r }) (fun j=>GS c l (S2 av n i) j.1) (fun j=>l-j.1.steps) ⟨m,hi,hr⟩ ?_ ?_
 ·exact GS_slots hi.nm (by simp [S2,slotsLe,getS]) (names_S2 av n i)
 ·rintro⟨m,hi,hr⟩
  simp only
  refine ex_seq ?_
  by_cases hf:m.frames=[]
  ·refine head_out c l av n i m hi.nm hf _ ?_
   intro σ hw
   have:r = .stop m:=by
    cases hr with
    | done _=>rfl
    | err h _=>exact absurd hf h
    | go h _ _=>exact absurd hf h
    | stop h _ _=>exact absurd hf h
   (repeat (first|with_reducible refine q_exit ?_|with_reducible refine b_same ?_))
   exact hstop m σ this hi hw
  ·refine head_go c l av n i m hi.nm hf _ ?_
   intro σ hw
   refine q_normal ?_
   refine AWP.weaken hw ?_
   have hs:∃ q,m.step c l (1000+m.steps)=some q:=by
    cases hr with
    | done h=>exact absurd h hf
    | err _ h=>exact⟨_,h⟩
    | go _ h _=>exact⟨_,h⟩
    | stop _ h _=>exact⟨_,h⟩
   obtain⟨q,hq⟩:=hs
   obtain⟨hfull,hnext⟩:=hi.step hcode hl hq
   have hfg:=fun (objs objs':List (Nat × Ob)) h=>fresh_gU (objs:=objs) (objs':=objs') hi.nm h
   have hSn:=names_S2 av n i
   unfold GS S2
   simp only [dr49,rd49,md49,c49,Tryz.f84,Option.getD_some,left,right,inBlock,inLoop]
   refine gg ?_
   cases q with
   | err e =>
    obtain⟨objs,hac,hsub⟩:=hfull
    have hre:r = .err e:=by
     cases hr with
     | done h=>exact absurd h hf
     | err _ h=>rw [h] at hq;cases hq;rfl
     | go _ h _=>rw [h] at hq;cases hq
     | stop _ h _=>rw [h] at hq;cases hq
    have hst:ErrSt ⟨(33,.loc 901 0)::S2 av n i,updAll (gO c l m) (callWr objs []),[]++gU m⟩:=errSt_of hi.nm hsub rfl rfl
    refine runOps_call_panic (X:=XX [] 38 [901,980,981,982,983,984,985,4,5]) hac (by simp only [dstOK,XX_nt];decide) rfl rfl (sub_gO hsub) trivial (σ':=⟨(33,.loc 901 0)::S2 av n i,updAll (gO c l m) (callWr objs []),[]++gU m⟩) rfl ?_
    simp only [thenQ_panic,blockQ_panic]
    exact herr e _ hre hst
   | go m' =>
    obtain⟨objs,objs',hac,hsub,hkeys,hget,hnm'⟩:=hfull
    have hrm:DrainsM c l m' r:=by
     cases hr with
     | done h=>exact absurd h hf
     | err _ h=>rw [h] at hq;cases hq
     | go _ h h'=>rw [h] at hq;cases hq;exact h'
     | stop _ h _=>rw [h] at hq;cases hq
    have hn:=hnext m' (.inl rfl)
    have hw:=fun (S':List (Nat × V)) (U:List Nat) hS=>GS_weak (nm:=[]) (nt:=38) (c:=c) (l:=l) (S:=S2 av n i) (S':=S') (U:=U) hi.nm hnm' hsub hkeys hget hS hSn
    refine runOps_call (X:=XX [] 38 [901,980,981,982,983,984,985,4,5]) hac (by simp only [dstOK,XX_nt];decide) rfl rfl (sub_gO hsub) (hfg _ _ hkeys) (σ':=⟨(34,.pv (.bool true))::(33,.loc 901 0)::S2 av n i,updAll (gO c l m) (callWr objs objs'),(keysO objs').filter (fun n=>(getO objs n).isNone)++gU m⟩) rfl rfl ?_
    generalize updAll (gO c l m) (callWr objs objs')=O1 at *
    generalize (keysO objs').filter (fun n=>(getO objs n).isNone)++gU m=U1 at *
    refine gg ?_
    exact⟨⟨m',hn.1,hrm⟩,hn.2,hw _ _ (by simp [S2,slotsLe,getS])⟩
   | stop m' =>
    obtain⟨objs,objs',hac,hsub,hkeys,hget,hnm'⟩:=hfull
    have hrm:DrainsM c l m' r:=by
     cases hr with
     | done h=>exact absurd h hf
     | err _ h=>rw [h] at hq;cases hq
     | go _ h h'=>rw [h] at hq;cases hq
     | stop _ h h'=>rw [h] at hq;cases hq;exact h'
    have hn:=hnext m' (.inr rfl)
    have hw:=fun (S':List (Nat × V)) (U:List Nat) hS=>GS_weak (nm:=[]) (nt:=38) (c:=c) (l:=l) (S:=S2 av n i) (S':=S') (U:=U) hi.nm hnm' hsub hkeys hget hS hSn
    refine runOps_call (X:=XX [] 38 [901,980,981,982,983,984,985,4,5]) hac (by simp only [dstOK,XX_nt];decide) rfl rfl (sub_gO hsub) (hfg _ _ hkeys) (σ':=⟨(34,.pv (.bool false))::(33,.loc 901 0)::S2 av n i,updAll (gO c l m) (callWr objs objs'),(keysO objs').filter (fun n=>(getO objs n).isNone)++gU m⟩) rfl rfl ?_
    generalize updAll (gO c l m) (callWr objs objs')=O1 at *
    generalize (keysO objs').filter (fun n=>(getO objs n).isNone)++gU m=U1 at *
    refine gg ?_
    exact⟨⟨m',hn.1,hrm⟩,hn.2,hw _ _ (by simp [S2,slotsLe,getS])⟩
noncomputable def pre49 (D:Code):Code:=.seq (left rd49) (.seq (left (right rd49)) (.seq (left (right (right rd49))) (.seq (left (right (right (right rd49)))) D)))
theorem gO_ex (c:List Ins) (l:Nat) (m:Mm):gO c l m=(901,mB c l m)::(902,mS m)::(903,mF m)::(980,tB m.tab.hits)::(981,.imap (numE 0 m.tab.nums))::(982,.cache (DI m.tab.nums) (FI m.tab.nums))::(983,.cache (DL m.tab.nums) (FL m.tab.nums))::(984,.cache (DV m.tab.nums) (FV m.tab.nums))::(985,.imap (resE m.tab.res))::(rdO m.frames++resO):=rfl
theorem mO_ex (c:List Ins) (l:Nat) (m:Mm):mO c l m=[(901,mB c l m),(902,mS m),(903,mF m),(980,tB m.tab.hits),(981,.imap (numE 0 m.tab.nums)),(982,.cache (DI m.tab.nums) (FI m.tab.nums)),(983,.cache (DL m.tab.nums) (FL m.tab.nums)),(984,.cache (DV m.tab.nums) (FV m.tab.nums)),(985,.imap (resE m.tab.res))]:=rfl
theorem ent49 (c:List Ins) (l b:Nat) (hl:b+l≤200000) (zs:List It) (i:Nat) (a:It) (ha:zs[i]? = some a) (hn:zs.length≤1000000) (hba:Bd b a) (m m1 m2:Mm) (f:It) (hi:Inv l b m) (hpop:m.pop=some (f,m1))
  (hent:({ m1 with at_:=-1 } : Mm).enter f a none=some (.go m2)) (D:Code) (Q:AEx→St→Prop) (hD:∀ σ,Inv l (b+1) m2→Weak (XX [] 38 [901,980,981,982,983,984,985,4,5]) σ (GS c l (S2 (.slice (zs.map itC)) zs.length i) m2)→AWP (XX [] 38 [901,980,981,982,983,984,985,4,5]) D σ Q) :
  AWP (XX [] 38 [901,980,981,982,983,984,985,4,5]) (pre49 D) (GS c l (S2 (.slice (zs.map itC)) zs.length i) m) Q:=by
 obtain⟨s,hs,rfl⟩:=popM_inv hpop
 have hil:i<zs.length:=(List.getElem?_eq_some_iff.1 ha).1
 have hle:=hi.le
 have hlen0:=hi.ok.len
 obtain⟨hbf,hok1,-⟩:=hi.ok.pop hpop
 have hok1:OkM (b+m.steps) ((b+m.steps) * 4700000000000) ({ m with stack:=s,sg:=f::m.sg,at_:=-1 } : Mm):=⟨hok1.stack,hok1.len,hok1.vars,hok1.inside,hok1.frames,hok1.few,hok1.tab⟩
 have p1:=pop_ok c l m s f hs (by omega)
 obtain⟨out,objs',hO,he⟩:=entN_all c l (b+m.steps) ((b+m.steps) * 4700000000000) (by omega) (by omega) _ f a _ hbf (hba.mono (by omega)) hok1 hi.nm.lo hent
 cases hO with
 | go h1 h2 h3 =>
 have h1':rdO m2.frames=rdO m.frames:=h1
 have hfr:frN m2.frames=frN m.frames:=by rw [← rdO_keys,h1',rdO_keys]
 have h3':m2.steps=m.steps:=h3
 have hnm2:Nm m2:=by
  have hsub:∀ n∈frN (m2.frames++m2.fg),n∈frN (m.frames++m.fg):=by
   intro n hn
   rw [frN_app,hfr] at hn
   rw [frN_app]
   rcases List.mem_append.1 hn with hn|hn
   ·exact List.mem_append.2 (.inl hn)
   ·exact List.mem_append.2 (.inr (h2 n hn))
  exact⟨by rw [hfr];exact hi.nm.nd,fun n hn=>hi.nm.lo n (hsub n hn),fun n hn=>by rw [h3'];exact hi.nm.hi n (hsub n hn)⟩
 have hok2:OkM (b+1+m2.steps) ((b+1+m2.steps) * 4700000000000) m2:=by
  have h4:=hok1.enter hbf (hba.mono (by omega)) (fun _ _ e=>by cases e) hent
  simp only [OkrM] at h4
  rw [h3']
  exact h4.mono (by omega) (by omega)
 have hD':=fun σ=>hD σ ⟨hnm2,hok2,by omega⟩
 have hw:=fun (S':List (Nat × V)) (U:List Nat) hS=>GS_slots (c:=c) (l:=l) (S':=S') (U:=U) hnm2 hS (names_S2 (.slice (zs.map itC)) zs.length i)
 rw [gO_ex,h1'] at hw
 rw [mO_ex,mO_ex] at he
 have eGS:GS c l (S2 (.slice (zs.map itC)) zs.length i) m=⟨S2 (.slice (zs.map itC)) zs.length i,(901,mB c l m)::(902,mS m)::(903,mF m)::(980,tB m.tab.hits)::(981,.imap (numE 0 m.tab.nums))::(982,.cache (DI m.tab.nums) (FI m.tab.nums))::(983,.cache (DL m.tab.nums) (FL m.tab.nums))::(984,.cache (DV m.tab.nums) (FV m.tab.nums))::(985,.imap (resE m.tab.res))::(rdO m.frames++resO),gU m⟩:=rfl
 rw [eGS]
 have q1:=vcells_one (itP_one a)
 have q2:(V.pv (itP a)).one=true:=by rw [one_pv];exact itP_one a
 have q3:=itP_one a
 have hgk:(zs.map itC).getD i []=[itP a]:=by simp [List.getD,ha,itC]
 have hal:=itC_all zs
 have hlen:(zs.map itC).length=zs.length:=by simp
 have k1:(i:Int)<zs.length:=by omega
 have k2:(0:Int)≤(i:Int):=by omega
 have hlt:zs.length≤1000000:=hn
 have eB:mB c l ({ m with stack:=s,sg:=f::m.sg } : Mm) = .box [.pv (.slice (c.map insP)),.pv (.int l),.pv (.int m.steps),.bfn 95 [.loc 980 0],.bfn 96 [.loc 980 0],.arr 902 m.sv s.length,.arr 903 m.fv m.frames.length,.pv (.int m.at_),.pv (varsP m.vars)]:=rfl
 have eB2:mB c l ({ m with stack:=s,sg:=f::m.sg,at_:=-1 } : Mm) = .box [.pv (.slice (c.map insP)),.pv (.int l),.pv (.int m.steps),.bfn 95 [.loc 980 0],.bfn 96 [.loc 980 0],.arr 902 m.sv s.length,.arr 903 m.fv m.frames.length,.pv (.int (-1)),.pv (varsP m.vars)]:=rfl
 have eS2:mS ({ m with stack:=s,sg:=f::m.sg,at_:=-1 } : Mm)=mS ({ m with stack:=s,sg:=f::m.sg } : Mm):=rfl
 have eF:mF ({ m with stack:=s,sg:=f::m.sg,at_:=-1 } : Mm)=mF m:=rfl
 rw [eB] at p1
 rw [eB2,eF,eS2] at he
 clear eB eB2 eF eS2 hok1 hok2 hD hnm2 eGS hfr h1 h1' h2 h3 h3' hs hpop hlen0 hi hent hbf
 unfold S2 at *
 simp only at he
 generalize mB c l m=B0 at *
 generalize mS m=S0 at *
 generalize mF m=F0 at *
 generalize mS ({ m with stack:=s,sg:=f::m.sg } : Mm)=S1 at *
 generalize mB c l m2=B2 at *
 generalize mS m2=S3 at *
 generalize mF m2=F2 at *
 generalize tB m.tab.hits=T0 at *
 generalize Ob.imap (numE 0 m.tab.nums)=T1 at *
 generalize Ob.cache (DI m.tab.nums) (FI m.tab.nums)=T2 at *
 generalize Ob.cache (DL m.tab.nums) (FL m.tab.nums)=T3 at *
 generalize Ob.cache (DV m.tab.nums) (FV m.tab.nums)=T4 at *
 generalize Ob.imap (resE m.tab.res)=T5 at *
 generalize tB m2.tab.hits=U0 at *
 generalize Ob.imap (numE 0 m2.tab.nums)=U1 at *
 generalize Ob.cache (DI m2.tab.nums) (FI m2.tab.nums)=U2 at *
 generalize Ob.cache (DL m2.tab.nums) (FL m2.tab.nums)=U3 at *
 generalize Ob.cache (DV m2.tab.nums) (FV m2.tab.nums)=U4 at *
 generalize Ob.imap (resE m2.tab.res)=U5 at *
 generalize GS c l [(0,V.loc 901 0),(1,.pv (.slice (zs.map itC))),(4,.loc 4 0),(5,.loc 5 0),(12,.pv (.slice (zs.map itC))),(13,.pv (.int zs.length)),(14,.pv (.int i))] m2=G2 at *
 generalize rdO m.frames++resO=RR at *
 generalize gU m=W1 at *
 generalize zs.map itC=cc at *
 generalize itP a=pa at *
 have w1:=vcells_one (itP_one f)
 have w2:(V.pv (itP f)).one=true:=by rw [one_pv];exact itP_one _
 have w3:=itP_one f
 generalize itP f=pf at *
 simp only [pre49,rd49,md49,c49,Tryz.f84,Option.getD_some,left,right,inBlock,inLoop]
 refine gg ?_
 refine call p1 ?_
 refine gg ?_
 refine call he ?_
 refine gg ?_
 exact hD' _ (hw _ _ (by simp [slotsLe,getS]))
end Go.Proofs.YtodjpfpmhjdhbaaGreatDoor
