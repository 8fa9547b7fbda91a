/- Contracts of functions; no conditions. -/
import Derived.Test.YtmcockinhpiomaaGreatDoorZC9
set_option linter.all false
set_option maxHeartbeats 4000000
namespace Go.Lg
theorem qPz {ev:qVl} {P:Program} {f m nx:Nat} {args:List V} {objs:List (Nat × Ob)} {ks:List Nat} {y:V} {ro o1:List (Nat × Ob)} (hd:qPl (qJ2 objs)=true) (hk:zWf (qJ2 objs) ks=true)
  (hC:Called P ev.gl ⟨.nil,obL objs .nil,m,[]⟩ f args ⟨y,[],[],nx⟩ ks ro o1):AC P ev.gl f args objs (.ret y) objs:=by
 have hd:=qKv hd
 rw [qZm] at hd
 have hk:=qBp hk
 rw [qZm] at hk
 have hs0:∀ k,(obL objs .nil).get k=qQd objs k:=fun k=>by
  rw [qEm objs _ hd]
  cases qQd objs k<;>rfl
 have h1:o1=[]:=by
  cases o1 with
  | nil=>rfl
  | cons p r=>have:=hC.inch p.1 (keysO_mem.2 ⟨p.2,List.mem_cons_self ..⟩);cases this
 subst h1
 have hsub:∀ p∈ro,qQd objs p.1=some p.2:=fun p hp=>by rw [← hs0];exact hC.subs p (by simpa using hp)
 have hget:∀ k,qQd ro k=qQd objs k:=by
  intro k
  cases e:qQd ro k with
  | some o=>exact (hsub (k,o) (qJ7 e)).symm
  | none =>
   cases e2:qQd objs k with
   | none=>rfl
   | some o =>
    have h1:=hC.all k (hk k (getO_iff.2 (by rw [e2];rfl)))
    rw [List.append_nil,getO_iff,e] at h1
    cases h1
 have hac:AC P ev.gl f args ro (.ret y) ro:=by simpa using hC.ac
 refine AC.cong hac hget hget fun k hk => ?_
 obtain⟨p,hp,hkp⟩:=mem_mentO.1 hk
 exact mem_mentO.2 ⟨p,qJ7 (hsub p hp),hkp⟩
end Go.Lg
namespace Go.Proofs.YtmcockinhpiomaaGreatDoor
open Go.Lg
set_option maxRecDepth 100000
def se (U:List Nat):List (SK × V):=U.map fun n=>(.int (.ofNat n),.pv (.bool true))
theorem qQw:∀ U:List Nat,qZf (se U)=[]
 | []=>rfl
 | n::U=>by show ([]:List Nat)++qZf (se U)=[];rw [qQw U];rfl
theorem qLq {E E':Env} : ∀ {U:List Nat} {ms:List MapEntry},EntsS E false (se U) ms→EntsS E' false (se U) ms
 | [],[],_=>True.intro
 | n::U,e::ms,h=>⟨⟨h.1.1,h.1.2.1,h.1.2.2.1,h.1.2.2.2⟩,qLq h.2⟩
 | [],_::_,h=>h.elim
 | _::_,[],h=>h.elim
theorem qGj {E:Env} : ∀ {U:List Nat} {ms:List MapEntry},EntsS E false (se U) ms→ms.map (·.key)=U.map fun n => .int .i64 (.ofNat n)
 | [],[],_=>rfl
 | n::U,e::ms,h=>by
  show e.key::ms.map (·.key)=_::U.map _
  rw [qGj h.2,h.1.1]
  rfl
 | [],_::_,h=>h.elim
 | _::_,[],h=>h.elim
theorem qP0:∀ {l:List MapEntry},(l.map (·.key)).Nodup→∀ {e e':MapEntry},e∈l→e'∈l→e.key=e'.key→e=e'
 | x::l,h,e,e',he,he',hb=>by
  obtain⟨h1,h2⟩:=List.nodup_cons.1 h
  rcases List.mem_cons.1 he with k1|k1<;>rcases List.mem_cons.1 he' with k2|k2
  ·rw [k1,k2]
  ·exact absurd (List.mem_map.2 ⟨e',k2,by rw [← hb,k1]⟩) h1
  ·exact absurd (List.mem_map.2 ⟨e,k1,by rw [hb,k2]⟩) h1
  ·exact qP0 h2 k1 k2 hb
theorem qNf {U:List Nat} (h:U.Nodup):(U.map fun n=>Value.int .i64 (.ofNat n)).Nodup:=by
 refine List.Pairwise.map _ (fun a b hab e=>hab ?_) h
 have:Int.ofNat a=Int.ofNat b:=(Value.int.injEq .. ▸ e).2
 exact Int.ofNat.inj this
structure qDf (U S:List Nat):Prop where
 nd:U.Nodup
 asc:Asc S
 mem:∀ x:Nat,x∈S↔x∈U
 len:S.length≤8589934592
theorem zDr {E:Env} {U S:List Nat} {ms:Array MapEntry} {ck:Nat} (h:qDf U S) (he:EntsS E false (se U) ms.toList) (hs:StampOK ms.toList ck):zX2 ms ck S:=by
 have hk:=qGj he
 have hmem:∀ v,(∃ e∈ms.toList,e.key=v) ↔ ∃ n∈U,Value.int .i64 (.ofNat n)=v:=fun v=>by
  have:v∈ms.toList.map (·.key)↔v∈U.map fun n=>Value.int .i64 (.ofNat n):=by rw [hk]
  simpa only [List.mem_map] using this
 refine⟨hs.1,hs.2,fun e he => ?_,fun e he e' he' hkk=>qP0 (hk ▸ qNf h.nd) he he' hkk,h.asc,fun x => ?_,h.len⟩
 ·obtain⟨n,_,e2⟩:=(hmem e.key).1 ⟨e,he,rfl⟩
  exact⟨n,e2.symm⟩
 ·rw [h.mem,hmem]
  constructor
  ·exact fun hx=>⟨x,hx,rfl⟩
  ·rintro⟨n,hn,e⟩
   have:Int.ofNat n=Int.ofNat x:=(Value.int.injEq .. ▸ e).2
   rwa [← Int.ofNat.inj this]
section
variable {b rb ck:Nat} {ms:Array MapEntry} {S:List Nat}
theorem zHt (hM:zX2 ms ck S):Lp 33 0 1 (hs (km b) (ki' rb) (.map ms ck) (oi b ck #[]) 0 []) (.exit 0) (zK1 (km b) (.map ms ck) S.length S):=by
 refine⟨fun sub hI => ?_,(leftOf ms #[]).size+1,fun X hX σ hR=>zVd hX hM _ #[] 0 [] σ (Nat.le_refl _) ⟨List.Pairwise.nil,fun x=>⟨fun h=>(by cases h),fun ⟨e,_,_,h⟩=>(by simp at h)⟩⟩ rfl hR⟩
 have h0:∀ n,n<1→n=0:=fun n h=>by omega
 have g0:∀ v,(zK1 (km b) (.map ms ck) v S).ob.get 0=some (.raw (km b) (.map ms ck)):=fun v=>by cases v<;>rfl
 have g1:∀ v,(zK1 (km b) (.map ms ck) v S).dt=[]∧(zK1 (km b) (.map ms ck) v S).nx=3:=fun v=>by cases v<;>exact⟨rfl,rfl⟩
 refine⟨by rw [(g1 _).2];omega,fun n hn _ => ?_,fun n hn _ => ?_,hI.names,fun n hn => ?_⟩
 ·rw [h0 n hn,g0];exact hI.same 0 (by omega) (by simp [hs])
 ·rw [h0 n hn];exact hI.old 0 (by omega) rfl
 ·rw [(g1 _).1] at hn;cases hn
def zZz (o:Ob):List Nat→IS
 | []=>st [(3,.pv .nils)] [(0,o)] 3 []
 | x::S=>st [(3,.pv (qQl (x::S)))] [(0,o)] 3 []
theorem zDs (hM:zX2 ms ck S):Lp 33 0 1 (hs (km b) (ki' rb) (.map ms ck) (oi b ck #[]) 0 []) (.exit 0) (zZz (.raw (km b) (.map ms ck)) S):=by
 have h:=zHt (b:=b) (rb:=rb) hM
 cases S with
 | nil=>exact h
 | cons x S =>
  have h2:=LoopIs.fz (by simp) (show Lp 33 0 1 _ (.exit 0) (st [(3,.arr 2 (S.length+1) (S.length+1))] [(0,.raw (km b) (.map ms ck)),(2,.arr (S.length+1) 1 3 (pvE ((x::S).map ic)))] 3 []) from h) 2 (ver:=S.length+1) (sz:=1) (ty:=3) (ps:=(x::S).map ic) rfl (by kernel_rfl)
  have e:((x::S).map ic).take (S.length+1)=(x::S).map ic:=List.take_of_length_le (by simp)
  simp (decide:=true) only [fzS,fzO,qY0,qJb,qY8,qC3,and_self,↓reduceIte,e] at h2
  exact h2
abbrev qZn (U:List Nat):Ob:=.smap false (se U)
abbrev zDt (U:List Nat):IS:=st [(0,.map 0),(3,.pv .nils)] [(0,qZn U)] 1 []
theorem zHu:Tryz.prog.underlying 86=some (.map 3 4):=by kernel_rfl
noncomputable abbrev m33:Code:=.seq (cs1 (cs1 (cs2 (cs2 a33)))) (.block 0 (.loop b33))
theorem zWu {X:qZ9} (hX:HX X ev Tryz.prog (fnc 33).ntmps 1) (hM:zX2 ms ck S) {U:List Nat} {σ:St} (hR:Rel (zDt U) σ) :
  AWP X m33 ⟨σ.slots,qVb σ.objs 0 (.raw (km b) (.map ms ck)),σ.used⟩ (qIa .normal (zZz (.raw (km b) (.map ms ck)) S)):=by
 have hnt:X.nt=44:=by rw [hX.nt];exact zF1
 have hR1:=hR.objT 0 (.raw (km b) (.map ms ck))
 refine AWP.seq ?_
 obtain⟨i,t1,t2,p1,p2,f1,f2,hn⟩:=zLo
 rw [hn]
 refine AWP.range (n:=0) (r:=1) (b:=b) (ck:=ck) (ms:=ms) (hR.sl 0) (hR1.ob 0) (fun h=>(by have:1<1:=hR.us 1 h;exact absurd this (by decide))) (by rw [hX.P];exact zHu) (by rw [hnt];decide) (by rw [hnt];decide) ?_
 intro rb
 have hR2:=((hR1.slotT 6 (.map 0)).slotT 7 (.loc 1 0)).newT (.raw (ki' rb) (oi b ck #[]))
 obtain⟨τ,hw,hR3⟩:=hR2.keep hX (s':=hs (km b) (ki' rb) (.map ms ck) (oi b ck #[]) 0 []) ⟨[3,7],[0,1],2,[]⟩ (by kernel_rfl) (cast (show True=qNe _ _ True by kernel_rfl) True.intro) (by kernel_rfl)
 refine AWP.wkX hw (AWP.block (AWP.mono ((zDs hM).reach.awp X hX τ hR3) ?_))
 rintro ae σ' ⟨rfl,h⟩
 exact⟨rfl,h⟩
theorem zYy {U:List Nat} (hU:qDf U S):Rc 1 33 m33 (zDt U) .normal (zZz (qZn U) S):=by
 refine⟨fun sub hI => ?_,fun X hX σ hR C E a w hC hG => ?_⟩
 ·have h0:∀ n,n<1→n=0:=fun n h=>by omega
  have g0:(zZz (qZn U) S).ob.get 0=some (qZn U):=by cases S<;>rfl
  have g1:(zZz (qZn U) S).dt=[]∧(zZz (qZn U) S).nx=3:=by cases S<;>exact⟨rfl,rfl⟩
  refine⟨by rw [g1.2];omega,fun n hn _ => ?_,fun n hn _ => ?_,hI.names,fun n hn => ?_⟩
  ·rw [h0 n hn,g0];exact hI.same 0 (by omega) (by simp)
  ·rw [h0 n hn];exact hI.old 0 (by omega) rfl
  ·rw [g1.1] at hn;cases hn
 ·have ho:qQd σ.objs 0=some (qZn U):=hR.ob 0
  obtain⟨b,ms,ck,hg,hcell,hfree,hents,hst⟩:=hG.objs 0 _ ho
  have hG1:=hG.swapO (o':=.raw (km b) (.map ms ck)) ho ⟨hg,b,rfl,hcell,hfree⟩ (by simp [Ob.names])
  refine wp_mono (zWu hX (zDr hU hents hst) hR C E a w hC hG1) ?_
  rintro e a' w' ⟨E',σ',ae,hG',hrel,rfl,hR'⟩
  have ho':qQd σ'.objs 0=some (.raw (km b) (.map ms ck)):=by rw [hR'.ob 0];cases S<;>rfl
  obtain⟨hg',b',hb',hcell',hfree'⟩:=hG'.objs 0 _ ho'
  cases hb'
  have hG2:=hG'.swapO (o':=qZn U) ho' ⟨b,ms,ck,hg',hcell',hfree',qLq hents,hst⟩ (by simp [Ob.names,qQw])
  refine⟨E',_,.normal,hG2,hrel,rfl,?_⟩
  have hR2:=hR'.objT 0 (qZn U)
  cases S<;>exact⟨hR2.sl,fun n=>(hR2.ob n).trans (by simp only [zZz,Tr.get_put];by_cases e:n=0<;>simp [e,obL,Tr.get_put];done),hR2.us⟩
end
end Go.Proofs.YtmcockinhpiomaaGreatDoor
namespace Go.Lg
end Go.Lg
namespace Go.Proofs.YtmcockinhpiomaaGreatDoor
open Go.Lg
set_option maxRecDepth 100000
theorem qLr (U:List Nat) (m:Nat) (hm:Nat.blt 0 m=true):reach m (obL [(0,qZn U)] .nil) 1000000 [0] .nil []=some (Tr.nil.put 0 (some (qZn U)),[0]):=by
 have e:reach m (obL [(0,qZn U)] .nil) 1000000 [0] .nil []=bif Nat.blt 0 m then reach m (obL [(0,qZn U)] .nil) 999999 (qZf (se U)++[]) (Tr.nil.put 0 (some (qZn U))) [0] else none:=by kernel_rfl
 rw [e,hm,qQw]
 rfl
def zCd:List Nat→PV
 | [] => .nils
 | x::S=>qQl (x::S)
theorem zHv:∀ S:List Nat,PV.w 4 (zCd S)=qQl S
 | []=>rfl
 | _::_=>rfl
section
variable {U S:List Nat}
theorem p33_0:Rc 1 33 (cs1 a33) ⟨qJg 0 [.map 0] .nil,Tr.nil.put 0 (some (qZn U)),1,[]⟩ .normal (st [(0,.map 0)] [(0,qZn U)] 1 []):=rg0 [] ⟨[0],[0],1,[]⟩ (qQw U)
theorem p33_1:Rc 1 33 (cs1 (cs2 a33)) (st [(0,.map 0)] [(0,qZn U)] 1 []) .normal (zDt U):=rg0 [] ⟨[0,3],[0],1,[]⟩ (qQw U)
theorem zDu:Rc 1 33 (cs2 (cs2 (cs2 a33))) (zZz (qZn U) S) .ret (st [(2,.pv (zCd S))] [(0,qZn U)] 3 []):=by
 cases S with
 | nil=>exact rg0 [] ⟨[2],[0],3,[]⟩ (qQw U)
 | cons x S=>exact rg0 [] ⟨[2],[0],3,[]⟩ (qQw U)
theorem zWv (hU:qDf U S):Rc 1 33 a33 ⟨qJg 0 [.map 0] .nil,Tr.nil.put 0 (some (qZn U)),1,[]⟩ .ret (st [(2,.pv (zCd S))] [(0,qZn U)] 3 []):=by
 rw [zLn]
 exact p33_0.seq (p33_1.seq ((zYy hU).seq zDu))
theorem zYz (hU:qDf U S):O 33 [.map 0] [(0,qZn U)] (.pv (qQl S)) [(0,qZn U)]:=by
 obtain⟨ro,o1,hC⟩:=qAe (s:=⟨.nil,obL [(0,qZn U)] .nil,1,[]⟩) (qBr (zWv hU)) qDg (f:=33) (fn:=fnc 33) (c:=a33) (by kernel_rfl) (by kernel_rfl) (args:=[.map 0]) (by rw [zF1];decide) (qLr U 1 rfl) (r:=⟨.pv (zCd S),[],[],3⟩) (by
  unfold qDa zXi
  simp only [and_self,if_true]
  cases S<;>kernel_rfl)
 have h:=qPz (objs:=[(0,qZn U)]) (by kernel_rfl) (by kernel_rfl) hC
 rw [← zHv S]
 exact AC.wO 4 h
end
end Go.Proofs.YtmcockinhpiomaaGreatDoor
namespace Go.Lg
theorem qP1 {ev:qVl} {P:Program} {f m nx:Nat} {args:List V} {objs ch:List (Nat × Ob)} {ks:List Nat} {y:V} {ro o1:List (Nat × Ob)} (hd:qPl (qJ2 objs)=true) (hk:zWf (qJ2 objs) ks=true) (hn:qPl (qJ2 ch)=true)
  (hC:Called P ev.gl ⟨.nil,obL objs .nil,m,[]⟩ f args ⟨y,ch,[],nx⟩ ks ro o1):AC P ev.gl f args objs (.ret y) (zXh ch objs):=by
 have hd:=qKv hd
 rw [qZm] at hd
 have hk:=qBp hk
 rw [qZm] at hk
 have hn:=qKv hn
 rw [qZm] at hn
 have hs0:∀ k,(obL objs .nil).get k=qQd objs k:=fun k=>by
  rw [qEm objs _ hd]
  cases qQd objs k<;>rfl
 have hsub:∀ p∈ro++o1,qQd objs p.1=some p.2:=fun p hp=>by rw [← hs0];exact hC.subs p hp
 have hget:∀ k,qQd (ro++o1) k=qQd objs k:=by
  intro k
  cases e:qQd (ro++o1) k with
  | some o=>exact (hsub (k,o) (qJ7 e)).symm
  | none =>
   cases e2:qQd objs k with
   | none=>rfl
   | some o =>
    have h1:=hC.all k (hk k (getO_iff.2 (by rw [e2];rfl)))
    rw [getO_iff,e] at h1
    cases h1
 refine AC.cong hC.ac hget (fun k => ?_) (fun k hk => ?_)
 ·rw [qEn,← hget,List.append_nil,qXk,qXk]
  cases e:qQd ro k with
  | some o =>
   have h1:=(hC.apart k (getO_iff.2 (by rw [e];rfl))).2
   have h2:qQd ch k=none:=by
    cases e2:qQd ch k with
    | none=>rfl
    | some o=>exact absurd (by simpa using getO_iff.2 (by rw [e2];rfl)) h1
   simp only [Option.map_some,qXj,h2]
  | none =>
   simp only
   cases e2:qQd o1 k with
   | some o =>
    have h1:=hC.inch k (getO_iff.2 (by rw [e2];rfl))
    obtain⟨o',ho'⟩:=Option.isSome_iff_exists.1 (getO_iff.1 h1)
    have ho':qQd ch k=some o':=ho'
    simp only [Option.map_some,qXj,ho']
   | none =>
    cases e3:qQd ch k with
    | none=>rfl
    | some o =>
     have h1:=(hC.chs k (getO_iff.2 (by rw [e3];rfl))).2.2
     rw [getO_iff,e2] at h1
     cases h1
 ·obtain⟨p,hp,hkp⟩:=mem_mentO.1 hk
  exact mem_mentO.2 ⟨p,qJ7 (hsub p hp),hkp⟩
end Go.Lg
namespace Go.Proofs.YtmcockinhpiomaaGreatDoor
open Go.Lg
set_option maxRecDepth 100000
def qAh:List Nat→Nat→List Nat
 | [],n=>[n]
 | m::U,n=>if n=m then m::U else m::qAh U n
theorem mem_ins1:∀ {U:List Nat} {n x:Nat},x∈qAh U n↔x=n∨x∈U
 | [],n,x=>by simp [qAh]
 | m::U,n,x=>by
  unfold qAh
  split
  ·rename_i e;subst e;simp
  ·rw [List.mem_cons,mem_ins1 (U:=U),List.mem_cons];constructor<;>(rintro (h|h|h)<;>simp [h])
theorem qIf:∀ {U:List Nat} {n:Nat},U.Nodup→(qAh U n).Nodup
 | [],n,_=>by simp [qAh]
 | m::U,n,h=>by
  obtain⟨h1,h2⟩:=List.nodup_cons.1 h
  unfold qAh
  split
  ·exact h
  ·rename_i e
   exact List.nodup_cons.2 ⟨fun hm=>(mem_ins1.1 hm).elim (fun h=>e h.symm) h1,qIf h2⟩
theorem qEo:∀ (U:List Nat) (n:Nat),(qAh U n).length≤U.length+1
 | [],n=>by simp [qAh]
 | m::U,n=>by
  unfold qAh
  split
  ·simp
  ·have:=qEo U n;simp;omega
theorem qP2:∀ (U:List Nat) (n:Nat),qFe (se U) (.int (.ofNat n)) (.pv (.bool true))=se (qAh U n)
 | [],n=>rfl
 | m::U,n=>by
  show (bif SK.eqB (.int (.ofNat n)) (.int (.ofNat m)) then _::se U else _::qFe (se U) _ _)=_
  unfold qAh
  by_cases e:n=m
  ·subst e
   rw [(SK.eqB_iff _ _).2 rfl,if_pos rfl]
   rfl
  ·rw [if_neg e]
   have:SK.eqB (.int (.ofNat n)) (.int (.ofNat m))=false:=by
    cases h:SK.eqB (.int (.ofNat n)) (.int (.ofNat m)) with
    | false=>rfl
    | true=>have:=(SK.eqB_iff _ _).1 h;injection this with h;exact absurd (Int.ofNat.inj h) e
   rw [this,cond_false,qP2 U n]
   rfl
theorem qP3 (k:Nat) (U:List Nat) (n:Nat):some (⟨.undef,some (k,.smap false (qFe (se U) (.int (.ofNat n)) (.pv (.bool true)))),false⟩:RB)=some ⟨.undef,some (k,qZn (qAh U n)),false⟩:=by rw [qP2]
def qJh:Tm→Nat→List Nat→List Nat
 | .v i,c,U=>if c≤i then qAh U (i-c) else U
 | .lam _ b,c,U=>qJh b (c+1) U
 | .n0 _,_,U=>U
 | .n1 _ a,c,U=>qJh a c U
 | .n2 _ a b,c,U=>qJh b c (qJh a c U)
 | .n3 _ _ a b d,c,U=>qJh d c (qJh b c (qJh a c U))
noncomputable def b32:Code:=match (fnc 32).body with
 | some c=>c
 | none => .skip
abbrev zHw (t:Tm) (c:Nat) (U:List Nat):IS:=⟨qJg 0 [.pv t.p,.pv (num c),.map 0] .nil,Tr.nil.put 0 (some (qZn U)),1,[]⟩
theorem o32 {t:Tm} {c:Nat} {U U':List Nat} (h:Rc 1 32 b32 (zHw t c U) .normal (st [] [(0,qZn U')] 2 [0])):O 32 [.pv t.p,.pv (num c),.map 0] [(0,qZn U)] (.pv (.tuple [])) [(0,qZn U')]:=by
 obtain⟨ro,o1,hC⟩:=qAe (s:=⟨.nil,obL [(0,qZn U)] .nil,1,[]⟩) (qBr h) qDg (f:=32) (fn:=fnc 32) (c:=b32) (by kernel_rfl) (by kernel_rfl) (args:=[.pv t.p,.pv (num c),.map 0]) (Nat.le_of_ble_eq_true (show Nat.ble 3 (fnc 32).ntmps=true by kernel_rfl)) (qLr U 1 rfl) (r:=⟨.pv (.tuple []),[(0,qZn U')],[],2⟩) (by
  unfold qDa zXi
  simp only [and_self,if_true]
  have e:zXf ev.T 1 (Tr.nil.put 0 (some (qZn U))) (fnc 32).results.toList .normal (st [] [(0,qZn U')] 2 [0])=(match qYg 1 2 (Tr.nil.put 0 (some (qZn U))) (obL [(0,qZn U')] .nil) 1000000 (qZf (se U')++[]) .nil [] with
   | some nw=>some ⟨.pv (.tuple []),[(0,qZn U')],nw,2⟩
   | none=>none):=by kernel_rfl
  refine e.trans ?_
  rw [qQw]
  rfl)
 exact AC.wO 4 (qP1 (objs:=[(0,qZn U)]) (by kernel_rfl) (by kernel_rfl) (by kernel_rfl) hC)
theorem ad0 {c:Nat} (h:c≤mid):inB (Int.ofNat c+0)=true∧Int.ofNat c+0 = .ofNat c:=⟨by rw [Int.add_zero];exact inN (by have:=qQc;omega),Int.add_zero _⟩
theorem ad1 {c:Nat} (h:c+1≤mid):inB (Int.ofNat c+1)=true∧Int.ofNat c+1 = .ofNat (c+1):=⟨inN (n:=c+1) (by have:=qQc;omega),rfl⟩
theorem sbc {i c:Nat} (h:c≤i) (hi:i≤mid * mid):inB (Int.ofNat i-Int.ofNat c)=true∧Int.ofNat i-Int.ofNat c = .ofNat (i-c):=by
 have e:Int.ofNat i-Int.ofNat c = .ofNat (i-c):=by simp;omega
 exact⟨by rw [e];exact inN (by have e2:mid * mid=1125899906842624:=rfl;omega),e⟩
abbrev k32:Kp:=⟨[],[0],2,[0]⟩
theorem a32:∀ (t:Tm) (c:Nat) (U:List Nat),c+t.cnt≤mid→t.mx≤mid * mid→O 32 [.pv t.p,.pv (num c),.map 0] [(0,qZn U)] (.pv (.tuple [])) [(0,qZn (qJh t c U))]
 | .v i,c,U,h1,h2=>by
  unfold qJh
  by_cases h:c≤i
  ·rw [if_pos h]
   exact o32 (rg3 [(15,.G),(21,.z (i-c)),(99999,.w ⟨.undef,some (0,qZn (qAh U (i-c))),false⟩)] k32 (show (!ltI (.ofNat i) (.ofNat c))=true by rw [qZv h];rfl) (sbc h h2) (qP3 0 U (i-c)) (qQw (qAh U (i-c))))
  ·rw [if_neg h]
   exact o32 (rg1 [(15,.H)] k32 (show (!ltI (.ofNat i) (.ofNat c))=false by rw [qQy (by omega)];rfl) (qQw U))
 | .n0 k,c,U,h1,h2=>by cases k<;>exact o32 (rg0 [] k32 (qQw U))
 | .lam s b,c,U,h1,h2=>by
  simp only [Tm.cnt] at h1
  have g:=a32 b (c+1) U (by omega) h2
  exact o32 (rg2 [(33,.z (c+1)),(35,.d 0 (qZn (qJh b (c+1) U)) (.pv (.tuple [])))] k32 (ad1 (c:=c) (by omega)) g (qQw (qJh b (c+1) U)))
 | .n1 k a,c,U,h1,h2=>by
  simp only [Tm.cnt] at h1
  have g:=a32 a c U (by omega) h2
  cases k<;>exact o32 (rg2 [(33,.z c),(35,.d 0 (qZn (qJh a c U)) (.pv (.tuple [])))] k32 (ad0 (c:=c) (by omega)) g (qQw (qJh a c U)))
 | .n2 k a b,c,U,h1,h2=>by
  simp only [Tm.cnt] at h1
  simp only [Tm.mx] at h2
  have g:=a32 a c U (by omega) (by omega)
  have g':=a32 b c (qJh a c U) (by omega) (by omega)
  cases k<;>exact o32 (rg4 [(33,.z c),(35,.d 0 (qZn (qJh a c U)) (.pv (.tuple []))),(33,.z c),(35,.d 0 (qZn (qJh b c (qJh a c U))) (.pv (.tuple [])))] k32 (ad0 (c:=c) (by omega)) g (ad0 (c:=c) (by omega)) g' (qQw (qJh b c (qJh a c U))))
 | .n3 k s a b d,c,U,h1,h2=>by
  simp only [Tm.cnt] at h1
  simp only [Tm.mx] at h2
  have g:=a32 a c U (by omega) (by omega)
  have g':=a32 b c (qJh a c U) (by omega) (by omega)
  have g'':=a32 d c (qJh b c (qJh a c U)) (by omega) (by omega)
  cases k<;>exact o32 (rg6 [(33,.z c),(35,.d 0 (qZn (qJh a c U)) (.pv (.tuple []))),(33,.z c),(35,.d 0 (qZn (qJh b c (qJh a c U))) (.pv (.tuple []))),(33,.z c),(35,.d 0 (qZn (qJh d c (qJh b c (qJh a c U)))) (.pv (.tuple [])))] k32 (ad0 (c:=c) (by omega)) g (ad0 (c:=c) (by omega)) g' (ad0 (c:=c) (by omega)) g'' (qQw (qJh d c (qJh b c (qJh a c U)))))
end Go.Proofs.YtmcockinhpiomaaGreatDoor
namespace Go.Proofs.YtmcockinhpiomaaGreatDoor
open Go.Lg
set_option maxRecDepth 100000
theorem zZ0 (n:Nat):∀ {S:List Nat},Asc S→n ∉ S→∃ S',Asc S'∧(∀ x,x∈S'↔x=n∨x∈S)∧S'.length=S.length+1
 | [],_,_=>⟨[n],List.pairwise_singleton _ _,fun x=>by simp,rfl⟩
 | y::S,h,hn=>by
  obtain⟨a,b⟩:=List.pairwise_cons.1 h
  have hy:n≠y:=fun e=>hn (e ▸ List.mem_cons_self ..)
  by_cases c:n<y
  ·refine⟨n::y::S,List.pairwise_cons.2 ⟨fun x hx => ?_,h⟩,fun x=>List.mem_cons,rfl⟩
   rcases List.mem_cons.1 hx with rfl|hx
   ·exact c
   ·have:=a x hx;omega
  ·obtain⟨S',h1,h2,h3⟩:=zZ0 n b (fun h=>hn (List.mem_cons_of_mem _ h))
   refine⟨y::S',List.pairwise_cons.2 ⟨fun x hx => ?_,h1⟩,fun x => ?_,by simp [h3]⟩
   ·rcases (h2 x).1 hx with rfl|hx
    ·omega
    ·exact a x hx
   ·rw [List.mem_cons,h2,List.mem_cons];constructor<;>(rintro (h|h|h)<;>simp [h])
theorem qP4:∀ {U:List Nat},U.Nodup→∃ S,Asc S∧(∀ x,x∈S↔x∈U)∧S.length=U.length
 | [],_=>⟨[],List.Pairwise.nil,fun _=>Iff.rfl,rfl⟩
 | n::U,h=>by
  obtain⟨h1,h2⟩:=List.nodup_cons.1 h
  obtain⟨S,a,b,c⟩:=qP4 h2
  obtain⟨S',a',b',c'⟩:=zZ0 n a (fun h=>h1 ((b n).1 h))
  exact⟨S',a',fun x=>by rw [b',b,List.mem_cons],by rw [c',c];rfl⟩
theorem qGk {U:List Nat} (h:U.Nodup) (hl:U.length≤8589934592):∃ S,qDf U S∧S.length=U.length:=by
 obtain⟨S,a,b,c⟩:=qP4 h
 exact⟨S,⟨h,a,b,by omega⟩,c⟩
theorem qYi:∀ (t:Tm) (c:Nat) (U:List Nat) (x:Nat),x∈qJh t c U↔x∈U∨t.occ (c+x)≠0
 | .v i,c,U,x=>by
  simp only [qJh,Tm.occ]
  split
  ·rw [mem_ins1]
   split
   ·simp;left;omega
   ·simp;omega
  ·split
   ·omega
   ·simp
 | .n0 k,c,U,x=>by simp [qJh,Tm.occ]
 | .lam s b,c,U,x=>by simp only [qJh,Tm.occ];rw [qYi b,show c+1+x=c+x+1 by omega]
 | .n1 k a,c,U,x=>by simp only [qJh,Tm.occ];exact qYi a c U x
 | .n2 k a b,c,U,x=>by simp only [qJh,Tm.occ];rw [qYi b,qYi a];constructor<;>(intro h;by_cases h1:x∈U<;>simp_all<;>omega)
 | .n3 k s a b d,c,U,x=>by simp only [qJh,Tm.occ];rw [qYi d,qYi b,qYi a];constructor<;>(intro h;by_cases h1:x∈U<;>simp_all<;>omega)
theorem qGl:∀ (t:Tm) (c:Nat) {U:List Nat},U.Nodup→(qJh t c U).Nodup
 | .v i,c,U,h=>by
  unfold qJh
  split
  ·exact qIf h
  ·exact h
 | .n0 k,c,U,h=>h
 | .lam s b,c,U,h=>qGl b (c+1) h
 | .n1 k a,c,U,h=>qGl a c h
 | .n2 k a b,c,U,h=>qGl b c (qGl a c h)
 | .n3 k s a b d,c,U,h=>qGl d c (qGl b c (qGl a c h))
theorem qYj:∀ (t:Tm) (c:Nat) (U:List Nat),(qJh t c U).length≤U.length+t.cnt
 | .v i,c,U=>by
  simp only [qJh,Tm.cnt]
  split
  ·exact qEo U _
  ·omega
 | .n0 k,c,U=>by simp [qJh]
 | .lam s b,c,U=>by have:=qYj b (c+1) U;simp only [qJh,Tm.cnt];omega
 | .n1 k a,c,U=>by have:=qYj a c U;simp only [qJh,Tm.cnt];omega
 | .n2 k a b,c,U=>by have:=qYj a c U;have:=qYj b c (qJh a c U);simp only [qJh,Tm.cnt];omega
 | .n3 k s a b d,c,U=>by have:=qYj a c U;have:=qYj b c (qJh a c U);have:=qYj d c (qJh b c (qJh a c U));simp only [qJh,Tm.cnt];omega
theorem qV8:∀ (t:Tm) (v:Nat),t.occ v≠0→v≤t.mx
 | .v i,v,h=>by simp only [Tm.occ] at h;simp only [Tm.mx];split at h<;>omega
 | .n0 k,v,h=>absurd rfl h
 | .lam s b,v,h=>by have:=qV8 b (v+1) h;simp only [Tm.mx];omega
 | .n1 k a,v,h=>qV8 a v h
 | .n2 k a b,v,h=>by
  simp only [Tm.occ] at h
  simp only [Tm.mx]
  by_cases h1:a.occ v=0
  ·have:=qV8 b v (by omega);omega
  ·have:=qV8 a v h1;omega
 | .n3 k s a b d,v,h=>by
  simp only [Tm.occ] at h
  simp only [Tm.mx]
  by_cases h1:a.occ v=0
  ·by_cases h2:b.occ v=0
   ·have:=qV8 d v (by omega);omega
   ·have:=qV8 b v h2;omega
  ·have:=qV8 a v h1;omega
def zZ1:Nat→Nat
 | 0=>1
 | 1=>0
 | n=>n
theorem zZ2:∀ n,zZ1 (zZ1 n)=n
 | 0=>rfl
 | 1=>rfl
 | _+2=>rfl
theorem zZ3 (ρ:Nat→Nat):∀ U:List Nat,qTi ρ (se U)=se U
 | []=>rfl
 | n::U=>by show (_,_)::qTi ρ (se U)=_::se U;rw [zZ3 ρ U];rfl
theorem zZ4 (U:List Nat):(qZn U).ren zZ1=qZn U:=by show Ob.smap false (qTi zZ1 (se U))=_;rw [zZ3]
theorem zDv (t:Tm) (h1:t.cnt≤mid) (h2:t.mx≤mid * mid):O 32 [.pv t.p,.pv (num 0),.map 1] [(1,.smap false [])] (.pv (.tuple [])) [(1,qZn (qJh t 0 []))]:=by
 have h:=AC.ren zZ2 (a32 t 0 [] (by omega) h2)
 have e:qH0 zZ1 [(0,qZn (qJh t 0 []))]=[(1,qZn (qJh t 0 []))]:=by show [(1,(qZn _).ren zZ1)]=_;rw [zZ4]
 rw [e] at h
 exact h
theorem zDw {U S:List Nat} (h:qDf U S):O 33 [.map 1] [(1,qZn U)] (.pv (qQl S)) [(1,qZn U)]:=by
 have h:=AC.ren zZ2 (zYz h)
 have e:qH0 zZ1 [(0,qZn U)]=[(1,qZn U)]:=by show [(1,(qZn _).ren zZ1)]=_;rw [zZ4]
 rw [e] at h
 exact h
theorem a13 (t:Tm) (h1:t.cnt≤mid) (h2:t.tsz≤big) (h3:t.mx≤mid * mid):∃ u:List Nat,A 13 [t.p] (.tuple [qQl u,num t.chk])∧(t.chk=0→∀ v,v∈u↔t.occ v≠0)∧(t.chk≠0→u=[])∧u.length≤t.cnt:=by
 have hm:=qQc
 have hbb:=qQh
 have g1:=a31 t h2 (by omega)
 cases e:t.chk with
 | succ k =>
  rw [e] at g1
  exact⟨[],f2 [(7,.N (k+1)),(9,.G)] g1 (qX4 (m:=k+1) (n:=0) (by omega)),fun h=>(by cases h),fun _=>rfl,Nat.zero_le _⟩
 | zero =>
  rw [e] at g1
  have hl:=qYj t 0 []
  obtain⟨S,h,h'⟩:=qGk (qGl t 0 (U:=[]) List.nodup_nil) (by simp at hl;omega)
  refine⟨S,f3 [(7,.N 0),(14,.d 1 (qZn (qJh t 0 [])) (.pv (.tuple []))),(16,.o [1] [] (.pv (qQl S)))] g1 (zDv t h1 h3) (zDw h),fun _ v => ?_,fun h=>absurd rfl h,by simp at hl;omega⟩
  rw [h.mem,qYi,Nat.zero_add]
  simp
def qHa (U:List Nat):List Nat→List Nat
 | []=>U
 | x::r=>qHa (qAh U x) r
theorem qEp:∀ (r U:List Nat) (x:Nat),x∈qHa U r↔x∈U∨x∈r
 | [],U,x=>by simp [qHa]
 | y::r,U,x=>by simp only [qHa];rw [qEp r,mem_ins1,List.mem_cons];exact⟨fun h=>h.elim (fun h=>h.elim (fun h => .inr (.inl h)) .inl) (fun h => .inr (.inr h)),fun h=>h.elim (fun h => .inl (.inr h)) (fun h=>h.elim (fun h => .inl (.inl h)) .inr)⟩
theorem qIg:∀ (r:List Nat) {U:List Nat},U.Nodup→(qHa U r).Nodup
 | [],_,h=>h
 | y::r,_,h=>qIg r (qIf h)
theorem qEq:∀ (r U:List Nat),(qHa U r).length≤U.length+r.length
 | [],U=>by simp [qHa]
 | y::r,U=>by have:=qEq r (qAh U y);have:=qEo U y;simp only [qHa,List.length_cons];omega
abbrev zDx (a b:List Nat) (k:Nat):List (Nat × V):=[(1,.pv (qQl b)),(5,.map 0),(11,.pv (qQl a)),(12,.pv (num (a.map ic).length)),(13,.pv (num k))]
abbrev zDy (b:List Nat) (k:Nat):List (Nat × V):=[(5,.map 0),(20,.pv (qQl b)),(21,.pv (num (b.map ic).length)),(22,.pv (num k))]
theorem qLs (a b:List Nat) (hl:a.length≤mid):∀ (r:List Nat) (k:Nat) (U:List Nat),a.drop k=r →
  Lp 156 0 0 (st (zDx a b k) [(0,qZn U)] 1 []) (.exit 0) (st [(1,.pv (qQl b)),(5,.map 0)] [(0,qZn (qHa U r))] 1 [])
 | [],k,U,h=>by
  have e:ltI (.ofNat k) (.ofNat (a.map ic).length)=false:=qZv (by simpa using qZp h)
  exact y1 [(14,.H)] ⟨[1,5],[0],1,[]⟩ e (qQw U)
 | x::r,k,U,h=>by
  have hm:=qQc
  obtain⟨d1,d2,d3⟩:=qZo h
  have e:ltI (.ofNat k) (.ofNat (a.map ic).length)=true:=qQy (by simpa using d2)
  have g3:=inN (show k+1≤_ by omega)
  have ih:=qLs a b hl r (k+1) (qAh U x) d3
  exact n6 [(14,.G),(15,.i (ic x)),(99999,.w ⟨.undef,some (0,qZn (qAh U x)),false⟩),(19,.ok)] ⟨[1,5,11,12,13],[0],1,[]⟩ e (qQi d1 qVx) (qP3 0 U x) g3 (qQw (qAh U x)) ih
theorem qLt (b:List Nat) (hl:b.length≤mid):∀ (r:List Nat) (k:Nat) (U:List Nat),b.drop k=r →
  Lp 156 1 0 (st (zDy b k) [(0,qZn U)] 1 []) (.exit 2) (st [(5,.map 0)] [(0,qZn (qHa U r))] 1 [])
 | [],k,U,h=>by
  have e:ltI (.ofNat k) (.ofNat (b.map ic).length)=false:=qZv (by simpa using qZp h)
  exact y1 [(23,.H)] ⟨[5],[0],1,[]⟩ e (qQw U)
 | x::r,k,U,h=>by
  have hm:=qQc
  obtain⟨d1,d2,d3⟩:=qZo h
  have e:ltI (.ofNat k) (.ofNat (b.map ic).length)=true:=qQy (by simpa using d2)
  have g3:=inN (show k+1≤_ by omega)
  have ih:=qLt b hl r (k+1) (qAh U x) d3
  exact n6 [(23,.G),(24,.i (ic x)),(99999,.w ⟨.undef,some (0,qZn (qAh U x)),false⟩),(28,.ok)] ⟨[5,20,21,22],[0],1,[]⟩ e (qQi d1 qVx) (qP3 0 U x) g3 (qQw (qAh U x)) ih
theorem zHx (a b:List Nat) (ha:a.length≤mid) (hb:b.length≤mid):∃ u:List Nat,A 156 [qQl a,qQl b] (qQl u)∧(∀ v,v∈u↔v∈a∨v∈b)∧u.length≤a.length+b.length:=by
 have hm:=qQc
 have h1:=qEq a []
 have h2:=qEq b (qHa [] a)
 obtain⟨S,h,h'⟩:=qGk (qIg b (qIg a (U:=[]) List.nodup_nil)) (by simp at h1;omega)
 have l1:=qLs a b ha a 0 [] rfl
 have l2:=qLt b hb b 0 (qHa [] a) rfl
 refine⟨S,fk [(100003,.l ⟨[1,5,11,12,13],[0],1,[]⟩ (.exit 0) (st [(1,.pv (qQl b)),(5,.map 0)] [(0,qZn (qHa [] a))] 1 [])),(100008,.l ⟨[5,20,21,22],[0],1,[]⟩ (.exit 2) (st [(5,.map 0)] [(0,qZn (qHa (qHa [] a) b))] 1 [])),(30,.o [0] [] (.pv (qQl S)))] (And.intro (qQw []) (And.intro l1 (And.intro (qQw (qHa [] a)) (And.intro l2 (And.intro (zYz h) (rfl:qQl S=qQl S)))))),fun v => ?_,by simp at h1;omega⟩
 rw [h.mem,qEp,qEp]
 simp
theorem zY0:MF where
 uses t h1 h2 h3:=by
  have hm:=qQc
  obtain⟨u,g1,g2,g3,g4⟩:=a13 t h1 (by have:=qQh;omega) h3
  refine⟨u,t.chk,g1,fun h=>⟨h,fun v hv=>(g2 h v).2 hv⟩,fun x hx => ?_,g4⟩
  by_cases e:t.chk=0
  ·exact qV8 t x ((g2 e x).1 hx)
  ·rw [g3 e] at hx;cases hx
 union a b h1 h2 h3:=by
  obtain⟨u,g1,g2,g3⟩:=zHx a b (by omega) (by omega)
  exact⟨u,g1,fun v hv=>(g2 v).2 hv,fun v hv=>(g2 v).1 hv,g3⟩
theorem zDz {t:Tm} (h:t.chk=0):t.shp=true∧t.cnt≤4096:=by
 unfold Tm.chk at h
 split at h
 ·cases h
 ·rename_i e
  split at h
  ·cases h
  ·rename_i e2
   refine⟨e,?_⟩
   rw [qQs] at e2
   have:=of_decide_eq_false e2
   simp at this
   omega
theorem zY1:MU:=by
 intro t h hx
 have hm:=qQc
 obtain⟨h1,h2⟩:=zDz h
 have h3:=qZ2 t h1
 have e2:mid * mid=1125899906842624:=rfl
 obtain⟨u,g1,g2,g3,g4⟩:=a13 t (by omega) (by have:=qQh;omega) (by omega)
 rw [h] at g1
 refine⟨u,g1,fun v hv=>⟨(g2 h v).1 hv,?_⟩,by omega⟩
 have:=qV8 t v ((g2 h v).1 hv)
 omega
end Go.Proofs.YtmcockinhpiomaaGreatDoor
