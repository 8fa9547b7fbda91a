/- Contracts of functions; no conditions. -/
import Derived.Test.YtodjpfpmhjdhbaaGreatDoorTwiceC16
import Derived.Test.YtodjpfpmhjdhbaaGreatDoorTwiceA13
set_option linter.all false
namespace Go.Proofs.YtodjpfpmhjdhbaaGreatDoor
open Go.Lg
set_option maxRecDepth 10000
theorem OkM.popF {b N:Nat} {m m':Mm} {fr:Fr} (h:OkM b N m) (hp:m.popF=some (fr,m')):FrM b fr∧OkM b N m':=by
 unfold Mm.popF at hp
 split at hp
 ·rename_i x e
  cases hp
  have hs:=last_split e
  have hx:FrM b fr:=h.frames _ (by rw [hs];simp)
  refine⟨hx,h.stack,h.len,hx.vars,hx.inside,fun f hf=>h.frames f (List.dropLast_subset _ hf),?_,h.tab⟩
  have:=h.few
  simp only [List.length_dropLast]
  omega
 ·cases hp
theorem rSet_mem {k:List Int} {x:It} : ∀ {l:List (List Int × It)} {e:List Int × It},e∈rSet l k x→e∈l∨e=(k,x)
 | [],e,h=>by simp only [rSet,List.mem_singleton] at h;exact .inr h
 | (k',y)::l,e,h=>by
  simp only [rSet] at h
  split at h
  ·rename_i hk
   rcases List.mem_cons.1 h with rfl|h
   ·exact .inr rfl
   ·exact .inl (.tail _ h)
  ·rcases List.mem_cons.1 h with rfl|h
   ·exact .inl (.head _)
   ·rcases rSet_mem h with h|h
    ·exact .inl (.tail _ h)
    ·exact .inr h
theorem TabM.store {b N:Nat} {T:Tab} (h:TabM b N T) {f a x:It} (hf:Bd b f) (ha:Bd b a) (hx:Bd b x):TabM b (N+2200000) (T.store f a x):=by
 unfold Tab.store
 split
 ·have h1:=keyN_len T.nums f a
  have z1:=szI_bd hf
  have z2:=szI_bd ha
  have h2:=h.nums
  have h3:=h.hits
  refine⟨fun e he => ?_,keyN_sh f a h.sh,fun e he => ?_,by simp only;omega,by simp only;omega⟩
  ·rcases rSet_mem he with he|rfl
   ·exact h.res e he
   ·exact hx
  ·rcases rSet_mem he with he|rfl
   ·exact h.rk e he
   ·simp [keyN]
 ·exact h.mono (Nat.le_refl _) (by omega)
theorem TabM.keep {b N:Nat} {m:Mm} (h:TabM b N m.tab) {f a x:It} (hf:Bd b f) (ha:Bd b a) (hx:Bd b x):TabM b (N+2200000) (m.keep f a x).tab:=by
 unfold Mm.keep
 split
 ·exact h.store hf ha hx
 ·exact h.mono (Nat.le_refl _) (by omega)
theorem Rm_ren_ren {ρ:Nat→Nat} (h:∀ n,ρ (ρ n)=n) (r:Rm):(r.ren ρ).ren ρ=r:=by
 cases r<;>simp [Rm.ren,msRen_msRen h]
section
variable (c:List Ins) (l:Nat) (m:Mm) (p:Nat) (hat:m.at_=((p:Nat):Int)) (hst:¬ m.steps=l) (hsl:m.steps≤800000) (hp:p≤1000000) (hnm:Nm m) {b0:Nat} (hb0:b0≤800000) {N0:Nat} (hN0:N0+(3 * (b0+1024)+7) * 2200000≤1152921504606846976) (hok:OkM b0 N0 m)
include hat hst hsl hp hnm hb0 hN0 hok
theorem full_ret (hc:c[p]? = some (14,0)) (r:Rm) (hr:(nxt m).leave=some r):StepR c l m r:=by
 have hsl':m.steps≤1000000:=by omega
 have hl:m.stack.length≤900000:=by have:=hok.len;omega
 have hl1:(nxt m).stack.length≤1000000:=by show m.stack.length≤1000000;omega
 have hN:=hnm.lo
 have hfew:=hok.few
 have hok0:OkM b0 N0 (nxt m):=⟨hok.stack,hok.len,hok.vars,hok.inside,hok.frames,hok.few,hok.tab⟩
 unfold Mm.leave at hr
 split at hr
 ·cases hr
 ·rename_i x m1 h1
  obtain⟨hbx,hok1,-⟩:=hok0.pop h1
  obtain⟨s,hs,rfl⟩:=popM_inv h1
  split at hr
  ·rename_i h2
   cases hr
   have hf:m.frames=[]:=by
    unfold Mm.popF at h2
    split at h2
    ·cases h2
    ·rename_i e
     simpa [nxt] using e
   exact .same hnm rfl rfl (fun n hn=>by rw [frN_app];exact List.mem_append.2 (.inr hn)) (step_ret c l m p hat hst hsl' hp hN hc false _ (fun n hn=>hn) (leave_last c l (nxt m) s x hs hl1 hf hN))
  ·rename_i fr m2 h2
   obtain⟨hfro,hok2⟩:=hok1.popF h2
   have hfr:∃ fs,m.frames=fs++[fr]∧m2=popFr (pop1 (nxt m) s x) fs fr:=by
    unfold Mm.popF at h2
    split at h2
    ·rename_i y e
     cases h2
     exact⟨_,last_split e,rfl⟩
    ·cases h2
   obtain⟨fs,hf,rfl⟩:=hfr
   have hfl:(nxt m).frames.length≤1000000:=by show m.frames.length≤1000000;omega
   obtain⟨pf,vs,hff⟩:=hfro.fn
   have z1:=szI_bd (hff ▸ hfro.f)
   have z2:=szI_bd hfro.a
   have htn:=hok.tab.nums
   have hz:m.tab.nums.length+szI (.fn pf vs)+szI fr.a≤1152921504606846976:=by omega
   have hkn:=keep_names (m:=nxt m) (s:=s) (x:=x) (fr:=fr) hf
   obtain⟨k1,k2,k3,k4,k5⟩:=keep_facts (popFr (pop1 (nxt m) s x) fs fr) fr.f fr.a x
   split at hr
   ·rename_i hrd
    cases hr
    have hpl:=leave_plain c l (nxt m) s x hs hl1 fs fr hf hfl pf vs hff hz hok.tab.sh hok.tab.rk hrd hN
    have h67:=step_ret c l m p hat hst hsl' hp hN hc _ (((popFr (pop1 (nxt m) s x) fs fr).keep fr.f fr.a x).push x) (fun n hn=>(hkn n).1 hn) hpl
    have hfs:rdO (((popFr (pop1 (nxt m) s x) fs fr).keep fr.f fr.a x).push x).frames=rdO m.frames:=by
     show rdO ((popFr (pop1 (nxt m) s x) fs fr).keep fr.f fr.a x).frames=_
     rw [k1,hf,rdO_app]
     simp [rdO,hrd,popFr]
    have hfg:∀ n∈frN (((popFr (pop1 (nxt m) s x) fs fr).keep fr.f fr.a x).push x).fg,n∈frN (m.frames++m.fg):=fun n hn=>by
     refine (hkn n).1 ?_
     rw [frN_app]
     exact List.mem_append.2 (.inr hn)
    have hss:(((popFr (pop1 (nxt m) s x) fs fr).keep fr.f fr.a x).push x).steps=m.steps+1:=k3
    have hat2:(((popFr (pop1 (nxt m) s x) fs fr).keep fr.f fr.a x).push x).at_=fr.at_:=k5
    unfold stopIfM
    rw [hat2]
    split
    ·rename_i hpos
     rw [show decide (0≤fr.at_)=true by simpa using hpos] at h67
     exact .same hnm hss hfs hfg h67
    ·rename_i hpos
     rw [show decide (0≤fr.at_)=false by simpa using hpos] at h67
     exact .same hnm hss hfs hfg h67
   ·rename_i n0 rr hrd
    have hrr:=hfro.rd _ _ hrd
    have hA:rdO m.frames=rdO fs++[(n0,rdB rr)]:=by rw [hf,rdO_app];simp [rdO,hrd]
    have hn0:n0∈frN (m.frames++m.fg):=mem_frN.2 ⟨fr,by rw [hf];simp,rr,hrd⟩
    have hn0l:=hN n0 hn0
    have hk:frN m.frames=frN fs++[n0]:=by rw [← rdO_keys,hA,keysO_app,rdO_keys];rfl
    have hks:=swap_keys hn0l
    generalize hρ:swapN 920 n0=ρ at *
    have hinv:∀ n,ρ (ρ n)=n:=by rw [← hρ];exact swapN_inv 920 n0
    have s1:ρ 901=901:=hks 901 (by simp [keysM])
    have s4:ρ 920=n0:=by rw [← hρ];simp [swapN]
    have s5:ρ n0=920:=by rw [← s4,hinv]
    have hN1:∀ n∈frN ((msRen ρ m).frames++(msRen ρ m).fg),n=920∨1000≤n:=by
     intro n hn
     have:n∈(frN (m.frames++m.fg)).map ρ:=by
      rw [frN_app]
      rw [frN_app] at hn
      simp only [msRen,frN_ren] at hn
      rw [List.map_append]
      exact hn
     obtain⟨k,hk,rfl⟩:=List.mem_map.1 this
     by_cases e:k=n0
     ·subst e;exact .inl s5
     ·right
      have:=hN k hk
      have:ρ k=k:=by rw [← hρ];unfold swapN;rw [if_neg (by omega),if_neg e]
      omega
    have hf1:(nxt (msRen ρ m)).frames=fs.map (frRen ρ)++[frRen ρ fr]:=by
     show m.frames.map _=_
     rw [hf];simp
    have hrd1:(frRen ρ fr).rd=some (920,rr):=by simp [frRen,hrd,s5]
    have hmm:popFr (pop1 (nxt (msRen ρ m)) s x) (fs.map (frRen ρ)) (frRen ρ fr)=msRen ρ (popFr (pop1 (nxt m) s x) fs fr):=by
     simp [popFr,pop1,nxt,msRen,frRen]
    have hMM:(popFr (pop1 (nxt (msRen ρ m)) s x) (fs.map (frRen ρ)) (frRen ρ fr)).keep (frRen ρ fr).f (frRen ρ fr).a x=msRen ρ ((popFr (pop1 (nxt m) s x) fs fr).keep fr.f fr.a x):=by
     rw [hmm];exact keep_ren ρ _ _ _ _
    have hfl1:(nxt (msRen ρ m)).frames.length≤1000000:=by
     show (m.frames.map _).length≤_
     simp;omega
    have hB:∀ r,(rdB r).ren ρ=rdB r:=fun r=>rB_ren _ _ _
    have back:∀ (out:Go.Lg.Out) (m':Mm) (Y:List (Nat × Ob)),AC Tryz.prog gl 113 [.loc 901 0] (mO c l (msRen ρ m)++[(920,rdB rr)]) out (mO c l (msRen ρ m')++Y)→AC Tryz.prog gl 113 [.loc 901 0] (mO c l m++[(n0,rdB rr)]) (out.ren ρ) (mO c l m'++renO ρ Y):=by
     intro out m' Y h
     have:=AC.ren hinv h
     rw [renO_app,renO_app,mO_ren hks,mO_ren hks,msRen_msRen hinv,msRen_msRen hinv] at this
     simp only [renL,V.ren,renO,s1,s4,hB] at this
     exact this
    have backE:∀ (q:PV),AC Tryz.prog gl 113 [.loc 901 0] (mO c l (msRen ρ m)++[(920,rdB rr)]) (.panic q) []→AC Tryz.prog gl 113 [.loc 901 0] (mO c l m++[(n0,rdB rr)]) (.panic q) []:=by
     intro q h
     have:=AC.ren hinv h
     rw [renO_app,mO_ren hks,msRen_msRen hinv] at this
     simp only [renL,V.ren,renO,s1,s4,hB] at this
     exact this
    have nd1:=hnm.nd
    rw [hk,List.nodup_append] at nd1
    have hkn1:=keep_names (m:=nxt (msRen ρ m)) (s:=s) (x:=x) (fr:=frRen ρ fr) hf1
    have hfM:((popFr (pop1 (nxt m) s x) fs fr).keep fr.f fr.a x).frames=fs:=k1
    split at hr
    ·cases hr
    ·rename_i r' hret
     cases hr
     have h83:=rd_ret hb0 hrr.1.ok hrr.2 hret
     have h81:=leave_done c l (nxt (msRen ρ m)) s x hs hl1 (fs.map (frRen ρ)) (frRen ρ fr) hf1 hfl1 pf vs hff hz hok.tab.sh hok.tab.rk rr hrd1 hN1 r' h83
     have hm1:((popFr (pop1 (nxt (msRen ρ m)) s x) (fs.map (frRen ρ)) (frRen ρ fr)).keep (frRen ρ fr).f (frRen ρ fr).a x).push x=msRen ρ (((popFr (pop1 (nxt m) s x) fs fr).keep fr.f fr.a x).push x):=by rw [hMM];rfl
     rw [hm1] at h81
     have h67:=stepR_same c l (msRen ρ m) p hat hst hsl' hp rr hN1 hc _ (msRen ρ (((popFr (pop1 (nxt m) s x) fs fr).keep fr.f fr.a x).push x)) (fun n hn => .inl ((hkn1 n).1 (by rw [hMM];exact hn))) h81
     have h67':=back (.ret (.pv (.bool (decide (0≤fr.at_))))) _ [] (by rw [List.append_nil];exact h67)
     simp only [Go.Lg.Out.ren,V.ren,renO] at h67'
     have hss:(((popFr (pop1 (nxt m) s x) fs fr).keep fr.f fr.a x).push x).steps=m.steps+1:=k3
     have hfP:(((popFr (pop1 (nxt m) s x) fs fr).keep fr.f fr.a x).push x).frames=fs:=k1
     have hnm':Nm (((popFr (pop1 (nxt m) s x) fs fr).keep fr.f fr.a x).push x):=hnm.next hss (by rw [hfP];exact nd1.1) (fun n hn => .inl ((hkn n).1 hn))
     have hat2:(((popFr (pop1 (nxt m) s x) fs fr).keep fr.f fr.a x).push x).at_=fr.at_:=k5
     unfold stopIfM
     rw [hat2]
     split
     ·rename_i hpos
      rw [show decide (0≤fr.at_)=true by simpa using hpos] at h67'
      exact .of (rdO fs) [(n0,rdB rr)] [] hA (by rw [hfP];simp) hnm hnm' (by simp [keysO]) h67'
     ·rename_i hpos
      rw [show decide (0≤fr.at_)=false by simpa using hpos] at h67'
      exact .of (rdO fs) [(n0,rdB rr)] [] hA (by rw [hfP];simp) hnm hnm' (by simp [keysO]) h67'
    ·rename_i f a r' hret
     have h83:=rd_ret hb0 hrr.1.ok hrr.2 hret
     obtain⟨hbf,hba,hr1,hlt⟩:=hrr.1.returned hbx hrr.2 hret
     have he1:=enter_ren ρ ((popFr (pop1 (nxt m) s x) fs fr).keep fr.f fr.a x) f a n0 r'
     rw [s5,hr] at he1
     have hres:(msRen ρ ((popFr (pop1 (nxt m) s x) fs fr).keep fr.f fr.a x)).enter f a (some (920,r'))=some (r.ren ρ):=he1
     have htk:=TabM.keep (m:=popFr (pop1 (nxt m) s x) fs fr) hok.tab hfro.f hfro.a hbx
     have hcnt:=hr1.ok.count
     have htwo:=hr1.two
     have htn2:=htk.nums
     have hth2:=htk.hits
     have hfu:rdFuel (some (920,r'))≤3 * (b0+1024)+3:=by simp only [rdFuel];omega
     have hlen:=hok1.len
     have hEB:EB b0 (rdFuel (some (920,r'))) (msRen ρ ((popFr (pop1 (nxt m) s x) fs fr).keep fr.f fr.a x)) f a r' :=
      ⟨hb0,hbf,hba,hr1.ok,hlt,htk.res,by
       have:(msRen ρ ((popFr (pop1 (nxt m) s x) fs fr).keep fr.f fr.a x)).tab.nums.length≤N0+2200000:=htn2
       omega,by
       have:(msRen ρ ((popFr (pop1 (nxt m) s x) fs fr).keep fr.f fr.a x)).tab.hits≤N0+2200000:=hth2
       omega,htk.sh,htk.rk,by
       show (List.map _ ((popFr (pop1 (nxt m) s x) fs fr).keep fr.f fr.a x).frames).length≤1024
       rw [hfM,List.length_map]
       have:m.frames.length=fs.length+1:=by rw [hf];simp
       omega,by
       show ((popFr (pop1 (nxt m) s x) fs fr).keep fr.f fr.a x).stack.length≤900000
       rw [k4]
       show s.length≤900000
       simp only at hlen
       omega⟩
     obtain⟨q,hq⟩:∃ q,q=r.ren ρ:=⟨_,rfl⟩
     have hrq:r=q.ren ρ:=by rw [hq,Rm_ren_ren hinv]
     rw [← hq] at hres
     have hNM:∀ n∈frN ((msRen ρ ((popFr (pop1 (nxt m) s x) fs fr).keep fr.f fr.a x)).frames++(msRen ρ ((popFr (pop1 (nxt m) s x) fs fr).keep fr.f fr.a x)).fg),n∈frN ((msRen ρ m).frames++(msRen ρ m).fg):=fun n hn=>(hkn1 n).1 (by rw [hMM];exact hn)
     obtain⟨out,objs',hO,hA'⟩:=ent_ok c l b0 _ _ f a r' q hEB hres (fun n hn=>hN1 n (hNM n hn))
     rw [← hMM] at hA'
     rw [hrq]
     have hsub:∀ n∈frN fs,n∈frN (m.frames++m.fg):=fun n hn=>by rw [frN_app,hk];simp [hn]
     have hMf:(msRen ρ ((popFr (pop1 (nxt m) s x) fs fr).keep fr.f fr.a x)).frames=fs.map (frRen ρ):=by
      show List.map _ ((popFr (pop1 (nxt m) s x) fs fr).keep fr.f fr.a x).frames=_
      rw [hfM]
     cases hO
     ·have h81:=leave_err c l (nxt (msRen ρ m)) s x hs hl1 (fs.map (frRen ρ)) (frRen ρ fr) hf1 hfl1 pf vs hff hz hok.tab.sh hok.tab.rk rr hrd1 hN1 r' f a h83 _ hA'
      have h67:=stepR_err c l (msRen ρ m) p hat hst hsl' hp rr hN1 hc _ h81
      exact StepErr.of (rdO fs) [(n0,rdB rr)] hA hnm (backE _ h67)
     ·rename_i m' at_ vars f2 a2 r2 e1 e2
      have hmn:∀ n∈frN (m'.frames++m'.fg),n∈frN ((msRen ρ m).frames++(msRen ρ m).fg)∨n=920:=by
       intro n hn
       rw [e1,e2,List.append_nil,frN_app] at hn
       rcases List.mem_append.1 hn with hn|hn
       ·exact .inl (hNM n (by rw [frN_app];exact List.mem_append.2 (.inl hn)))
       ·exact .inr (by simpa [frN] using hn)
      have h81:=leave_into c l (nxt (msRen ρ m)) s x hs hl1 (fs.map (frRen ρ)) (frRen ρ fr) hf1 hfl1 pf vs hff hz hok.tab.sh hok.tab.rk rr hrd1 hN1 r' f a h83 m' r2 hmn hA'
      have h67:=stepR_rnd c l (msRen ρ m) p hat hst hsl' hp rr hN1 hc true m' r2 hmn h81
      have h67':=back (.ret (.pv (.bool true))) (msRen ρ m') [(920,rdB r2)] (by rw [msRen_msRen hinv];exact h67)
      simp only [Go.Lg.Out.ren,V.ren,renO,s4,hB] at h67'
      have hss:(msRen ρ m').steps=m.steps+1:=(enterN_steps _ _ _ _ _ _ hres).trans k3
      have hf2:(msRen ρ m').frames=fs++[⟨at_,vars,f2,a2,some (n0,r2)⟩]:=by
       show List.map (frRen ρ) m'.frames=_
       rw [e1,hMf,List.map_append,map_frRen_2 hinv]
       simp [frRen,s4]
      have hg2:(msRen ρ m').fg=[]:=by
       show List.map (frRen ρ) m'.fg=_
       rw [e2];rfl
      have hf3:frN (msRen ρ m').frames=frN fs++[n0]:=by rw [hf2,frN_app];simp [frN]
      refine StepTo.of (rdO fs) [(n0,rdB rr)] [(n0,rdB r2)] hA (by rw [hf2,rdO_app];simp [rdO]) hnm (hnm.next hss (by rw [hf3,List.nodup_append];exact nd1) ?_) (by simp [keysO]) h67'
      intro n hn
      rw [hg2,List.append_nil,hf3] at hn
      rcases List.mem_append.1 hn with h|h
      ·exact .inl (hsub n h)
      ·simp only [List.mem_singleton] at h
       subst h
       exact .inl hn0
     ·rename_i m1 y e1 e2
      have hmn0:∀ n∈frN ((m1.push y).frames++(m1.push y).fg),n∈frN ((msRen ρ m).frames++(msRen ρ m).fg):=by
       intro n hn
       have e1':(m1.push y).frames=_:=e1
       have e2':(m1.push y).fg=_:=e2
       rw [e1',e2'] at hn
       exact hNM n hn
      have h81:=leave_push c l (nxt (msRen ρ m)) s x hs hl1 (fs.map (frRen ρ)) (frRen ρ fr) hf1 hfl1 pf vs hff hz hok.tab.sh hok.tab.rk rr hrd1 hN1 r' f a h83 (m1.push y) (fun n hn => .inl (hmn0 n hn)) hA'
      have h67:=stepR_same c l (msRen ρ m) p hat hst hsl' hp rr hN1 hc true (m1.push y) (fun n hn => .inl (hmn0 n hn)) h81
      have h67':=back (.ret (.pv (.bool true))) (msRen ρ (m1.push y)) [] (by rw [msRen_msRen hinv,List.append_nil];exact h67)
      simp only [Go.Lg.Out.ren,V.ren,renO] at h67'
      have hss:(msRen ρ (m1.push y)).steps=m.steps+1:=(enterN_steps _ _ _ _ _ _ hres).trans k3
      have hf2:(msRen ρ (m1.push y)).frames=fs:=by
       show List.map (frRen ρ) m1.frames=_
       rw [e1,hMf,map_frRen_2 hinv]
      have hg2:(msRen ρ (m1.push y)).fg=((popFr (pop1 (nxt m) s x) fs fr).keep fr.f fr.a x).fg:=by
       show List.map (frRen ρ) m1.fg=_
       rw [e2]
       exact map_frRen_2 hinv _
      refine StepTo.of (rdO fs) [(n0,rdB rr)] [] hA (by rw [hf2];simp) hnm (hnm.next hss (by rw [hf2];exact nd1.1) ?_) (by simp [keysO]) h67'
      intro n hn
      refine .inl ((hkn n).1 ?_)
      rw [hf2,hg2] at hn
      rw [hfM]
      exact hn
end
section
variable (c:List Ins) (l:Nat) (m:Mm) (p:Nat) (hat:m.at_=((p:Nat):Int)) (hst:¬ m.steps=l) (hsl:m.steps≤800000) (hp:p≤1000000) (hnm:Nm m) {b0:Nat} (hb0:b0≤800000) {N0:Nat} (hN0:N0+(3 * (b0+1024)+7) * 2200000≤1152921504606846976) (hok:OkM b0 N0 m)
include hat hst hsl hp hnm hb0 hN0 hok
theorem step_full (hcode:Okc c) (r:Rm) (hr:m.step c l (1000+m.steps)=some r):StepR c l m r:=by
 have hN5:N0+(3 * (b0+1024)+5) * 2200000≤1152921504606846976:=Nat.le_trans (Nat.add_le_add_left (Nat.mul_le_mul_right _ (by omega)) _) hN0
 unfold Mm.step at hr
 rw [if_neg hst,if_neg (by omega)] at hr
 split at hr
 ·cases hr
 ·rename_i op a hc
  rw [hat] at hc
  simp only [Int.toNat_natCast] at hc
  obtain⟨h1,h2,h3,h4,h5⟩:=hcode p op a hc
  have hr:(nxt m).exec (1000+m.steps) op a=some r:=hr
  by_cases hop:op∈[1,2,4,5,7,8,10,11,12,13]
  ·refine full_1 c l m p hat hst hsl hp hnm hb0 hok op a h2 h5 hop hc r ?_
   simp only [List.mem_cons,List.not_mem_nil,or_false] at hop
   rcases hop with rfl|rfl|rfl|rfl|rfl|rfl|rfl|rfl|rfl|rfl<;>exact hr
  ·simp only [List.mem_cons,List.not_mem_nil,or_false] at hop
   have ha:a=0:=by omega
   subst ha
   have:op=3∨op=6∨op=9∨op=14:=by omega
   rcases this with rfl|rfl|rfl|rfl
   ·exact full_3 c l m p hat hst hsl hp hnm hb0 (by omega) hok hc r _ hr
   ·exact full_rec c l m p hat hst hsl hp hnm hb0 hN5 hok false hc r hr
   ·exact full_rec c l m p hat hst hsl hp hnm hb0 hN5 hok true hc r hr
   ·exact full_ret c l m p hat hst hsl hp hnm hb0 hN0 hok hc r hr
end
theorem step_full_limit (c:List Ins) (l:Nat) (m:Mm) (hst:m.steps=l) (hnm:Nm m):StepErr c l m 5 :=
 .same3 hnm (step_limit c l m hst (fun n hn=>by have:=hnm.lo n hn;omega))
open Go.Lg
def OkrM (b N:Nat):Rm→Prop
 | .go m=>OkM b N m
 | .stop m=>OkM b N m
 | .err _=>True
def StsM (k:Nat):Rm→Prop
 | .go m=>m.steps=k
 | .stop m=>m.steps=k
 | .err _=>True
theorem OkrM.mono {b b' N N':Nat} (hb:b≤b') (hN:N≤N') {r:Rm} (h:OkrM b N r):OkrM b' N' r:=by
 cases r with
 | go m=>exact OkM.mono hb hN h
 | stop m=>exact OkM.mono hb hN h
 | err e=>trivial
theorem TabM.hit {b N:Nat} {T:Tab} (h:TabM b N T) {f a:It} (hf:Bd b f) (ha:Bd b a):TabM b (N+2200000) (T.hit f a):=by
 have h1:=keyN_len T.nums f a
 have z1:=szI_bd hf
 have z2:=szI_bd ha
 have h2:=h.nums
 have h3:=h.hits
 exact⟨h.res,keyN_sh f a h.sh,h.rk,by simp only [Tab.hit];omega,by simp only [Tab.hit];omega⟩
theorem TabM.miss {b N:Nat} {T:Tab} (h:TabM b N T) {f a:It} (hf:Bd b f) (ha:Bd b a):TabM b (N+2200000) (T.miss f a):=by
 have h1:=keyN_len T.nums f a
 have z1:=szI_bd hf
 have z2:=szI_bd ha
 have h2:=h.nums
 have h3:=h.hits
 exact⟨h.res,keyN_sh f a h.sh,h.rk,by simp only [Tab.miss];omega,by simp only [Tab.miss];omega⟩
theorem rGet_mem {k:List Int} {x:It} : ∀ {L:List (List Int × It)},rGet L k=some x→∃ e∈L,e.2=x
 | [],h=>by simp [rGet] at h
 | (k',y)::L,h=>by
  simp only [rGet] at h
  split at h
  ·cases h;exact⟨_,.head _,rfl⟩
  ·obtain⟨e,he,h2⟩:=rGet_mem h;exact⟨e,.tail _ he,h2⟩
theorem OkM.tabTo {b N N':Nat} {m:Mm} (h:OkM b N m) {T:Tab} (hT:TabM b N' T):OkM b N' { m with tab:=T } :=
 ⟨h.stack,h.len,h.vars,h.inside,h.frames,h.few,hT⟩
theorem OkM.into {b N:Nat} {m:Mm} {p:Nat} {vs:List It} {a:It} {rd:Option (Nat × Rd)} (h:OkM b N m) (hf:Bd b (.fn p vs)) (ha:Bd b a) (hr:∀ n r,rd=some (n,r)→RdM b r∧r.next<r.count):OkrM b N (m.into (.fn p vs) a p vs rd):=by
 unfold Mm.into
 split
 ·trivial
 ·rename_i hl
  have hf':=hf
  simp only [Bd] at hf
  refine⟨h.stack,h.len,⟨ha,hf.1⟩,?_,?_,?_,h.tab⟩
  ·have:=ha.more
   simp only [insideL]
   omega
  ·intro fr hfr
   rcases List.mem_append.1 hfr with hfr|hfr
   ·exact h.frames fr hfr
   ·simp only [List.mem_singleton] at hfr
    subst hfr
    exact⟨h.vars,h.inside,hf',⟨_,_,rfl⟩,ha,hr⟩
  ·simp only [List.length_append,List.length_cons,List.length_nil]
   omega
theorem OkM.enterN {b:Nat} : ∀ (k:Nat) {N:Nat} {m:Mm} {f a:It} {rd:Option (Nat × Rd)} {r:Rm},OkM b N m→Bd b f→Bd b a→(∀ n r,rd=some (n,r)→RdM b r∧r.next<r.count)→Mm.enterN k m f a rd=some r→OkrM (b+1) (N+k * 2200000) r
 | 0,N,m,f,a,rd,r,_,_,_,_,h=>by simp [Mm.enterN] at h
 | k+1,N,m,f,a,rd,r,hm,hf,ha,hr,h=>by
  cases f with
  | fn p vs =>
   simp only [Mm.enterN] at h
   have hm1:OkM b (N+2200000) { m with tab:=m.tab.hit (.fn p vs) a }:=hm.tabTo (hm.tab.hit hf ha)
   split at h
   ·split at h
    ·rename_i x hx
     have hBx:Bd b x:=by
      obtain⟨e,he,h2⟩:=rGet_mem hx
      rw [← h2]
      exact hm.tab.res e he
     have hpush:OkM (b+1) (N+(k+1) * 2200000) (Mm.push { m with tab:=m.tab.hit (.fn p vs) a } x):=(hm1.push (hBx.mono (by omega))).mono (Nat.le_refl _) (by omega)
     split at h
     ·cases h;exact hpush
     ·split at h
      ·cases h
      ·cases h;exact hpush
      ·rename_i r0 f' a' r' hret
       obtain⟨h1,h2⟩:=hr _ _ rfl
       obtain⟨o1,o2,o3,o4⟩:=RdM.returned h1 hBx h2 hret
       have:=OkM.enterN k hm1 o1 o2 (fun n r e=>by cases e;exact⟨o3,o4⟩) h
       exact this.mono (Nat.le_refl _) (by omega)
    ·cases h
     exact ((hm.tabTo (hm.tab.miss hf ha)).into hf ha hr).mono (by omega) (by omega)
   ·cases h
    exact (hm.into hf ha hr).mono (by omega) (by omega)
  | _=>cases h;trivial
theorem rdFuel_le {b n:Nat} {r:Rd} (h:RdM b r):rdFuel (some (n,r))≤3 * (b+1024)+3:=by
 have h1:=h.ok.count
 have h2:=h.two
 simp only [rdFuel]
 omega
theorem OkM.enter {b N:Nat} {m:Mm} {f a:It} {rd:Option (Nat × Rd)} {r:Rm} (h:OkM b N m) (hf:Bd b f) (ha:Bd b a) (hr:∀ n r,rd=some (n,r)→RdM b r∧r.next<r.count) (he:m.enter f a rd=some r):OkrM (b+1) (N+(3 * (b+1024)+3) * 2200000) r:=by
 have h1:=OkM.enterN _ h hf ha hr he
 refine h1.mono (Nat.le_refl _) ?_
 have:rdFuel rd≤3 * (b+1024)+3:=by
  cases rd with
  | none=>simp only [rdFuel];omega
  | some q=>exact rdFuel_le (n:=q.1) (hr q.1 q.2 rfl).1
 have:=Nat.mul_le_mul_right 2200000 this
 omega
theorem OkM.recursion {b N:Nat} {m:Mm} {n:Nat} {list:Bool} {r:Rm} (h:OkM b N m) (hr:m.recursion n list=some r):OkrM (b+1) (N+(3 * (b+1024)+4) * 2200000) r:=by
 unfold Mm.recursion at hr
 split at hr
 ·cases hr
 ·rename_i x m1 h1
  obtain⟨hx,h,-⟩:=h.pop h1
  split at hr
  ·cases hr
  ·rename_i f m2 h2
   obtain⟨hf,h,-⟩:=h.pop h2
   split at hr
   ·cases hr
   ·rename_i a m3 h3
    obtain⟨ha,h,-⟩:=h.pop h3
    split at hr
    ·split at hr
     ·cases hr;trivial
     ·rename_i rr hrr
      have hro:=rdOf_ok hf ha hx hrr
      split at hr
      ·cases hr
       exact (h.push (ha.mono (by omega))).mono (by omega) (by omega)
      ·split at hr
       ·rename_i g aa r' hbeg
        have h0:rr.next=0∧rr.left=[]:=by
         unfold rdOf at hrr
         split at hrr<;>cases hrr<;>exact⟨rfl,rfl⟩
        have hb:=RdM.begin ⟨hro,by rw [h0.2];simp⟩ (by omega) hbeg
        exact (h.enter hb.1 hb.2.1 (fun _ _ e=>by cases e;exact hb.2.2) hr).mono (by omega) (by omega)
       ·cases hr
    ·cases hr;trivial
theorem OkrM.stopIf {b N:Nat} {m:Mm} (h:OkM b N m):OkrM b N (stopIfM m):=by
 unfold Go.Lg.stopIfM
 split<;>exact h
theorem OkM.keep {b N:Nat} {m:Mm} (h:OkM b N m) {f a x:It} (hf:Bd b f) (ha:Bd b a) (hx:Bd b x):OkM b (N+2200000) (m.keep f a x):=by
 have ht:=h.tab.keep hf ha hx
 unfold Mm.keep at ht ⊢
 split
 ·rename_i hp
  rw [if_pos hp] at ht
  exact h.tabTo ht
 ·exact h.mono (Nat.le_refl _) (by omega)
theorem OkM.leave {b N:Nat} {m:Mm} {r:Rm} (h:OkM b N m) (hr:m.leave=some r):OkrM (b+1) (N+(3 * (b+1024)+4) * 2200000) r:=by
 unfold Mm.leave at hr
 split at hr
 ·cases hr
 ·rename_i x m1 h1
  obtain⟨hx,h,hfr,-⟩:=h.pop h1
  split at hr
  ·cases hr
   exact (h.push (hx.mono (by omega))).mono (by omega) (by omega)
  ·rename_i fr m2 h2
   obtain⟨hf,h⟩:=h.popF h2
   have hk:=h.keep hf.f hf.a hx
   split at hr
   ·cases hr
    exact (OkrM.stopIf (hk.push (hx.mono (by omega)))).mono (by omega) (by omega)
   ·rename_i n rr hrd
    split at hr
    ·cases hr
    ·cases hr
     exact (OkrM.stopIf (hk.push (hx.mono (by omega)))).mono (by omega) (by omega)
    ·rename_i f a r' hret
     have h1:=hf.rd _ _ hrd
     have:=RdM.returned h1.1 hx h1.2 hret
     exact (hk.enter this.1 this.2.1 (fun _ _ e=>by cases e;exact this.2.2) hr).mono (by omega) (by omega)
theorem OkrM.made {b N:Nat} {m:Mm} {x:It} (h:OkM b N m) (hx:x.more<1024→Bd (b+1) x):OkrM (b+1) N (madeM m x):=by
 unfold Go.Lg.madeM
 split
 ·trivial
 ·exact h.push (hx (by omega))
theorem OkM.exec {b N:Nat} {m:Mm} {n op a:Nat} {r:Rm} (h:OkM b N m) (hr:m.exec n op a=some r):OkrM (b+1) (N+(3 * (b+1024)+4) * 2200000) r:=by
 have up:∀ {m':Mm},OkM (b+1) N m'→OkM (b+1) (N+(3 * (b+1024)+4) * 2200000) m':=fun h=>h.mono (Nat.le_refl _) (by omega)
 unfold Mm.exec at hr
 split at hr
 ·split at hr
  ·rename_i x hx
   cases hr
   exact up (h.push ((BdL_iff.1 h.vars x (List.mem_of_getElem? hx)).mono (by omega)))
  ·cases hr;trivial
 ·cases hr
  refine (OkrM.made h fun hm => ?_).mono (Nat.le_refl _) (by omega)
  simp only [Bd]
  exact⟨h.vars.mono (by omega),by simpa only [It.more] using hm⟩
 ·split at hr
  ·cases hr
  ·rename_i x m1 h1
   obtain⟨hx,h,-⟩:=h.pop h1
   split at hr
   ·cases hr
   ·rename_i f m2 h2
    obtain⟨hf,h,-⟩:=h.pop h2
    exact (h.enter hf hx (fun _ _ e=>by cases e) hr).mono (by omega) (by omega)
 ·cases hr
  exact up (h.push (by simp only [Bd];omega))
 ·split at hr
  ·cases hr
  ·rename_i k m1 h1
   obtain⟨hx,h,-⟩:=h.pop h1
   cases hr
   simp only [Bd] at hx
   exact OkM.mono (Nat.le_refl _) (by omega) (h.push (by simp only [Bd];omega))
  ·cases hr;trivial
 ·exact h.recursion hr
 ·exact h.recursion hr
 ·cases hr
  exact up (h.push (by simp [Bd]))
 ·split at hr
  ·cases hr
  ·rename_i x m1 h1
   obtain⟨hx,h,-⟩:=h.pop h1
   split at hr
   ·cases hr
   ·rename_i f m2 h2
    obtain⟨hf,h,-⟩:=h.pop h2
    split at hr
    ·split at hr
     ·cases hr;trivial
     ·cases hr
      simp only [Bd] at hx hf
      refine OkM.mono (Nat.le_refl _) (by omega) (h.push ?_)
      simp only [Bd,List.length_cons,List.mem_cons]
      refine⟨by omega,fun y hy => ?_⟩
      rcases hy with rfl|hy
      ·omega
      ·have:=hx.2 y hy
       omega
    ·cases hr;trivial
 ·split at hr
  ·cases hr
  ·rename_i x m1 h1
   obtain⟨hx,h,-⟩:=h.pop h1
   split at hr
   ·cases hr
   ·rename_i f m2 h2
    obtain⟨hf,h,-⟩:=h.pop h2
    cases hr
    refine (OkrM.made h fun hm => ?_).mono (Nat.le_refl _) (by omega)
    simp only [Bd]
    exact⟨hf.mono (by omega),hx.mono (by omega),by simpa only [It.more] using hm⟩
 ·split at hr
  ·cases hr
  ·rename_i x y m1 h1
   obtain⟨hx,h,-⟩:=h.pop h1
   cases hr
   simp only [Bd] at hx
   exact OkM.mono (Nat.le_refl _) (by omega) (h.push (hx.1.mono (by omega)))
  ·cases hr;trivial
 ·split at hr
  ·cases hr
  ·rename_i x y m1 h1
   obtain⟨hx,h,-⟩:=h.pop h1
   cases hr
   simp only [Bd] at hx
   exact OkM.mono (Nat.le_refl _) (by omega) (h.push (hx.2.1.mono (by omega)))
  ·cases hr;trivial
 ·cases hr
  exact up (h.push (by simp only [Bd]))
 ·exact h.leave hr
theorem OkM.step {b N:Nat} {m:Mm} {c:List (Nat × Nat)} {l n:Nat} {r:Rm} (h:OkM b N m) (hr:m.step c l n=some r):OkrM (b+1) (N+(3 * (b+1024)+4) * 2200000) r:=by
 unfold Mm.step at hr
 split at hr
 ·cases hr;trivial
 ·split at hr
  ·cases hr
  ·split at hr
   ·cases hr
   ·exact OkM.exec (m:={ m with steps:=m.steps+1,at_:=m.at_+1 }) ⟨h.stack,h.len,h.vars,h.inside,h.frames,h.few,h.tab⟩ hr
theorem StsM.pop {m m':Mm} {x:It} (h:m.pop=some (x,m')):m'.steps=m.steps:=by
 obtain⟨s,-,rfl⟩:=popM_inv h
 rfl
theorem StsM.into (m:Mm) (f a:It) (p:Nat) (vs:List It) (rd:Option (Nat × Rd)):StsM m.steps (m.into f a p vs rd):=by
 unfold Mm.into
 split<;>simp [StsM]
theorem StsM.enterN:∀ (k:Nat) {m:Mm} {f a:It} {rd:Option (Nat × Rd)} {r:Rm},Mm.enterN k m f a rd=some r→StsM m.steps r
 | 0,m,f,a,rd,r,h=>by simp [Mm.enterN] at h
 | k+1,m,f,a,rd,r,h=>by
  cases f with
  | fn p vs =>
   simp only [Mm.enterN] at h
   split at h
   ·split at h
    ·split at h
     ·cases h;rfl
     ·split at h
      ·cases h
      ·cases h;rfl
      ·exact StsM.enterN k (m:={ m with tab:=m.tab.hit (.fn p vs) a }) h
    ·cases h;exact StsM.into { m with tab:=m.tab.miss (.fn p vs) a } _ _ _ _ _
   ·cases h;exact StsM.into _ _ _ _ _ _
  | _=>cases h;trivial
theorem StsM.stopIf (m:Mm):StsM m.steps (stopIfM m):=by
 unfold Go.Lg.stopIfM
 split<;>simp [StsM]
theorem StsM.popF {m m':Mm} {x:Fr} (h:m.popF=some (x,m')):m'.steps=m.steps:=by
 unfold Mm.popF at h
 split at h
 ·cases h;rfl
 ·cases h
theorem StsM.leave {m:Mm} {r:Rm} (h:m.leave=some r):StsM m.steps r:=by
 unfold Mm.leave at h
 split at h
 ·cases h
 ·rename_i x m1 h1
  rw [← StsM.pop h1]
  split at h
  ·cases h;simp [StsM,Mm.push]
  ·rename_i fr m2 h2
   rw [← StsM.popF h2]
   have k3:=(keep_facts m2 fr.f fr.a x).2.2.1
   rw [← k3]
   split at h
   ·cases h;exact StsM.stopIf (Mm.push _ x)
   ·split at h
    ·cases h
    ·cases h;exact StsM.stopIf (Mm.push _ x)
    ·exact StsM.enterN _ h
theorem StsM.recursion {m:Mm} {n:Nat} {b:Bool} {r:Rm} (h:m.recursion n b=some r):StsM m.steps r:=by
 unfold Mm.recursion at h
 split at h
 ·cases h
 ·rename_i x m1 h1
  split at h
  ·cases h
  ·rename_i f m2 h2
   split at h
   ·cases h
   ·rename_i b m3 h3
    rw [← StsM.pop h1,← StsM.pop h2,← StsM.pop h3]
    split at h
    ·split at h
     ·cases h;trivial
     ·split at h
      ·cases h;simp [StsM,Mm.push]
      ·split at h
       ·exact StsM.enterN _ h
       ·cases h
    ·cases h;trivial
theorem StsM.exec {m:Mm} {n op a:Nat} {r:Rm} (h:m.exec n op a=some r):StsM m.steps r:=by
 unfold Mm.exec at h
 split at h
 ·split at h<;>cases h<;>simp [StsM,Mm.push]
 ·cases h;unfold madeM;split<;>simp [StsM,Mm.push]
 ·split at h
  ·cases h
  ·rename_i x m1 h1
   split at h
   ·cases h
   ·rename_i f m2 h2
    rw [← StsM.pop h1,← StsM.pop h2]
    exact StsM.enterN _ h
 ·cases h;simp [StsM,Mm.push]
 ·split at h
  ·cases h
  ·rename_i k m1 h1
   rw [← StsM.pop h1]
   cases h;simp [StsM,Mm.push]
  ·cases h;trivial
 ·exact StsM.recursion h
 ·exact StsM.recursion h
 ·cases h;simp [StsM,Mm.push]
 ·split at h
  ·cases h
  ·rename_i x m1 h1
   split at h
   ·cases h
   ·rename_i f m2 h2
    rw [← StsM.pop h1,← StsM.pop h2]
    split at h
    ·split at h<;>cases h<;>simp [StsM,Mm.push]
    ·cases h;trivial
 ·split at h
  ·cases h
  ·rename_i x m1 h1
   split at h
   ·cases h
   ·rename_i f m2 h2
    rw [← StsM.pop h1,← StsM.pop h2]
    cases h;unfold madeM;split<;>simp [StsM,Mm.push]
 ·split at h
  ·cases h
  ·rename_i k _ m1 h1
   rw [← StsM.pop h1]
   cases h;simp [StsM,Mm.push]
  ·cases h;trivial
 ·split at h
  ·cases h
  ·rename_i k _ m1 h1
   rw [← StsM.pop h1]
   cases h;simp [StsM,Mm.push]
  ·cases h;trivial
 ·cases h;simp [StsM,Mm.push]
 ·exact StsM.leave h
theorem step_stepsM {m:Mm} {c:List (Nat × Nat)} {l n:Nat} {r:Rm} (h:m.step c l n=some r):StsM (m.steps+1) r∧(m.steps=l→r = .err 5)∧(¬ m.steps=l→0≤m.at_):=by
 unfold Mm.step at h
 split at h
 ·rename_i e
  cases h
  exact⟨trivial,fun _=>rfl,fun hn=>absurd e hn⟩
 ·rename_i e
  split at h
  ·cases h
  ·rename_i ha
   split at h
   ·cases h
   ·exact⟨StsM.exec h,fun h=>absurd h e,fun _=>by omega⟩
inductive RunsM (c:List (Nat × Nat)) (l:Nat):Mm→Rm→Prop
 | stop {m m':Mm} : m.step c l (1000+m.steps)=some (.stop m')→RunsM c l m (.stop m')
 | err {m:Mm} {e:Nat} : m.step c l (1000+m.steps)=some (.err e)→RunsM c l m (.err e)
 | go {m m':Mm} {r:Rm} : m.step c l (1000+m.steps)=some (.go m')→RunsM c l m' r→RunsM c l m r
inductive DrainsM (c:List (Nat × Nat)) (l:Nat):Mm→Rm→Prop
 | done {m:Mm} : m.frames=[]→DrainsM c l m (.stop m)
 | err {m:Mm} {e:Nat} : m.frames≠[]→m.step c l (1000+m.steps)=some (.err e)→DrainsM c l m (.err e)
 | go {m m':Mm} {r:Rm} : m.frames≠[]→m.step c l (1000+m.steps)=some (.go m')→DrainsM c l m' r→DrainsM c l m r
 | stop {m m':Mm} {r:Rm} : m.frames≠[]→m.step c l (1000+m.steps)=some (.stop m')→DrainsM c l m' r→DrainsM c l m r
inductive EntsM (c:List (Nat × Nat)) (l:Nat):Mm→List It→Rm→Prop
 | nil {m:Mm} : EntsM c l m [] (.stop m)
 | bad {m m1 m2:Mm} {f a:It} {zs:List It} {e:Nat} : m.pop=some (f,m1)→({ m1 with at_:=-1 } : Mm).enter f a none=some (.go m2)→DrainsM c l m2 (.err e)→EntsM c l m (a::zs) (.err e)
 | cons {m m1 m2 m3:Mm} {f a:It} {zs:List It} {r:Rm} : m.pop=some (f,m1)→({ m1 with at_:=-1 } : Mm).enter f a none=some (.go m2)→DrainsM c l m2 (.stop m3)→EntsM c l m3 zs r→EntsM c l m (a::zs) r
def mm0:Mm:=⟨0,[],[],0,[],[],0,0,[],⟨[],[],0⟩⟩
set_option maxRecDepth 10000
set_option maxHeartbeats 4000000
theorem catch_66 (e:Nat):Catches Tryz.prog gl 112 [.loc 4 0,.loc 5 0] [(4,.box [.pv .nil]),(5,.box [.pv (.int 0)])] (fail e) [(4,.box [.pv .nil]),(5,.box [.pv (.int e)])]:=by
 refine catches_of (X:=XX [] 13 [4,5]) (fc:=112) (fn:=Tryz.f112) (tr:=5) Tryz.func112 rfl Tryz.ntmps112 (fun _ _=>rfl) rfl rfl (by decide) (x:=.pv (.tuple [])) rfl (by decide) (by simp [subL,namesL,V.names,namesOb,Ob.names,keysO]) (by simp [subL,namesL,V.names,namesOb,Ob.names,keysO]) ?_
 unfold fail
 simp only [keysO,List.map_cons,List.map_nil]
 refine gg ?_
 refine⟨by rfl,?_⟩
 refine gg ?_
 exact⟨by simp [retIs,resV,resL,resOne,mkTup,getS,getO,rdV,mkAgg,unL,V.un,TI.isAgg,XX_T,tt30,Tryz.f112],by simp [subO,getO,tt30,Tryz.f112]⟩
open Go.Lg
theorem eq_nil (ρ : Operand → Value) (h : ρ (.tmp 5) = .nilIface) (hc : ρ (.const .nilIface) = .nilIface) (w : World) : (execOp ρ ({ dst := some 7, op := Op.binOp BinOp.eql 20 (Operand.tmp 5) (Operand.const Value.nilIface) 20, type := 4, pos := "run.go:296", after := #[], guard := none } : Oper)).run Tryz.prog w = .ok (.value (.bool true)) w := by
 have hT:=(XX [] 13 []).ok
 have hti:TIOK Tryz.prog 20 _:=hT 20 _ tt20
 obtain⟨d,hd,hk⟩:=hti.desc
 simp only [TKOK] at hk
 have heq:(Op.equal 20 .nilIface .nilIface).run Tryz.prog w = .ok true w:=run_equal fun d=>by
  obtain⟨ms,rfl⟩:=hk
  simp [Op.equalIn,run_underlying hd]
 have hg:(eqGuard BinOp.eql 20 (Operand.tmp 5) (Operand.const Value.nilIface) Value.nilIface Value.nilIface).run Tryz.prog w = .ok () w:=by
  simp [eqGuard]
 simp [execOp,h,hc,hg,binOp,heq]
theorem idle_66:Idles Tryz.prog 112 2:=by
 intro w vs hl
 obtain⟨x,y,rfl⟩:∃ x y,vs=[x,y]:=by
  match vs,hl with
  | [x,y],_=>exact⟨x,y,rfl⟩
 refine callsD_of_wpS (P:=Tryz.prog) (fn:=Tryz.f112) Tryz.func112 rfl fun c₀ cs hu => ?_
 apply wpS_seq
 apply wpS_region
 simp only [List.size_toArray,List.length_cons,List.length_nil,Nat.zero_add,List.range_succ,List.range_zero,List.nil_append]
 simp only [wpOpsS,List.getElem?_toArray,List.getElem?_cons_zero,Region.wanted,if_true]
 have hrec : ∀ ρ w, (execOp ρ ({ dst := some 5, op := Op.call { callee := Callee.builtin Builtin.recover, args := #[], argTypes := #[] }, type := 0, pos := "run.go:296", after := #[], guard := none } : Oper)).run Tryz.prog w = .ok .recover w := fun _ _ => rfl
 simp only [hrec,recoverD,hu,Exit.thenS]
 refine wpS_of_wp ?_
 have hta:({ tmps:=#[x,y]++Array.replicate (Tryz.f112.ntmps-(1+1)) undef,defers:=[] } : Act).put (some 5) Value.nilIface = { tmps:=#[x,y,undef,undef,undef,.nilIface,undef,undef,undef,undef,undef,undef,undef],defers:=[] }:=rfl
 rw [hta]
 clear hta hrec hl
 generalize hQ:(fun (e:Exit) (a':Act) (w':World)=>bodyPostS Tryz.prog Tryz.f112 c₀ cs (fun e u' w'=>(∃ r,e=Ending.returned r)∧u'=FrameMode.returning∧w'=w) e a' (c₀::cs) w')=Q
 have hend:∀ a':Act,a'.defers=[]→Q .normal a' w:=by
  intro a' ha
  rw [← hQ]
  refine⟨ha,.returning,by rw [← hu],.tuple #[],?_,⟨_,rfl⟩,rfl,rfl⟩
  simp [results,Tryz.f112]
 clear hQ hu
 apply wp_block
 apply wp_seq
 apply wp_region_list
 refine wpList_plain rfl fun K hK => ?_
 unfold Oper.wp
 rw [eq_nil _ rfl rfl,Oper.upon_value]
 apply hK
 show Code.wp _ _ _ _ _
 refine wp_cond_true rfl ?_
 apply wp_region_list
 refine wpList_plain rfl fun K hK => ?_
 unfold Oper.wp
 have hm : ∀ ρ w, (execOp ρ ({ dst := some 2, op := Op.assign (Operand.tmp 5), type := 20, pos := "run.go:296", after := #[], guard := none } : Oper)).run Tryz.prog w = .ok (.value (ρ (.tmp 5))) w := fun _ _ => rfl
 rw [hm,Oper.upon_value]
 apply hK
 exact hend _ rfl
end Go.Proofs.YtodjpfpmhjdhbaaGreatDoor
