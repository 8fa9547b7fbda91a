/- Contracts of functions; no conditions. -/
import Derived.Test.YtnkoaepelgbhfaaGreatDoorPC9
import Derived.Test.YtnkoaepelgbhfaaGreatDoorPC7
import Derived.Test.YtnkoaepelgbhfaaGreatDoorPC5
import Derived.Test.YtnkoaepelgbhfaaGreatDoorPC6
set_option linter.all false
set_option maxHeartbeats 4000000
namespace Go.Lg
theorem bk {ev:wB} {P:Program} {f m nx:Nat} {args:List V} {objs ch:List (Nat × Ob)} {ks:List Nat} {y:V} {ro o1:List (Nat × Ob)} (hd:VG (eC objs)=true) (hk:kL (eC objs) ks=true) (hn:VG (eC ch)=true)
  (hC:Called P ev.gl ⟨.nil,QB objs .nil,m,[]⟩ f args ⟨y,ch,[],nx⟩ ks ro o1):AC P ev.gl f args objs (.ret y) (GM ch objs):=by
 have hd:=dL hd;rw [pF] at hd;have hk:=OO hk;rw [pF] at hk;have hn:=dL hn;rw [pF] at hn;have hs0:∀ k,(QB objs .nil).get k=jA objs k:=λ k=>by
  rw [aR objs _ hd];cases jA objs k<;>rfl
 have hsub:∀ p∈ro++o1,jA objs p.1=some p.2:=λ p hp=>by rw [<- hs0];exact hC.subs p hp
 have hget:∀ k,jA (ro++o1) k=jA objs k:=by
  intro k
  cases e:jA (ro++o1) k with
  | some o=>exact (hsub (k,o) (pJ e)).symm
  | none =>
   cases e2:jA objs k with
   | none=>rfl
   | some o =>
    have h1:=hC.all k (hk k (getO_iff.2 (by rw [e2];rfl)));rw [getO_iff,e] at h1;cases h1
 refine AC.cong hC.ac hget (λ k => ?_) (λ k hk => ?_)
 ·rw [LV,<- hget,List.append_nil,cR,cR]
  cases e:jA ro k with
  | some o =>
   have h1:=(hC.apart k (getO_iff.2 (by rw [e];rfl))).2;have h2:jA ch k=none:=by
    cases e2:jA ch k with
    | none=>rfl
    | some o=>exact absurd (by simpa using getO_iff.2 (by rw [e2];rfl)) h1
   simp only [Option.map_some,QO,h2]
  | none =>
   simp only
   cases e2:jA o1 k with
   | some o =>
    have h1:=hC.inch k (getO_iff.2 (by rw [e2];rfl));obtain⟨o',ho'⟩:=Option.isSome_iff_exists.1 (getO_iff.1 h1);have ho':jA ch k=some o':=ho';simp only [Option.map_some,QO,ho']
   | none =>
    cases e3:jA ch k with
    | none=>rfl
    | some o =>
     have h1:=(hC.chs k (getO_iff.2 (by rw [e3];rfl))).2.2;rw [getO_iff,e2] at h1;cases h1
 ·obtain⟨p,hp,hkp⟩:=mem_mentO.1 hk;exact mem_mentO.2 ⟨p,pJ (hsub p hp),hkp⟩
end Go.Lg
namespace Go.Proofs.YtnkoaepelgbhfaaGreatDoor
open Go.Lg
set_option maxRecDepth 100000
def mC:List Nat->Nat->List Nat
 | [],n=>[n]
 | m::U,n=>if n=m then m::U else m::mC U n
theorem mem_ins1:∀ {U:List Nat} {n x:Nat},x∈mC U n↔x=n\/x∈U
 | [],n,x=>by simp [mC]
 | m::U,n,x=>by
  unfold mC;split
  ·rename_i e;subst e;simp
  ·rw [List.mem_cons,mem_ins1 (U:=U),List.mem_cons];constructor<;>(rintro (h|h|h)<;>simp [h])
theorem QV:∀ {U:List Nat} {n:Nat},U.Nodup->(mC U n).Nodup
 | [],n,_=>by simp [mC]
 | m::U,n,h=>by
  obtain⟨h1,h2⟩:=List.nodup_cons.1 h;unfold mC;split
  ·exact h
  ·rename_i e;exact List.nodup_cons.2 ⟨λ hm=>(mem_ins1.1 hm).elim (λ h=>e h.symm) h1,QV h2⟩
theorem RV:∀ (U:List Nat) (n:Nat),(mC U n).length<=U.length+1
 | [],n=>by simp [mC]
 | m::U,n=>by
  unfold mC;split
  ·simp
  ·have:=RV U n;simp;omega
theorem Ta:∀ (U:List Nat) (n:Nat),sD (se U) (.int (.ofNat n)) (.pv (.bool true))=se (mC U n)
 | [],n=>rfl
 | m::U,n=>by
  show (bif SK.eqB (.int (.ofNat n)) (.int (.ofNat m)) then _::se U else _::sD (se U) _ _)=_;unfold mC;by_cases e:n=m
  ·subst e;rw [(SK.eqB_iff _ _).2 rfl,if_pos rfl];rfl
  ·rw [if_neg e];have:SK.eqB (.int (.ofNat n)) (.int (.ofNat m))=false:=by
    cases h:SK.eqB (.int (.ofNat n)) (.int (.ofNat m)) with
    | false=>rfl
    | true=>have:=(SK.eqB_iff _ _).1 h;injection this with h;exact absurd (Int.ofNat.inj h) e
   rw [this,cond_false,Ta U n];rfl
theorem SV (k:Nat) (U:List Nat) (n:Nat):some (⟨.undef,some (k,.smap false (sD (se U) (.int (.ofNat n)) (.pv (.bool true)))),false⟩:RB)=some ⟨.undef,some (k,GA (mC U n)),false⟩:=by rw [Ta]
def RA:Tm->Nat->List Nat->List Nat
 | .v i,c,U=>if c<=i then mC U (i-c) else U
 | .lam _ b,c,U=>RA b (c+1) U
 | .n0 _,_,U=>U
 | .n1 _ a,c,U=>RA a c U
 | .n2 _ a b,c,U=>RA b c (RA a c U)
 | .n3 _ _ a b d,c,U=>RA d c (RA b c (RA a c U))
noncomputable def Ua:Code:=match (fnc 308).body with
 | some c=>c
 | none => .skip
abbrev gk (t:Tm) (c:Nat) (U:List Nat):IS:=⟨mF 0 [.pv t.p,.pv (num c),.map 0] .nil,Tr.nil.put 0 (some (GA U)),1,[]⟩
theorem pL {t:Tm} {c:Nat} {U U':List Nat} (h:Rc 1 308 Ua (gk t c U) .normal (st [] [(0,GA U')] 2 [0])):O 308 [.pv t.p,.pv (num c),.map 0] [(0,GA U)] (.pv (.tuple [])) [(0,GA U')]:=by
 obtain⟨ro,o1,hC⟩:=vR (s:=⟨.nil,QB [(0,GA U)] .nil,1,[]⟩) (KV h) WC (f:=308) (fn:=fnc 308) (c:=Ua) (by kernel_rfl) (by kernel_rfl) (args:=[.pv t.p,.pv (num c),.map 0]) (Nat.le_of_ble_eq_true (show Nat.ble 3 (fnc 308).ntmps=true by kernel_rfl)) (Nf U 1 rfl) (r:=⟨.pv (.tuple []),[(0,GA U')],[],2⟩) (by
  unfold oM HM;simp only [and_self,if_true]
  have e:iM ev.T 1 (Tr.nil.put 0 (some (GA U))) (fnc 308).results.toList .normal (st [] [(0,GA U')] 2 [0])=(match hJ 1 2 (Tr.nil.put 0 (some (GA U))) (QB [(0,GA U')] .nil) 1000000 (bC (se U')++[]) .nil [] with
   | some nw=>some ⟨.pv (.tuple []),[(0,GA U')],nw,2⟩
   | none=>none):=by kernel_rfl
  refine e.trans ?_;rw [UC];rfl)
 exact AC.wO 4 (bk (objs:=[(0,GA U)]) (by kernel_rfl) (by kernel_rfl) (by kernel_rfl) hC)
theorem JM {c:Nat} (h:c<=qA):aA (Int.ofNat c+0)=true/\Int.ofNat c+0 = .ofNat c:=⟨by rw [Int.add_zero];exact rA (by have:=zA;omega),Int.add_zero _⟩
theorem lk {c:Nat} (h:c+1<=qA):aA (Int.ofNat c+1)=true/\Int.ofNat c+1 = .ofNat (c+1):=⟨rA (n:=c+1) (by have:=zA;omega),rfl⟩
theorem nk {i c:Nat} (h:c<=i) (hi:i<=qA * qA):aA (Int.ofNat i-Int.ofNat c)=true/\Int.ofNat i-Int.ofNat c = .ofNat (i-c):=by
 have e:Int.ofNat i-Int.ofNat c = .ofNat (i-c):=by simp;omega
 exact⟨by rw [e];exact rA (by have e2:qA * qA=1125899906842624:=rfl;omega),e⟩
abbrev rL:Kp:=⟨[],[0],2,[0]⟩
theorem eJ:∀ (t:Tm) (c:Nat) (U:List Nat),c+t.cnt<=qA->t.mx<=qA * qA->O 308 [.pv t.p,.pv (num c),.map 0] [(0,GA U)] (.pv (.tuple [])) [(0,GA (RA t c U))]
 | .v i,c,U,h1,h2=>by
  unfold RA;by_cases h:c<=i
  ·rw [if_pos h];exact pL (Qs [(15,.G),(21,.z (i-c)),(99999,.w ⟨.undef,some (0,GA (mC U (i-c))),false⟩)] rL (show (!uA (.ofNat i) (.ofNat c))=true by rw [JA h];rfl) (nk h h2) (SV 0 U (i-c)) (UC (mC U (i-c))))
  ·rw [if_neg h];exact pL (Ns [(15,.H)] rL (show (!uA (.ofNat i) (.ofNat c))=false by rw [cA (by omega)];rfl) (UC U))
 | .n0 k,c,U,h1,h2=>by cases k<;>exact pL (XL [] rL (UC U))
 | .lam s b,c,U,h1,h2=>by
  simp only [Tm.cnt] at h1;have g:=eJ b (c+1) U (by omega) h2;exact pL (xf [(33,.z (c+1)),(35,.d 0 (GA (RA b (c+1) U)) (.pv (.tuple [])))] rL (lk (c:=c) (by omega)) g (UC (RA b (c+1) U)))
 | .n1 k a,c,U,h1,h2=>by
  simp only [Tm.cnt] at h1;have g:=eJ a c U (by omega) h2;cases k<;>exact pL (xf [(33,.z c),(35,.d 0 (GA (RA a c U)) (.pv (.tuple [])))] rL (JM (c:=c) (by omega)) g (UC (RA a c U)))
 | .n2 k a b,c,U,h1,h2=>by
  simp only [Tm.cnt] at h1;simp only [Tm.mx] at h2;have g:=eJ a c U (by omega) (by omega);have g':=eJ b c (RA a c U) (by omega) (by omega);cases k<;>exact pL (Af [(33,.z c),(35,.d 0 (GA (RA a c U)) (.pv (.tuple []))),(33,.z c),(35,.d 0 (GA (RA b c (RA a c U))) (.pv (.tuple [])))] rL (JM (c:=c) (by omega)) g (JM (c:=c) (by omega)) g' (UC (RA b c (RA a c U))))
 | .n3 k s a b d,c,U,h1,h2=>by
  simp only [Tm.cnt] at h1;simp only [Tm.mx] at h2;have g:=eJ a c U (by omega) (by omega);have g':=eJ b c (RA a c U) (by omega) (by omega);have g'':=eJ d c (RA b c (RA a c U)) (by omega) (by omega);cases k<;>exact pL (Bf [(33,.z c),(35,.d 0 (GA (RA a c U)) (.pv (.tuple []))),(33,.z c),(35,.d 0 (GA (RA b c (RA a c U))) (.pv (.tuple []))),(33,.z c),(35,.d 0 (GA (RA d c (RA b c (RA a c U)))) (.pv (.tuple [])))] rL (JM (c:=c) (by omega)) g (JM (c:=c) (by omega)) g' (JM (c:=c) (by omega)) g'' (UC (RA d c (RA b c (RA a c U)))))
end Go.Proofs.YtnkoaepelgbhfaaGreatDoor
namespace Go.Proofs.YtnkoaepelgbhfaaGreatDoor
open Go.Lg
set_option maxRecDepth 100000
theorem Va (n:Nat):∀ {S:List Nat},JC S->n ∉ S->∃ S',JC S'/\(∀ x,x∈S'↔x=n\/x∈S)/\S'.length=S.length+1
 | [],_,_=>⟨[n],List.pairwise_singleton _ _,λ x=>by simp,rfl⟩
 | y::S,h,hn=>by
  obtain⟨a,b⟩:=List.pairwise_cons.1 h;have hy:n≠y:=λ e=>hn (e ▸ List.mem_cons_self ..)
  by_cases c:n<y
  ·refine⟨n::y::S,List.pairwise_cons.2 ⟨λ x hx => ?_,h⟩,λ x=>List.mem_cons,rfl⟩;rcases List.mem_cons.1 hx with rfl|hx
   ·exact c
   ·have:=a x hx;omega
  ·obtain⟨S',h1,h2,h3⟩:=Va n b (λ h=>hn (List.mem_cons_of_mem _ h));refine⟨y::S',List.pairwise_cons.2 ⟨λ x hx => ?_,h1⟩,λ x => ?_,by simp [h3]⟩
   ·rcases (h2 x).1 hx with rfl|hx
    ·omega
    ·exact a x hx
   ·rw [List.mem_cons,h2,List.mem_cons];constructor<;>(rintro (h|h|h)<;>simp [h])
theorem Wa:∀ {U:List Nat},U.Nodup->∃ S,JC S/\(∀ x,x∈S↔x∈U)/\S.length=U.length
 | [],_=>⟨[],List.Pairwise.nil,λ _=>Iff.rfl,rfl⟩
 | n::U,h=>by
  obtain⟨h1,h2⟩:=List.nodup_cons.1 h;obtain⟨S,a,b,c⟩:=Wa h2;obtain⟨S',a',b',c'⟩:=Va n a (λ h=>h1 ((b n).1 h));exact⟨S',a',λ x=>by rw [b',b,List.mem_cons],by rw [c',c];rfl⟩
theorem Xa {U:List Nat} (h:U.Nodup) (hl:U.length<=8589934592):∃ S,MN U S/\S.length=U.length:=by
 obtain⟨S,a,b,c⟩:=Wa h;exact⟨S,⟨h,a,b,by omega⟩,c⟩
theorem iJ:∀ (t:Tm) (c:Nat) (U:List Nat) (x:Nat),x∈RA t c U↔x∈U\/t.occ (c+x)≠0
 | .v i,c,U,x=>by
  simp only [RA,Tm.occ];split
  ·rw [mem_ins1];split
   ·simp;left;omega
   ·simp;omega
  ·split
   ·omega
   ·simp
 | .n0 k,c,U,x=>by simp [RA,Tm.occ]
 | .lam s b,c,U,x=>by simp only [RA,Tm.occ];rw [iJ b,show c+1+x=c+x+1 by omega]
 | .n1 k a,c,U,x=>by simp only [RA,Tm.occ];exact iJ a c U x
 | .n2 k a b,c,U,x=>by simp only [RA,Tm.occ];rw [iJ b,iJ a];constructor<;>(intro h;by_cases h1:x∈U<;>simp_all<;>omega)
 | .n3 k s a b d,c,U,x=>by simp only [RA,Tm.occ];rw [iJ d,iJ b,iJ a];constructor<;>(intro h;by_cases h1:x∈U<;>simp_all<;>omega)
theorem oJ:∀ (t:Tm) (c:Nat) {U:List Nat},U.Nodup->(RA t c U).Nodup
 | .v i,c,U,h=>by
  unfold RA;split
  ·exact QV h
  ·exact h
 | .n0 k,c,U,h=>h
 | .lam s b,c,U,h=>oJ b (c+1) h
 | .n1 k a,c,U,h=>oJ a c h
 | .n2 k a b,c,U,h=>oJ b c (oJ a c h)
 | .n3 k s a b d,c,U,h=>oJ d c (oJ b c (oJ a c h))
theorem xJ:∀ (t:Tm) (c:Nat) (U:List Nat),(RA t c U).length<=U.length+t.cnt
 | .v i,c,U=>by
  simp only [RA,Tm.cnt];split
  ·exact RV U _
  ·omega
 | .n0 k,c,U=>by simp [RA]
 | .lam s b,c,U=>by have:=xJ b (c+1) U;simp only [RA,Tm.cnt];omega
 | .n1 k a,c,U=>by have:=xJ a c U;simp only [RA,Tm.cnt];omega
 | .n2 k a b,c,U=>by have:=xJ a c U;have:=xJ b c (RA a c U);simp only [RA,Tm.cnt];omega
 | .n3 k s a b d,c,U=>by have:=xJ a c U;have:=xJ b c (RA a c U);have:=xJ d c (RA b c (RA a c U));simp only [RA,Tm.cnt];omega
theorem AJ:∀ (t:Tm) (v:Nat),t.occ v≠0->v<=t.mx
 | .v i,v,h=>by simp only [Tm.occ] at h;simp only [Tm.mx];split at h<;>omega
 | .n0 k,v,h=>absurd rfl h
 | .lam s b,v,h=>by have:=AJ b (v+1) h;simp only [Tm.mx];omega
 | .n1 k a,v,h=>AJ a v h
 | .n2 k a b,v,h=>by
  simp only [Tm.occ] at h;simp only [Tm.mx];by_cases h1:a.occ v=0
  ·have:=AJ b v (by omega);omega
  ·have:=AJ a v h1;omega
 | .n3 k s a b d,v,h=>by
  simp only [Tm.occ] at h;simp only [Tm.mx];by_cases h1:a.occ v=0
  ·by_cases h2:b.occ v=0
   ·have:=AJ d v (by omega);omega
   ·have:=AJ b v h2;omega
  ·have:=AJ a v h1;omega
def BJ:Nat->Nat
 | 0=>1
 | 1=>0
 | n=>n
theorem Ya:∀ n,BJ (BJ n)=n
 | 0=>rfl
 | 1=>rfl
 | _+2=>rfl
theorem Za (ρ:Nat->Nat):∀ U:List Nat,wI ρ (se U)=se U
 | []=>rfl
 | n::U=>by show (_,_)::wI ρ (se U)=_::se U;rw [Za ρ U];rfl
theorem zb (U:List Nat):(GA U).ren BJ=GA U:=by show Ob.smap false (wI BJ (se U))=_;rw [Za]
theorem pk (t:Tm) (h1:t.cnt<=qA) (h2:t.mx<=qA * qA):O 308 [.pv t.p,.pv (num 0),.map 1] [(1,.smap false [])] (.pv (.tuple [])) [(1,GA (RA t 0 []))]:=by
 have h:=AC.ren Ya (eJ t 0 [] (by omega) h2);have e:lE BJ [(0,GA (RA t 0 []))]=[(1,GA (RA t 0 []))]:=by show [(1,(GA _).ren BJ)]=_;rw [zb]
 rw [e] at h;exact h
theorem ik {U S:List Nat} (h:MN U S):O 220 [.map 1] [(1,GA U)] (.pv (dA S)) [(1,GA U)]:=by
 have h:=AC.ren Ya (Of h);have e:lE BJ [(0,GA U)]=[(1,GA U)]:=by show [(1,(GA _).ren BJ)]=_;rw [zb]
 rw [e] at h;exact h
theorem xk (t:Tm) (h1:t.cnt<=qA) (h2:t.tsz<=bA) (h3:t.mx<=qA * qA):∃ u:List Nat,A 280 [t.p] (.tuple [dA u,num t.chk])/\(t.chk=0->∀ v,v∈u↔t.occ v≠0)/\(t.chk≠0->u=[])/\u.length<=t.cnt/\JC u:=by
 have hm:=zA;have hbb:=kA;have g1:=a31 t h2 (by omega)
 cases e:t.chk with
 | succ k =>
  rw [e] at g1;exact⟨[],f2 [(7,.N (k+1)),(9,.G)] g1 (GC (m:=k+1) (n:=0) (by omega)),λ h=>(by cases h),λ _=>rfl,Nat.zero_le _,.nil⟩
 | zero =>
  rw [e] at g1;have hl:=xJ t 0 [];obtain⟨S,h,h'⟩:=Xa (oJ t 0 (U:=[]) List.nodup_nil) (by simp at hl;omega);refine⟨S,f3 [(7,.N 0),(14,.d 1 (GA (RA t 0 [])) (.pv (.tuple []))),(16,.o [1] [] (.pv (dA S)))] g1 (pk t h1 h3) (ik h),λ _ v => ?_,λ h=>absurd rfl h,by simp at hl;omega,h.asc⟩;rw [h.mem,iJ,Nat.zero_add];simp
def SD (U:List Nat):List Nat->List Nat
 | []=>U
 | x::r=>SD (mC U x) r
theorem TV:∀ (r U:List Nat) (x:Nat),x∈SD U r↔x∈U\/x∈r
 | [],U,x=>by simp [SD]
 | y::r,U,x=>by simp only [SD];rw [TV r,mem_ins1,List.mem_cons];exact⟨λ h=>h.elim (λ h=>h.elim (λ h => .inr (.inl h)) .inl) (λ h => .inr (.inr h)),λ h=>h.elim (λ h => .inl (.inr h)) (λ h=>h.elim (λ h => .inl (.inl h)) .inr)⟩
theorem UV:∀ (r:List Nat) {U:List Nat},U.Nodup->(SD U r).Nodup
 | [],_,h=>h
 | y::r,_,h=>UV r (QV h)
theorem VV:∀ (r U:List Nat),(SD U r).length<=U.length+r.length
 | [],U=>by simp [SD]
 | y::r,U=>by have:=VV r (mC U y);have:=RV U y;simp only [SD,List.length_cons];omega
abbrev Ak (a b:List Nat) (k:Nat):List (Nat × V):=[(1,.pv (dA b)),(5,.map 0),(11,.pv (dA a)),(12,.pv (num (a.map ic).length)),(13,.pv (num k))]
abbrev Bk (b:List Nat) (k:Nat):List (Nat × V):=[(5,.map 0),(20,.pv (dA b)),(21,.pv (num (b.map ic).length)),(22,.pv (num k))]
theorem vb (a b:List Nat) (hl:a.length<=qA):∀ (r:List Nat) (k:Nat) (U:List Nat),a.drop k=r ->
  Lp 154 0 0 (st (Ak a b k) [(0,GA U)] 1 []) (.exit 0) (st [(1,.pv (dA b)),(5,.map 0)] [(0,GA (SD U r))] 1 [])
 | [],k,U,h=>by
  have e:uA (.ofNat k) (.ofNat (a.map ic).length)=false:=JA (by simpa using nG h);exact y1 [(14,.H)] ⟨[1,5],[0],1,[]⟩ e (UC U)
 | x::r,k,U,h=>by
  have hm:=zA;obtain⟨d1,d2,d3⟩:=mG h;have e:uA (.ofNat k) (.ofNat (a.map ic).length)=true:=cA (by simpa using d2);have g3:=rA (show k+1<=_ by omega);have ih:=vb a b hl r (k+1) (mC U x) d3;exact n6 [(14,.G),(15,.i (ic x)),(99999,.w ⟨.undef,some (0,GA (mC U x)),false⟩),(19,.ok)] ⟨[1,5,11,12,13],[0],1,[]⟩ e (kB d1 UJ) (SV 0 U x) g3 (UC (mC U x)) ih
theorem yb (b:List Nat) (hl:b.length<=qA):∀ (r:List Nat) (k:Nat) (U:List Nat),b.drop k=r ->
  Lp 154 1 0 (st (Bk b k) [(0,GA U)] 1 []) (.exit 2) (st [(5,.map 0)] [(0,GA (SD U r))] 1 [])
 | [],k,U,h=>by
  have e:uA (.ofNat k) (.ofNat (b.map ic).length)=false:=JA (by simpa using nG h);exact y1 [(23,.H)] ⟨[5],[0],1,[]⟩ e (UC U)
 | x::r,k,U,h=>by
  have hm:=zA;obtain⟨d1,d2,d3⟩:=mG h;have e:uA (.ofNat k) (.ofNat (b.map ic).length)=true:=cA (by simpa using d2);have g3:=rA (show k+1<=_ by omega);have ih:=yb b hl r (k+1) (mC U x) d3;exact n6 [(23,.G),(24,.i (ic x)),(99999,.w ⟨.undef,some (0,GA (mC U x)),false⟩),(28,.ok)] ⟨[5,20,21,22],[0],1,[]⟩ e (kB d1 UJ) (SV 0 U x) g3 (UC (mC U x)) ih
theorem Ck (a b:List Nat) (ha:a.length<=qA) (hb:b.length<=qA):∃ u:List Nat,A 154 [dA a,dA b] (dA u)/\(∀ v,v∈u↔v∈a\/v∈b)/\u.length<=a.length+b.length/\JC u:=by
 have hm:=zA;have h1:=VV a [];have h2:=VV b (SD [] a);obtain⟨S,h,h'⟩:=Xa (UV b (UV a (U:=[]) List.nodup_nil)) (by simp at h1;omega);have l1:=vb a b ha a 0 [] rfl;have l2:=yb b hb b 0 (SD [] a) rfl;refine⟨S,fk [(100003,.l ⟨[1,5,11,12,13],[0],1,[]⟩ (.exit 0) (st [(1,.pv (dA b)),(5,.map 0)] [(0,GA (SD [] a))] 1 [])),(100008,.l ⟨[5,20,21,22],[0],1,[]⟩ (.exit 2) (st [(5,.map 0)] [(0,GA (SD (SD [] a) b))] 1 [])),(30,.o [0] [] (.pv (dA S)))] (And.intro (UC []) (And.intro l1 (And.intro (UC (SD [] a)) (And.intro l2 (And.intro (Of h) (rfl:dA S=dA S)))))),λ v => ?_,by simp at h1;omega,h.asc⟩;rw [h.mem,TV,TV];simp
theorem Ek:MF where
 uses t h1 h2 h3:=by
  have hm:=zA;obtain⟨u,g1,g2,g3,g4,g5⟩:=xk t h1 (by have:=kA;omega) h3;refine⟨u,t.chk,g1,λ h=>⟨h,λ v hv=>(g2 h v).2 hv⟩,λ x hx => ?_,g4,g5⟩;by_cases e:t.chk=0
  ·exact AJ t x ((g2 e x).1 hx)
  ·rw [g3 e] at hx;cases hx
 union a b h1 h2 h3:=by
  obtain⟨u,g1,g2,g3,g4⟩:=Ck a b (by omega) (by omega);exact⟨u,g1,λ v hv=>(g2 v).2 hv,λ v hv=>(g2 v).1 hv,g3,g4⟩
theorem lI:∀ (t:Tm) (ρ:Nat->Nat),(t.ren ρ).cnt=t.cnt
 | .v _,_=>rfl
 | .lam s b,ρ=>by simp only [Tm.ren,Tm.cnt,lI b]
 | .n0 _,_=>rfl
 | .n1 _ a,ρ=>by simp only [Tm.ren,Tm.cnt,lI a]
 | .n2 _ a b,ρ=>by simp only [Tm.ren,Tm.cnt,lI a,lI b]
 | .n3 _ _ a b d,ρ=>by simp only [Tm.ren,Tm.cnt,lI a,lI b,lI d]
theorem CJ:∀ (t:Tm) (ρ:Nat->Nat) (c c':Nat),(∀ j,ρ j=c↔j=c')->(t.ren ρ).occ c=t.occ c'
 | .v i,ρ,c,c',h=>by
  simp only [Tm.ren,Tm.occ];by_cases e:i=c'
  ·rw [if_pos e,if_pos ((h i).2 e)]
  ·rw [if_neg e,if_neg λ k=>e ((h i).1 k)]
 | .lam s b,ρ,c,c',h=>CJ b (ZC ρ) (c+1) (c'+1) λ j=>by
  cases j with
  | zero=>simp only [ZC];omega
  | succ j=>have:=h j;simp only [ZC];omega
 | .n0 _,_,_,_,_=>rfl
 | .n1 _ a,ρ,c,c',h=>CJ a ρ c c' h
 | .n2 _ a b,ρ,c,c',h=>by simp only [Tm.ren,Tm.occ,CJ a ρ c c' h,CJ b ρ c c' h]
 | .n3 _ _ a b d,ρ,c,c',h=>by simp only [Tm.ren,Tm.occ,CJ a ρ c c' h,CJ b ρ c c' h,CJ d ρ c c' h]
theorem DJ:∀ (t:Tm) (ρ:Nat->Nat) (c:Nat),(t.ren ρ).occ c≠0->∃ j,t.occ j≠0/\ρ j=c
 | .v i,ρ,c,h=>by
  refine⟨i,by simp [Tm.occ],?_⟩;simp only [Tm.ren,Tm.occ] at h;by_cases e:ρ i=c
  ·exact e
  ·rw [if_neg e] at h;exact absurd rfl h
 | .lam s b,ρ,c,h=>by
  obtain⟨j,h1,h2⟩:=DJ b (ZC ρ) (c+1) h
  cases j with
  | zero=>simp only [ZC] at h2;omega
  | succ j=>exact⟨j,h1,by simp only [ZC] at h2;omega⟩
 | .n0 _,_,_,h=>absurd rfl h
 | .n1 _ a,ρ,c,h=>DJ a ρ c h
 | .n2 _ a b,ρ,c,h=>by
  simp only [Tm.ren,Tm.occ] at h;by_cases e:(a.ren ρ).occ c=0
  ·obtain⟨j,h1,h2⟩:=DJ b ρ c (by omega);exact⟨j,by simp only [Tm.occ];omega,h2⟩
  ·obtain⟨j,h1,h2⟩:=DJ a ρ c e;exact⟨j,by simp only [Tm.occ];omega,h2⟩
 | .n3 _ _ a b d,ρ,c,h=>by
  simp only [Tm.ren,Tm.occ] at h;by_cases e:(a.ren ρ).occ c=0
  ·by_cases e2:(b.ren ρ).occ c=0
   ·obtain⟨j,h1,h2⟩:=DJ d ρ c (by omega);exact⟨j,by simp only [Tm.occ];omega,h2⟩
   ·obtain⟨j,h1,h2⟩:=DJ b ρ c e2;exact⟨j,by simp only [Tm.occ];omega,h2⟩
  ·obtain⟨j,h1,h2⟩:=DJ a ρ c e;exact⟨j,by simp only [Tm.occ];omega,h2⟩
theorem ub (ρ:Nat->Nat):mA (λ i => .v (ρ i))=λ i => .v (ZC ρ i):=by
 funext i
 cases i with
 | zero=>rfl
 | succ i=>simp [mA,ZC,Tm.sh]
theorem EJ:∀ (t:Tm) (ρ:Nat->Nat),t.ren ρ=t.sub λ i => .v (ρ i)
 | .v _,_=>rfl
 | .lam s b,ρ=>by simp only [Tm.ren,Tm.sub,ub,EJ b]
 | .n0 _,_=>rfl
 | .n1 _ a,ρ=>by simp only [Tm.ren,Tm.sub,EJ a]
 | .n2 _ a b,ρ=>by simp only [Tm.ren,Tm.sub,EJ a,EJ b]
 | .n3 _ _ a b d,ρ=>by simp only [Tm.ren,Tm.sub,EJ a,EJ b,EJ d]
theorem ZF (s:Tm):(Tm.v 0).put 0 s 0=s:=by
 simp only [Tm.put,Nat.add_zero,if_true];exact ZE s 0
theorem oH (s:Tm) (i:Nat):(Tm.v (i+1)).put 0 s 0 = .v i:=by
 simp [Tm.put]
theorem nb (t s:Tm) (ρ:Nat->Nat):(t.put 0 s 0).ren ρ=(t.ren (ZC ρ)).put 0 (s.ren ρ) 0:=by
 rw [yE,dH,yE 0 (s.ren ρ),IF];congr 1;funext i
 cases i with
 | zero=>rw [ZF];exact (ZF _).symm
 | succ i=>rw [oH];exact (oH _ _).symm
theorem WV (t:Tm) (ρ:Nat->Nat):(t.ren ρ).red=t.red.map (Tm.ren ρ):=by
 cases t with
 | v i=>rfl
 | lam s b=>rfl
 | n0 k=>rfl
 | n1 k a=>cases k with
  | succ=>rfl
  | fst=>cases a with
   | n2 l x y=>cases l<;>rfl
   | _=>rfl
  | snd=>cases a with
   | n2 l x y=>cases l<;>rfl
   | _=>rfl
 | n2 k a b=>cases k with
  | app=>cases a with
   | lam s x =>
    show some _=some _;rw [nb]
   | _=>rfl
  | _=>rfl
 | n3 k s a b d=>cases k with
  | re=>cases d with
   | n0 l=>cases l<;>rfl
   | n1 l x=>cases l<;>rfl
   | _=>rfl
  | fo=>cases d with
   | n0 l=>cases l<;>rfl
   | n2 l x y=>cases l<;>rfl
   | _=>rfl
def SR.ren (ρ:Nat->Nat):SR->SR
 | .no => .no
 | .er => .er
 | .ok x => .ok (x.ren ρ)
theorem sL (ρ τ:Nat->Nat) (f f':Tm->Tm) (h:∀ x,f' (x.ren τ)=(f x).ren ρ) (r q:SR):SR.or f' (r.ren ρ) (q.ren τ)=(SR.or f r q).ren ρ:=by
 cases q with
 | no=>rfl
 | er=>rfl
 | ok x=>show SR.ok _=SR.ok _;rw [h]
theorem XV (z:Int) (t r:Tm) (ρ:Nat->Nat):rt z (t.ren ρ) (r.ren ρ)=(rt z t r).ren ρ:=by
 unfold rt;rw [lI,lI];cases uA z ((r.cnt:Int)-t.cnt)<;>rfl
theorem FJ (z:Int):∀ (t:Tm) (ρ:Nat->Nat),(t.ren ρ).st z=(t.st z).ren ρ
 | .v _,_=>rfl
 | .n0 _,_=>rfl
 | .lam s b,ρ=>by
  show SR.or (.lam s) .no ((b.ren (ZC ρ)).st z)=_;rw [FJ z b];exact sL ρ (ZC ρ) (.lam s) (.lam s) (λ x=>rfl) .no (b.st z)
 | .n1 k a,ρ=>by
  have h:=WV (.n1 k a) ρ
  cases e:(Tm.n1 k a).red with
  | some r =>
   rw [e] at h;rw [fD e,fD h,XV]
  | none =>
   rw [e] at h;have h:(Tm.n1 k (a.ren ρ)).red=none:=h;show (Tm.n1 k (a.ren ρ)).st z=_;simp only [Tm.st,e,h];rw [FJ z a];exact sL ρ ρ (.n1 k) (.n1 k) (λ x=>rfl) .no (a.st z)
 | .n2 k a b,ρ=>by
  have h:=WV (.n2 k a b) ρ
  cases e:(Tm.n2 k a b).red with
  | some r =>
   rw [e] at h;rw [fD e,fD h,XV]
  | none =>
   rw [e] at h;have h:(Tm.n2 k (a.ren ρ) (b.ren ρ)).red=none:=h;show (Tm.n2 k (a.ren ρ) (b.ren ρ)).st z=_;simp only [Tm.st,e,h];rw [FJ z a,FJ z b,show SR.or (.n2 k (a.ren ρ)) .no ((b.st z).ren ρ)=(SR.or (.n2 k a) .no (b.st z)).ren ρ from sL ρ ρ (.n2 k a) (.n2 k (a.ren ρ)) (λ x=>rfl) .no (b.st z)];exact sL ρ ρ (λ x => .n2 k x b) (λ x => .n2 k x (b.ren ρ)) (λ x=>rfl) _ (a.st z)
 | .n3 k s a b c,ρ=>by
  have h:=WV (.n3 k s a b c) ρ
  cases e:(Tm.n3 k s a b c).red with
  | some r =>
   rw [e] at h;rw [fD e,fD h,XV]
  | none =>
   rw [e] at h;have h:(Tm.n3 k s (a.ren ρ) (b.ren ρ) (c.ren ρ)).red=none:=h;show (Tm.n3 k s (a.ren ρ) (b.ren ρ) (c.ren ρ)).st z=_;simp only [Tm.st,e,h];rw [FJ z a,FJ z b,FJ z c,show SR.or (.n3 k s (a.ren ρ) (b.ren ρ)) .no ((c.st z).ren ρ)=(SR.or (.n3 k s a b) .no (c.st z)).ren ρ from sL ρ ρ (.n3 k s a b) (.n3 k s (a.ren ρ) (b.ren ρ)) (λ x=>rfl) .no (c.st z),
    show SR.or (λ x => .n3 k s (a.ren ρ) x (c.ren ρ)) ((SR.or (.n3 k s a b) .no (c.st z)).ren ρ) ((b.st z).ren ρ)=(SR.or (λ x => .n3 k s a x c) (SR.or (.n3 k s a b) .no (c.st z)) (b.st z)).ren ρ from sL ρ ρ (λ x => .n3 k s a x c) (λ x => .n3 k s (a.ren ρ) x (c.ren ρ)) (λ x=>rfl) _ (b.st z)]
   exact sL ρ ρ (λ x => .n3 k s x b c) (λ x => .n3 k s x (b.ren ρ) (c.ren ρ)) (λ x=>rfl) _ (a.st z)
def RNg (g g':List Ty) (ρ:Nat->Nat):Prop:=∀ i s,cB g i = .ok s->cB g' (ρ i) = .ok s
theorem oR (g:List Ty) (s:Ty):cB (g++[s]) 0 = .ok s:=by
 unfold cB;rw [if_pos (by simp)];simp
theorem SO (g:List Ty) (s:Ty) (i:Nat):cB (g++[s]) (i+1)=cB g i:=by
 unfold cB;by_cases h:i<g.length
 ·rw [if_pos (by simp;omega),if_pos h,List.length_append,List.length_singleton,show g.length+1-1-(i+1)=g.length-1-i by omega,List.getElem?_append_left (by omega)]
 ·rw [if_neg (by simp;omega),if_neg h]
theorem RNg.up {g g':List Ty} {ρ:Nat->Nat} (h:RNg g g' ρ) (u:Ty):RNg (g++[u]) (g'++[u]) (ZC ρ):=λ i s e=>by
 cases i with
 | zero=>rw [oR] at e;show cB _ 0=_;rw [oR];exact e
 | succ i=>rw [SO] at e;show cB _ (ρ i+1)=_;rw [SO];exact h i s e
theorem GJ:∀ (t:Tm) (g g':List Ty) (ρ:Nat->Nat) (s:Ty),RNg g g' ρ->t.tyR g = .ok s->(t.ren ρ).tyR g' = .ok s
 | .v i,g,g',ρ,s,h,e=>h i s e
 | .lam u b,g,g',ρ,s,h,e=>by
  simp only [Tm.tyR,Tm.ren] at e ⊢
  cases e1:b.tyR (g++[u]) with
  | er n=>rw [e1] at e;cases e
  | ok x=>rw [e1] at e;rw [GJ b _ _ _ x (h.up u) e1];exact e
 | .n0 k,_,_,_,_,_,e=>e
 | .n1 k a,g,g',ρ,s,h,e=>by
  simp only [Tm.tyR,Tm.ren] at e ⊢
  cases e1:a.tyR g with
  | er n=>rw [e1] at e;cases e
  | ok x=>rw [e1] at e;rw [GJ a _ _ _ x h e1];exact e
 | .n2 k a b,g,g',ρ,s,h,e=>by
  simp only [Tm.tyR,Tm.ren] at e ⊢
  cases e1:a.tyR g with
  | er n=>rw [e1] at e;cases e
  | ok x=>cases e2:b.tyR g with
   | er n=>rw [e1,e2] at e;cases e
   | ok y=>rw [e1,e2] at e;rw [GJ a _ _ _ x h e1,GJ b _ _ _ y h e2];exact e
 | .n3 k u a b c,g,g',ρ,s,h,e=>by
  simp only [Tm.tyR,Tm.ren] at e ⊢
  cases e1:a.tyR g with
  | er n=>rw [e1] at e;cases e
  | ok x=>cases e2:b.tyR g with
   | er n=>rw [e1,e2] at e;cases e
   | ok y=>cases e3:c.tyR g with
    | er n=>rw [e1,e2,e3] at e;cases e
    | ok w=>rw [e1,e2,e3] at e;rw [GJ a _ _ _ x h e1,GJ b _ _ _ y h e2,GJ c _ _ _ w h e3];exact e
open Go.Lg
def Fm.ren:(Nat->Nat)->Fm->Fm
 | ρ,.eq a b => .eq (a.ren ρ) (b.ren ρ)
 | ρ,.bin k f g => .bin k (f.ren ρ) (g.ren ρ)
 | ρ,.q k s f => .q k s (f.ren (ZC ρ))
def Fm.sub:(Nat->Tm)->Fm->Fm
 | σ,.eq a b => .eq (a.sub σ) (b.sub σ)
 | σ,.bin k f g => .bin k (f.sub σ) (g.sub σ)
 | σ,.q k s f => .q k s (f.sub (mA σ))
def TD (c k i:Nat):Nat:=if c<=i then i+k else i
theorem Fk (ρ:Nat->Nat) (σ:Nat->Tm):(λ i=>mA σ (ZC ρ i))=mA λ i=>σ (ρ i):=by
 funext i;cases i<;>rfl
theorem Gk (σ:Nat->Tm) (ρ:Nat->Nat):(λ i=>(mA σ i).ren (ZC ρ))=mA λ i=>(σ i).ren ρ:=by
 funext i
 cases i with
 | zero=>rfl
 | succ i=>simp only [mA,HF,LD];rfl
theorem Hk (c k:Nat):ZC (TD c k)=TD (c+1) k:=by
 funext i
 cases i with
 | zero=>rfl
 | succ i=>simp only [ZC,TD];split<;>split<;>omega
theorem xR:∀ (f:Fm) (ρ:Nat->Nat) (σ:Nat->Tm),(f.ren ρ).sub σ=f.sub λ i=>σ (ρ i)
 | .eq a b,ρ,σ=>by simp only [Fm.ren,Fm.sub,IF]
 | .bin k f g,ρ,σ=>by simp only [Fm.ren,Fm.sub];rw [xR f,xR g]
 | .q k s f,ρ,σ=>by simp only [Fm.ren,Fm.sub];rw [xR f,Fk]
theorem AR:∀ (f:Fm) (σ:Nat->Tm) (ρ:Nat->Nat),(f.sub σ).ren ρ=f.sub λ i=>(σ i).ren ρ
 | .eq a b,σ,ρ=>by simp only [Fm.ren,Fm.sub,dH]
 | .bin k f g,σ,ρ=>by simp only [Fm.ren,Fm.sub];rw [AR f,AR g]
 | .q k s f,σ,ρ=>by simp only [Fm.ren,Fm.sub];rw [AR f,Gk]
theorem TO:∀ (f:Fm) (σ τ:Nat->Tm),(∀ i,f.occ i≠0->σ i=τ i)->f.sub σ=f.sub τ
 | .eq a b,σ,τ,h=>by
  simp only [Fm.sub];rw [vE a σ τ λ i hi=>h i (by simp only [Fm.occ];omega),vE b σ τ λ i hi=>h i (by simp only [Fm.occ];omega)]
 | .bin k f g,σ,τ,h=>by
  simp only [Fm.sub];rw [TO f σ τ λ i hi=>h i (by simp only [Fm.occ];omega),TO g σ τ λ i hi=>h i (by simp only [Fm.occ];omega)]
 | .q k s f,σ,τ,h=>by
  simp only [Fm.sub];rw [TO f (mA σ) (mA τ) λ i hi=>by
   cases i with
   | zero=>rfl
   | succ i=>simp only [mA];rw [h i hi]]
theorem tL (k:Nat):∀ (f:Fm) (c:Nat),f.sh c (.ofNat k)=f.ren (TD c k)
 | .eq a b,c=>by
  simp only [Fm.sh,Fm.ren];rw [BG k a,BG k b];rfl
 | .bin l f g,c=>by simp only [Fm.sh,Fm.ren];rw [tL k f,tL k g]
 | .q l s f,c=>by simp only [Fm.sh,Fm.ren];rw [tL k f,Hk]
theorem pb (c:Nat) (S:Tm) (d:Nat):mA (λ i=>(Tm.v i).put c S d)=λ i=>(Tm.v i).put c S (d+1):=by
 funext i;symm
 cases i with
 | zero =>
  simp only [Tm.put,mA];rw [if_neg (by omega),if_neg (by omega)]
 | succ i =>
  simp only [Tm.put,mA];by_cases e:i=c+d
  ·rw [if_pos (by omega),if_pos e,SP];rfl
  ·rw [if_neg (by omega),if_neg e];by_cases e':c+d<i
   ·rw [if_pos (by omega),if_pos e'];simp only [Tm.sh,Nat.zero_le,if_true];congr 1;show i=(Int.ofNat (i-1)+Int.ofNat 1).toNat;simp;omega
   ·rw [if_neg (by omega),if_neg e'];simp [Tm.sh]
theorem qG (c:Nat) (S:Tm):∀ (f:Fm) (d:Nat),f.put c S d=f.sub λ i=>(Tm.v i).put c S d
 | .eq a b,d=>by simp only [Fm.put,Fm.sub];rw [yE c S a,yE c S b]
 | .bin l f g,d=>by simp only [Fm.put,Fm.sub];rw [qG c S f,qG c S g]
 | .q l s f,d=>by simp only [Fm.put,Fm.sub];rw [qG c S f,pb]
end Go.Proofs.YtnkoaepelgbhfaaGreatDoor
namespace Go.Proofs.YtnkoaepelgbhfaaGreatDoor
open Go.Lg
set_option maxRecDepth 100000
theorem sb {n v:Nat} (h:v<n):(Tm.v v).ps (wC n 0).vs n 0 = .v v:=by
 have e:ent (wC n 0).vs v=some (.v v,n):=by
  unfold ent;show (if v<(qD (n+0) 0 n).length then (qD (n+0) 0 n)[(qD (n+0) 0 n).length-1-v]? else none)=_;rw [AN,if_pos h,Ge _ _ _ _ (by omega)];simp only [Nat.add_zero,Nat.zero_add];rw [show n-1-(n-1-v)=v by omega]
 rw [xN e];show (Tm.v v).sh 0 (.ofNat (n-n)) = .v v;rw [Nat.sub_self,ZE]
theorem Ik (g:List Ty) (s:Ty):RNg g (g++[s]) (· + 1):=λ i u e=>by rw [SO];exact e
end Go.Proofs.YtnkoaepelgbhfaaGreatDoor
namespace Go.Proofs.YtnkoaepelgbhfaaGreatDoor
open Go.Lg
set_option maxRecDepth 100000
theorem UD {ls:List Fm} : ∀ (j:Jt) (n:Nat) (hs:List Fm),j.OK ls n hs->j.p.mx<=n+4096+2 * j.p.cnt
 | .leaf u i f,n,hs,_=>Nat.zero_le _
 | .refl t,n,hs,⟨h,_⟩=>by
  have:=xE t n h.sc;have:=h.cnt;simp only [Jt.p,Pf.mx,Pf.cnt];omega
 | .p1 k a f,n,hs,⟨_,h,_⟩=>by
  have:=UD a n hs h;simp only [Jt.p,Pf.mx,Pf.cnt];omega
 | .p2 k a b f,n,hs,⟨_,h,h'⟩=>by
  have h1:=UD a n hs h;have h2:b.p.mx<=n+1+4096+2 * b.p.cnt:=by
   cases k
   ·have:=UD b n hs h'.1;omega
   ·have:=UD b n hs h'.1;omega
   ·exact UD b (n+1) _ h'.1
   ·exact UD b (n+1) _ h'.1
  simp only [Jt.p,Pf.mx,Pf.cnt];omega
 | .impI x a,n,hs,⟨h,_,h'⟩=>by
  have:=UD a n _ h';have:=OH x n h.sc;have:=h.cnt;simp only [Jt.p,Pf.mx,Pf.cnt];omega
 | .all u s a,n,hs,⟨_,_,h'⟩=>by
  have:=UD a (n+1) _ h';simp only [Jt.p,Pf.mx,Pf.cnt];omega
 | .ins u t a f,n,hs,⟨_,h,h',_⟩=>by
  have:=UD a n _ h';have:=xE t n h.sc;have:=h.cnt;simp only [Jt.p,Pf.mx,Pf.cnt];omega
 | .ex u x t a,n,hs,⟨h0,h,h',_⟩=>by
  have:=UD a n _ h';have:=xE t n h.sc;have:=h.cnt;have:=OH x n h0.sc;have:=h0.cnt;simp only [Jt.p,Pf.mx,Pf.cnt];omega
 | .ind l x t a b f,n,hs,⟨_,h0,h,h',_,_,h3⟩=>by
  have:=UD a n _ h';have:=xE t n h.sc;have:=h.cnt;have:=OH x (n+1) h0.sc;have:=h0.cnt;have h2:b.p.mx<=n+2+4096+2 * b.p.cnt:=by
   cases l
   ·have:=UD b (n+1) _ h3;omega
   ·exact UD b (n+2) _ h3
  simp only [Jt.p,Pf.mx,Pf.cnt];omega
 | .subst x a b f,n,hs,⟨_,h0,h,h',_⟩=>by
  have:=UD a n _ h;have:=UD b n _ h';have:=OH x (n+1) h0.sc;have:=h0.cnt;simp only [Jt.p,Pf.mx,Pf.cnt];omega
theorem BR {t:Tm} (h:t.chk=0):t.tsz<=qA->A 85 [t.p] (.bool true):=λ k=>by
 have hm:=zA;have hb:=kA;have q:=aE t (by omega);rwa [(Tm.chk0 h).2] at q
theorem DR {t:Fm} (h:t.chk=0):t.tsz<=qA->A 122 [t.p] (.bool true):=λ k=>by
 have q:=tI t k;rwa [(Fm.chk0 h).2] at q
theorem Jk {s:Ty} (h:s.size<=64):A 120 [s.p] (num 0):=by
 have hb:=kA;have q:=PJ s (by omega);have e:s.chk=0:=by
  rcases rG s with e|e
  ·exact e
  ·exfalso;unfold Ty.chk at e;rw [JA h] at e;cases e
 rwa [e] at q
theorem zG:∀ p:Pf,p.ck->p.tsz<=qA->A 84 [p.p] (.bool true)
 | .leaf u i,_,_=>by cases u<;>exact f1 [(73,.T)] WA
 | .refl t,h,k=>f2 [(73,.T),(85,.T)] WA (BR h k)
 | .p1 q a,h,k=>by cases q<;>exact f2 [(73,.T),(107,.T)] WA (zG a h k)
 | .p2 q a b,h,k=>by
  have k:max a.tsz b.tsz<=qA:=k;cases q<;>exact f3 [(73,.T),(107,.T),(107,.T)] WA (zG a h.1 (by omega)) (zG b h.2 (by omega))
 | .impI f a,h,k=>by
  have k:max f.tsz a.tsz<=qA:=k;exact f3 [(73,.T),(96,.T),(107,.T)] WA (DR h.1 (by omega)) (zG a h.2 (by omega))
 | .all u s a,h,k=>by
  have k:max a.tsz s.size<=qA:=k;cases u<;>exact f2 [(63,.N 0),(107,.T)] (Jk h.1) (zG a h.2 (by omega))
 | .ins u t a,h,k=>by
  have k:max t.tsz a.tsz<=qA:=k;cases u<;>exact f3 [(73,.T),(85,.T),(107,.T)] WA (BR h.1 (by omega)) (zG a h.2 (by omega))
 | .ex u f t a,h,k=>by
  have k:max (max t.tsz f.tsz) a.tsz<=qA:=k;cases u<;>exact f4 [(73,.T),(85,.T),(96,.T),(107,.T)] WA (BR h.1 (by omega)) (DR h.2.1 (by omega)) (zG a h.2.2 (by omega))
 | .ind l f t a b,h,k=>by
  have k:max (max (max t.tsz f.tsz) a.tsz) b.tsz<=qA:=k;cases l<;>exact f5 [(73,.T),(85,.T),(96,.T),(107,.T),(107,.T)] WA (BR h.1 (by omega)) (DR h.2.1 (by omega)) (zG a h.2.2.1 (by omega)) (zG b h.2.2.2 (by omega))
 | .subst f a b,h,k=>by
  have k:max (max f.tsz a.tsz) b.tsz<=qA:=k;exact f4 [(73,.T),(96,.T),(107,.T),(107,.T)] WA (DR h.1 (by omega)) (zG a h.2.1 (by omega)) (zG b h.2.2 (by omega))
theorem HJ {t:Tm} (h:t.chk=0):A 41 [t.p] (num t.cnt)/\uA (.ofNat 4096) (.ofNat t.cnt)=false:=by
 have hb:=kA;have k:=(Tm.chk0 h).1;exact⟨qB t (by omega),JA k⟩
theorem IJ {t:Fm} (h:t.chk=0):A 87 [t.p] (num t.cnt)/\uA (.ofNat 4096) (.ofNat t.cnt)=false:=by
 have hb:=kA;have k:=(Fm.chk0 h).1;exact⟨eD t (by omega),JA k⟩
theorem jG:∀ p:Pf,p.ck->A 91 [p.p] (.bool true)
 | .leaf u i,_=>f0 []
 | .refl t,h=>f2 [(17,.N t.cnt),(18,.H)] (HJ h).1 (HJ h).2
 | .p1 q a,h=>f1 [(39,.T)] (jG a h)
 | .p2 q a b,h=>f2 [(39,.T),(39,.T)] (jG a h.1) (jG b h.2)
 | .impI f a,h=>f3 [(28,.N f.cnt),(29,.H),(39,.T)] (IJ h.1).1 (IJ h.1).2 (jG a h.2)
 | .all u s a,h=>f1 [(39,.T)] (jG a h.2)
 | .ins u t a,h=>f3 [(17,.N t.cnt),(18,.H),(39,.T)] (HJ h.1).1 (HJ h.1).2 (jG a h.2)
 | .ex u f t a,h=>f5 [(17,.N t.cnt),(18,.H),(28,.N f.cnt),(29,.H),(39,.T)] (HJ h.1).1 (HJ h.1).2 (IJ h.2.1).1 (IJ h.2.1).2 (jG a h.2.2)
 | .ind l f t a b,h=>f6 [(17,.N t.cnt),(18,.H),(28,.N f.cnt),(29,.H),(39,.T),(39,.T)] (HJ h.1).1 (HJ h.1).2 (IJ h.2.1).1 (IJ h.2.1).2 (jG a h.2.2.1) (jG b h.2.2.2)
 | .subst f a b,h=>f4 [(28,.N f.cnt),(29,.H),(39,.T),(39,.T)] (IJ h.1).1 (IJ h.1).2 (jG a h.2.1) (jG b h.2.2)
theorem Kk (p:Pf) (h:p.cnt<=16384) (h':p.tsz<=qA) (hc:p.ck):A 35 [p.p] (num 0):=by
 have hb:=kA;have e:(!uA (.ofNat 16384) (.ofNat p.cnt))=true:=by rw [JA h];rfl
 have g:A 43 [p.p] (.bool true):=f3 [(4,.T),(7,.N p.cnt),(8,.G)] (jG p hc) (YD p (by omega)) e;exact f2 [(4,.T),(7,.T)] (zG p hc h') g
abbrev NC:Nat:=536870912
theorem VD:∀ t:Tm,t.mx<=NC->A 38 [t.p,num NC] (.bool true)
 | .v i,h=>f1 [(10,.H)] (JA (a:=NC) (b:=i) h)
 | .lam s b,h=>f1 [(20,.T)] (VD b h)
 | .n0 k,_=>f0 []
 | .n1 k a,h=>f1 [(20,.T)] (VD a h)
 | .n2 k a b,h=>by
  have h:max a.mx b.mx<=NC:=h;exact f2 [(20,.T),(20,.T)] (VD a (by omega)) (VD b (by omega))
 | .n3 k s a b c,h=>by
  have h:max a.mx (max b.mx c.mx)<=NC:=h;exact f3 [(20,.T),(20,.T),(20,.T)] (VD a (by omega)) (VD b (by omega)) (VD c (by omega))
theorem aL:∀ f:Fm,f.mx<=NC->A 86 [f.p,num NC] (.bool true)
 | .eq a b,h=>by
  have h:max a.mx b.mx<=NC:=h;exact f2 [(18,.T),(18,.T)] (VD a (by omega)) (VD b (by omega))
 | .bin k f g,h=>by
  have h:max f.mx g.mx<=NC:=h;exact f2 [(30,.T),(30,.T)] (aL f (by omega)) (aL g (by omega))
 | .q k s f,h=>f1 [(30,.T)] (aL f h)
theorem vG:∀ p:Pf,p.mx<=NC->A 37 [p.p,num NC] (.bool true)
 | .leaf u i,_=>f0 []
 | .refl t,h=>f1 [(20,.T)] (VD t h)
 | .p1 q a,h=>f1 [(44,.T)] (vG a h)
 | .p2 q a b,h=>by
  have h:max a.mx b.mx<=NC:=h;exact f2 [(44,.T),(44,.T)] (vG a (by omega)) (vG b (by omega))
 | .impI f a,h=>by
  have h:max f.mx a.mx<=NC:=h;exact f2 [(32,.T),(44,.T)] (aL f (by omega)) (vG a (by omega))
 | .all u s a,h=>f1 [(44,.T)] (vG a h)
 | .ins u t a,h=>by
  have h:max t.mx a.mx<=NC:=h;exact f2 [(20,.T),(44,.T)] (VD t (by omega)) (vG a (by omega))
 | .ex u f t a,h=>by
  have h:max (max t.mx f.mx) a.mx<=NC:=h;exact f3 [(20,.T),(32,.T),(44,.T)] (VD t (by omega)) (aL f (by omega)) (vG a (by omega))
 | .ind l f t a b,h=>by
  have h:max (max (max t.mx f.mx) a.mx) b.mx<=NC:=h;exact f4 [(20,.T),(32,.T),(44,.T),(44,.T)] (VD t (by omega)) (aL f (by omega)) (vG a (by omega)) (vG b (by omega))
 | .subst f a b,h=>by
  have h:max (max f.mx a.mx) b.mx<=NC:=h;exact f3 [(32,.T),(44,.T),(44,.T)] (aL f (by omega)) (vG a (by omega)) (vG b (by omega))
open Go.Lg
inductive Par:Tm->Tm->Prop
 | v (i:Nat):Par (.v i) (.v i)
 | n0 (k:K0):Par (.n0 k) (.n0 k)
 | lam (s:Ty) {b b':Tm} : Par b b'->Par (.lam s b) (.lam s b')
 | n1 (k:K1) {a a':Tm} : Par a a'->Par (.n1 k a) (.n1 k a')
 | n2 (k:K2) {a a' b b':Tm} : Par a a'->Par b b'->Par (.n2 k a b) (.n2 k a' b')
 | n3 (k:K3) (s:Ty) {a a' b b' c c':Tm} : Par a a'->Par b b'->Par c c'->Par (.n3 k s a b c) (.n3 k s a' b' c')
 | fst (b:Tm) {a a':Tm} : Par a a'->Par (.n1 .fst (.n2 .pair a b)) a'
 | snd (a:Tm) {b b':Tm} : Par b b'->Par (.n1 .snd (.n2 .pair a b)) b'
 | beta (s:Ty) {b b' a a':Tm} : Par b b'->Par a a'->Par (.n2 .app (.lam s b) a) (b'.put 0 a' 0)
 | re0 (s:Ty) (f:Tm) {b b':Tm} : Par b b'->Par (.n3 .re s b f (.n0 .zero)) b'
 | reS (s:Ty) {b b' f f' n n':Tm} : Par b b'->Par f f'->Par n n'->Par (.n3 .re s b f (.n1 .succ n)) (.n2 .app (.n2 .app f' n') (.n3 .re s b' f' n'))
 | fo0 (s:Ty) (f:Tm) {b b':Tm} : Par b b'->Par (.n3 .fo s b f (.n0 .nil)) b'
 | foC (s:Ty) {b b' f f' h h' l l':Tm} : Par b b'->Par f f'->Par h h'->Par l l'->Par (.n3 .fo s b f (.n2 .cons h l)) (.n2 .app (.n2 .app (.n2 .app f' h') l') (.n3 .fo s b' f' l'))
theorem Par.refl:∀ t:Tm,Par t t
 | .v i => .v i
 | .n0 k => .n0 k
 | .lam s b => .lam s (refl b)
 | .n1 k a => .n1 k (refl a)
 | .n2 k a b => .n2 k (refl a) (refl b)
 | .n3 k s a b c => .n3 k s (refl a) (refl b) (refl c)
theorem Par.ren {t u:Tm} (h:Par t u):∀ ρ:Nat->Nat,Par (t.ren ρ) (u.ren ρ):=by
 induction h with
 | v i=>exact λ ρ => .v _
 | n0 k=>exact λ ρ => .n0 k
 | lam s _ ih=>exact λ ρ => .lam s (ih _)
 | n1 k _ ih=>exact λ ρ => .n1 k (ih ρ)
 | n2 k _ _ i1 i2=>exact λ ρ => .n2 k (i1 ρ) (i2 ρ)
 | n3 k s _ _ _ i1 i2 i3=>exact λ ρ => .n3 k s (i1 ρ) (i2 ρ) (i3 ρ)
 | fst b _ ih=>exact λ ρ => .fst _ (ih ρ)
 | snd a _ ih=>exact λ ρ => .snd _ (ih ρ)
 | beta s _ _ i1 i2=>intro ρ;rw [nb];exact .beta s (i1 _) (i2 ρ)
 | re0 s f _ ih=>exact λ ρ => .re0 s _ (ih ρ)
 | reS s _ _ _ i1 i2 i3=>exact λ ρ => .reS s (i1 ρ) (i2 ρ) (i3 ρ)
 | fo0 s f _ ih=>exact λ ρ => .fo0 s _ (ih ρ)
 | foC s _ _ _ _ i1 i2 i3 i4=>exact λ ρ => .foC s (i1 ρ) (i2 ρ) (i3 ρ) (i4 ρ)
theorem Lk (t s:Tm) (σ:Nat->Tm):(t.put 0 s 0).sub σ=(t.sub (mA σ)).put 0 (s.sub σ) 0:=by
 rw [yE,CG,yE 0 (s.sub σ),CG];congr 1;funext i
 cases i with
 | zero=>rw [ZF];exact (ZF _).symm
 | succ i =>
  rw [oH];show σ i=((σ i).sh 0 (.ofNat 1)).sub _;rw [HF,IF];exact ((vE _ _ Tm.v λ i _=>oH _ i).trans (kE _)).symm
theorem Par.up {σ τ:Nat->Tm} (h:∀ i,Par (σ i) (τ i)):∀ i,Par (mA σ i) (mA τ i)
 | 0 => .v 0
 | i+1=>by
  show Par ((σ i).sh 0 (.ofNat 1)) ((τ i).sh 0 (.ofNat 1));rw [HF,HF];exact (h i).ren _
theorem Par.sub {t u:Tm} (h:Par t u):∀ {σ τ:Nat->Tm},(∀ i,Par (σ i) (τ i))->Par (t.sub σ) (u.sub τ):=by
 induction h with
 | v i=>exact λ k=>k i
 | n0 k=>exact λ _ => .n0 k
 | lam s _ ih=>exact λ k => .lam s (ih (Par.up k))
 | n1 k _ ih=>exact λ h => .n1 k (ih h)
 | n2 k _ _ i1 i2=>exact λ h => .n2 k (i1 h) (i2 h)
 | n3 k s _ _ _ i1 i2 i3=>exact λ h => .n3 k s (i1 h) (i2 h) (i3 h)
 | fst b _ ih=>exact λ h => .fst _ (ih h)
 | snd a _ ih=>exact λ h => .snd _ (ih h)
 | beta s _ _ i1 i2=>intro σ τ h;rw [Lk];exact .beta s (i1 (Par.up h)) (i2 h)
 | re0 s f _ ih=>exact λ h => .re0 s _ (ih h)
 | reS s _ _ _ i1 i2 i3=>exact λ h => .reS s (i1 h) (i2 h) (i3 h)
 | fo0 s f _ ih=>exact λ h => .fo0 s _ (ih h)
 | foC s _ _ _ _ i1 i2 i3 i4=>exact λ h => .foC s (i1 h) (i2 h) (i3 h) (i4 h)
theorem Par.put {t u a b:Tm} (h:Par t u) (k:Par a b):Par (t.put 0 a 0) (u.put 0 b 0):=by
 rw [yE,yE 0 b];refine h.sub λ i => ?_
 cases i with
 | zero=>rw [ZF,ZF];exact k
 | succ i=>rw [oH,oH];exact .v i
def Tm.cd:Tm->Tm
 | .v i => .v i
 | .n0 k => .n0 k
 | .lam s b => .lam s b.cd
 | .n1 k a=>if (Tm.n1 k a).red.isSome then (Tm.n1 k a.cd).red.getD (.v 0) else .n1 k a.cd
 | .n2 k a b=>if (Tm.n2 k a b).red.isSome then (Tm.n2 k a.cd b.cd).red.getD (.v 0) else .n2 k a.cd b.cd
 | .n3 k s a b c=>if (Tm.n3 k s a b c).red.isSome then (Tm.n3 k s a.cd b.cd c.cd).red.getD (.v 0) else .n3 k s a.cd b.cd c.cd
theorem Par.cd {t u:Tm} (h:Par t u):Par u t.cd:=by
 induction h with
 | v i=>exact .v i
 | n0 k=>exact .n0 k
 | lam s _ ih=>exact .lam s ih
 | n1 k h ih=>cases k with
  | succ=>exact .n1 _ ih
  | fst=>rename_i a a';cases a with
   | n2 q x y=>cases q with
    | pair=>cases h with
     | n2 _ hx hy=>cases ih with
      | n2 _ kx ky=>exact .fst _ kx
    | _=>exact .n1 _ ih
   | _=>exact .n1 _ ih
  | snd=>rename_i a a';cases a with
   | n2 q x y=>cases q with
    | pair=>cases h with
     | n2 _ hx hy=>cases ih with
      | n2 _ kx ky=>exact .snd _ ky
    | _=>exact .n1 _ ih
   | _=>exact .n1 _ ih
 | n2 k h h' ih ih'=>cases k with
  | app=>rename_i a a' b b';cases a with
   | lam s x=>cases h with
    | lam _ hx=>cases ih with
     | lam _ kx=>exact .beta _ kx ih'
   | _=>exact .n2 _ ih ih'
  | _=>exact .n2 _ ih ih'
 | n3 k s h1 h2 h3 i1 i2 i3=>cases k with
  | re=>rename_i a a' b b' c c';cases c with
   | n0 q=>cases q with
    | zero=>cases h3;exact .re0 _ _ i1
    | _=>exact .n3 _ _ i1 i2 i3
   | n1 q x=>cases q with
    | succ=>cases h3 with
     | n1 _ hx=>cases i3 with
      | n1 _ kx=>exact .reS _ i1 i2 kx
    | _=>exact .n3 _ _ i1 i2 i3
   | _=>exact .n3 _ _ i1 i2 i3
  | fo=>rename_i a a' b b' c c';cases c with
   | n0 q=>cases q with
    | nil=>cases h3;exact .fo0 _ _ i1
    | _=>exact .n3 _ _ i1 i2 i3
   | n2 q x y=>cases q with
    | cons=>cases h3 with
     | n2 _ hx hy=>cases i3 with
      | n2 _ kx ky=>exact .foC _ i1 i2 kx ky
    | _=>exact .n3 _ _ i1 i2 i3
   | _=>exact .n3 _ _ i1 i2 i3
 | fst b _ ih=>exact ih
 | snd a _ ih=>exact ih
 | beta s _ _ i1 i2=>exact i1.put i2
 | re0 s f _ ih=>exact ih
 | reS s _ _ _ i1 i2 i3=>exact .n2 _ (.n2 _ i2 i3) (.n3 _ _ i1 i2 i3)
 | fo0 s f _ ih=>exact ih
 | foC s _ _ _ _ i1 i2 i3 i4=>exact .n2 _ (.n2 _ (.n2 _ i2 i3) i4) (.n3 _ _ i1 i2 i4)
inductive Ps:Tm->Tm->Prop
 | refl (t:Tm):Ps t t
 | step {a b c:Tm} : Par a b->Ps b c->Ps a c
theorem Ps.trans {a b c:Tm} (h:Ps a b) (k:Ps b c):Ps a c:=by
 induction h with
 | refl=>exact k
 | step p _ ih=>exact .step p (ih k)
theorem Ps.strip {a c:Tm} (h:Ps a c):∀ {b:Tm},Par a b->∃ d,Ps b d/\Par c d:=by
 induction h with
 | refl=>exact λ p=>⟨_,.refl _,p⟩
 | step p _ ih =>
  intro b q;obtain⟨d,h1,h2⟩:=ih p.cd;exact⟨d,.step q.cd h1,h2⟩
theorem Ps.conf {a b:Tm} (h:Ps a b):∀ {c:Tm},Ps a c->∃ d,Ps b d/\Ps c d:=by
 induction h with
 | refl=>exact λ k=>⟨_,k,.refl _⟩
 | step p _ ih =>
  intro c k;obtain⟨d,h1,h2⟩:=k.strip p;obtain⟨e,h3,h4⟩:=ih h1;exact⟨e,h3,.step h2 h4⟩
theorem Ps.sub {a b:Tm} (h:Ps a b) (σ:Nat->Tm):Ps (a.sub σ) (b.sub σ):=by
 induction h with
 | refl=>exact .refl _
 | step p _ ih=>exact .step (p.sub λ i => .refl _) ih
def Cv (a b:Tm):Prop:=∃ w,Ps a w/\Ps b w
theorem Cv.refl (a:Tm):Cv a a:=⟨a,.refl a,.refl a⟩
theorem Cv.symm {a b:Tm} : Cv a b->Cv b a:=λ ⟨w,h,k⟩=>⟨w,k,h⟩
theorem Cv.trans {a b c:Tm} : Cv a b->Cv b c->Cv a c:=λ ⟨w,h,k⟩ ⟨x,l,m⟩=>by
 obtain⟨d,h1,h2⟩:=k.conf l;exact⟨d,h.trans h1,m.trans h2⟩
theorem Cv.sub {a b:Tm} (σ:Nat->Tm):Cv a b->Cv (a.sub σ) (b.sub σ):=λ ⟨w,h,k⟩=>⟨w.sub σ,h.sub σ,k.sub σ⟩
theorem YV {t r:Tm} : t.red=some r->Par t r :=
 RJ (P:=Par) (λ a b => .fst b (.refl a)) (λ a b => .snd a (.refl b)) (λ s b a => .beta s (.refl b) (.refl a)) (λ s b f => .re0 s f (.refl b)) (λ s b f n => .reS s (.refl b) (.refl f) (.refl n)) (λ s b f => .fo0 s f (.refl b)) (λ s b f h l => .foC s (.refl b) (.refl f) (.refl h) (.refl l))
theorem ZV {z:Int} {t r x:Tm} (h:rt z t r = .ok x):x=r:=by
 unfold rt at h;cases e:uA z ((r.cnt:Int)-t.cnt)<;>rw [e] at h<;>cases h;rfl
theorem Mk {z:Int} {t r:Tm} (h:rt z t r = .no):False:=by
 unfold rt at h;cases e:uA z ((r.cnt:Int)-t.cnt)<;>rw [e] at h<;>cases h
theorem JJ (z:Int):∀ (t:Tm) {x:Tm},t.st z = .ok x->Par t x
 | .v _,_,h=>nomatch h
 | .n0 _,_,h=>nomatch h
 | .lam s b,x,h=>by
  rcases OC h with ⟨y,e,rfl⟩|⟨_,e⟩
  ·exact .lam s (JJ z b e)
  ·cases e
 | .n1 k a,x,h=>by
  cases e:(Tm.n1 k a).red with
  | some r=>rw [fD e] at h;rw [ZV h];exact YV e
  | none =>
   simp only [Tm.st,e] at h;rcases OC h with ⟨y,e,rfl⟩|⟨_,e⟩
   ·exact .n1 k (JJ z a e)
   ·cases e
 | .n2 k a b,x,h=>by
  cases e:(Tm.n2 k a b).red with
  | some r=>rw [fD e] at h;rw [ZV h];exact YV e
  | none =>
   simp only [Tm.st,e] at h;rcases OC h with ⟨y,e,rfl⟩|⟨_,h⟩
   ·exact .n2 k (JJ z a e) (.refl b)
   rcases OC h with ⟨y,e,rfl⟩|⟨_,e⟩
   ·exact .n2 k (.refl a) (JJ z b e)
   ·cases e
 | .n3 k s a b c,x,h=>by
  cases e:(Tm.n3 k s a b c).red with
  | some r=>rw [fD e] at h;rw [ZV h];exact YV e
  | none =>
   simp only [Tm.st,e] at h;rcases OC h with ⟨y,e,rfl⟩|⟨_,h⟩
   ·exact .n3 k s (JJ z a e) (.refl b) (.refl c)
   rcases OC h with ⟨y,e,rfl⟩|⟨_,h⟩
   ·exact .n3 k s (.refl a) (JJ z b e) (.refl c)
   rcases OC h with ⟨y,e,rfl⟩|⟨_,e⟩
   ·exact .n3 k s (.refl a) (.refl b) (JJ z c e)
   ·cases e
theorem ER {z:Int} {t r:Tm} (h:t.st z = .no) (e:t.red=some r):False:=by
 rw [fD e] at h;exact Mk h
theorem Nk {t u:Tm} (h:Par t u):∀ {z:Int},t.st z = .no->u=t:=by
 induction h with
 | v i=>exact λ _=>rfl
 | n0 k=>exact λ _=>rfl
 | lam s _ ih=>exact λ h=>by rw [ih (or_nn.1 h).1]
 | n1 k _ ih =>
  intro z h;rename_i a a' _
  cases e:(Tm.n1 k a).red with
  | some r=>exact (ER h e).elim
  | none =>
   simp only [Tm.st,e] at h;rw [ih (or_nn.1 h).1]
 | n2 k _ _ i1 i2 =>
  intro z h;rename_i a a' b b' _ _
  cases e:(Tm.n2 k a b).red with
  | some r=>exact (ER h e).elim
  | none =>
   simp only [Tm.st,e] at h;rw [i1 (or_nn.1 h).1,i2 (or_nn.1 (or_nn.1 h).2).1]
 | n3 k s _ _ _ i1 i2 i3 =>
  intro z h;rename_i a a' b b' c c' _ _ _
  cases e:(Tm.n3 k s a b c).red with
  | some r=>exact (ER h e).elim
  | none =>
   simp only [Tm.st,e] at h;rw [i1 (or_nn.1 h).1,i2 (or_nn.1 (or_nn.1 h).2).1,i3 (or_nn.1 (or_nn.1 (or_nn.1 h).2).2).1]
 | _=>exact λ h=>(ER h rfl).elim
theorem GR {t u:Tm} (h:Ps t u):∀ {z:Int},t.st z = .no->u=t:=by
 induction h with
 | refl=>exact λ _=>rfl
 | step p _ ih =>
  intro z h;obtain rfl:=Nk p h;exact ih h
theorem VO:∀ (r n:Nat) (t:Tm) {x:Tm} {k:Nat},PC r n t = .ok x k->Ps t x /\ ∃ z,x.st z = .no:=by
 intro r
 induction r with
 | zero =>
  intro n t x k h;simp only [PC] at h;split at h
  ·rename_i e;cases h;exact⟨.refl _,_,e⟩
  ·cases h
 | succ r ih =>
  intro n t x k h;simp only [PC] at h;split at h
  ·rename_i e;cases h;exact⟨.refl _,_,e⟩
  ·cases h
  ·rename_i y e;obtain⟨h1,h2⟩:=ih _ _ h;exact⟨.step (JJ _ _ e) h1,h2⟩
theorem Ok {t x:Tm} {k:Nat} (h:ID t = .ok x k):Ps t x:=(VO _ _ _ h).1
theorem KM {t x:Tm} {k:Nat} (h:ID t = .ok x k):Cv t x:=⟨x,Ok h,.refl x⟩
theorem Pk {a b x y:Tm} {k l:Nat} (h:Cv a b) (h1:ID a = .ok x k) (h2:ID b = .ok y l):x=y:=by
 obtain⟨w,e1,e2⟩:=((KM h1).symm.trans h).trans (KM h2);obtain⟨z,k1⟩:=(VO _ _ _ h1).2;obtain⟨z',k2⟩:=(VO _ _ _ h2).2;exact (GR e1 k1).symm.trans (GR e2 k2)
theorem ab {a b:Tm} (h:a.mt b):Cv a b:=by
 rcases h with rfl|⟨x,k,l,h1,h2⟩
 ·exact .refl _
 ·exact (KM h1).trans (KM h2).symm
inductive FCv:Fm->Fm->Prop
 | eq {a b c d:Tm} : Cv a c->Cv b d->FCv (.eq a b) (.eq c d)
 | bin (k:FB) {f g f' g':Fm} : FCv f f'->FCv g g'->FCv (.bin k f g) (.bin k f' g')
 | q (k:FQ) (s:Ty) {f g:Fm} : FCv f g->FCv (.q k s f) (.q k s g)
theorem FCv.refl:∀ f:Fm,FCv f f
 | .eq a b => .eq (.refl a) (.refl b)
 | .bin k f g => .bin k (refl f) (refl g)
 | .q k s f => .q k s (refl f)
theorem FCv.symm {f g:Fm} (h:FCv f g):FCv g f:=by
 induction h with
 | eq h k=>exact .eq h.symm k.symm
 | bin k _ _ i1 i2=>exact .bin k i1 i2
 | q k s _ ih=>exact .q k s ih
theorem FCv.trans {f g:Fm} (h:FCv f g):∀ {x:Fm},FCv g x->FCv f x:=by
 induction h with
 | eq h k=>intro x e;cases e with|eq h' k'=>exact .eq (h.trans h') (k.trans k')
 | bin k _ _ i1 i2=>intro x e;cases e with|bin _ h' k'=>exact .bin k (i1 h') (i2 k')
 | q k s _ ih=>intro x e;cases e with|q _ _ h'=>exact .q k s (ih h')
theorem FCv.sub {f g:Fm} (h:FCv f g):∀ σ:Nat->Tm,FCv (f.sub σ) (g.sub σ):=by
 induction h with
 | eq h k=>exact λ σ => .eq (h.sub σ) (k.sub σ)
 | bin k _ _ i1 i2=>exact λ σ => .bin k (i1 σ) (i2 σ)
 | q k s _ ih=>exact λ σ => .q k s (ih _)
theorem FCv.put {f g:Fm} (h:FCv f g) (t:Tm) (c d:Nat):FCv (f.put c t d) (g.put c t d):=by
 rw [qG,qG];exact h.sub _
theorem LM:∀ (f:Fm) (ρ:Nat->Nat),f.ren ρ=f.sub λ i => .v (ρ i)
 | .eq a b,ρ=>by simp only [Fm.ren,Fm.sub,EJ]
 | .bin k f g,ρ=>by simp only [Fm.ren,Fm.sub,LM f,LM g]
 | .q k s f,ρ=>by simp only [Fm.ren,Fm.sub,ub,LM f]
theorem FCv.ren {f g:Fm} (h:FCv f g) (ρ:Nat->Nat):FCv (f.ren ρ) (g.ren ρ):=by
 rw [LM,LM];exact h.sub _
theorem FCv.sh {f g:Fm} (h:FCv f g) (c k:Nat):FCv (f.sh c (.ofNat k)) (g.sh c (.ofNat k)):=by
 rw [tL,tL];exact h.ren _
theorem FCv.er {f g:Fm} (h:FCv f g):f.er=g.er:=by
 induction h with
 | eq h k=>rfl
 | bin k _ _ i1 i2=>simp only [Fm.er,i1,i2]
 | q k s _ ih=>simp only [Fm.er,ih]
theorem FCv.has {f g:Fm} (h:FCv f g):f.has=g.has:=by
 induction h with
 | eq h k=>rfl
 | bin k _ _ i1 i2=>cases k<;>simp only [Fm.has,i1,i2]
 | q k s _ ih=>cases k<;>simp only [Fm.has,ih]
theorem KJ:∀ {f g:Fm},f.mt g->FCv f g
 | .eq _ _,.eq _ _,h => .eq (ab h.1) (ab h.2)
 | .bin k _ _,.bin l _ _,h=>by
  obtain⟨rfl,h1,h2⟩:=h;exact .bin k (KJ h1) (KJ h2)
 | .q k s _,.q l u _,h=>by
  obtain⟨rfl,rfl,h1⟩:=h;exact .q k s (KJ h1)
 | .eq _ _,.bin _ _ _,h=>h.elim
 | .eq _ _,.q _ _ _,h=>h.elim
 | .bin _ _ _,.eq _ _,h=>h.elim
 | .bin _ _ _,.q _ _ _,h=>h.elim
 | .q _ _ _,.eq _ _,h=>h.elim
 | .q _ _ _,.bin _ _ _,h=>h.elim
theorem WO:∀ (f:Fm) {g:Fm},iB f=some g->FCv f g
 | .eq a b,g,h=>by
  simp only [iB] at h;split at h
  ·rename_i e;split at h
   ·rename_i e';cases h;exact .eq (KM e) (KM e')
   ·cases h
  ·cases h
 | .bin k f x,g,h=>by
  simp only [iB] at h;split at h
  ·rename_i e;split at h
   ·rename_i e';cases h;exact .bin k (WO f e) (WO x e')
   ·cases h
  ·cases h
 | .q k s f,g,h=>by
  simp only [iB] at h;split at h
  ·rename_i e;cases h;exact .q k s (WO f e)
  ·cases h
theorem HR:∀ (f:Fm) {σ τ:Nat->Tm},(∀ i,Par (σ i) (τ i))->FCv (f.sub σ) (f.sub τ)
 | .eq a b,_,_,h => .eq ⟨_,.step ((Par.refl a).sub h) (.refl _),.refl _⟩ ⟨_,.step ((Par.refl b).sub h) (.refl _),.refl _⟩
 | .bin k f g,_,_,h => .bin k (HR f h) (HR g h)
 | .q k s f,_,_,h => .q k s (HR f (Par.up h))
theorem xb {a b:Tm} (h:Ps a b) (f:Fm):FCv (f.put 0 a 0) (f.put 0 b 0):=by
 induction h with
 | refl=>exact .refl _
 | step p _ ih =>
  refine FCv.trans ?_ ih;rw [qG,qG];refine HR f λ i => ?_
  cases i with
  | zero=>rw [ZF,ZF];exact p
  | succ i=>rw [oH,oH];exact .v i
theorem Ab {a b:Tm} (h:Cv a b) (f:Fm):FCv (f.put 0 a 0) (f.put 0 b 0):=by
 obtain⟨w,h1,h2⟩:=h;exact (xb h1 f).trans (xb h2 f).symm
open Go.Lg
abbrev Lm (e:Nat):Prop:=3<=e/\e<=5
theorem Qk:∀ (r n:Nat) (t:Tm) {e:Nat},PC r n t = .er e->Lm (e+1):=by
 intro r
 induction r with
 | zero =>
  intro n t e h;simp only [PC] at h;split at h<;>cases h;exact⟨by decide,by decide⟩
 | succ r ih =>
  intro n t e h;simp only [PC] at h;split at h
  ·cases h
  ·cases h;exact⟨by decide,by decide⟩
  ·exact ih _ _ h
theorem qW {t:Tm} {e:Nat} (h:ID t = .er e):Lm (e+1):=Qk _ _ _ h
theorem Bb {n:Nat} {a b:Tm} (ha:TK n a) (hb:TK n b) (hn:n<=DA) (h:Cv a b):∃ e,A 311 [a.p,b.p,num 1000] (num e)/\(e=0\/Lm e):=by
 have g1:=ha.a92;have g2:=hb.a92;obtain⟨r,g3,_⟩:=rc a b;have g4:=(LL ha hn).1;have g5:=(LL hb hn).1;cases r
 ·cases e1:ID a with
  | er e =>
   rw [e1] at g4;exact⟨e+1,f4 [(15,.N 0),(20,.N 0),(26,.F),(30,.r (NF.er e).p)] g1 g2 g3 g4,.inr (qW e1)⟩
  | ok x j =>
   rw [e1] at g4
   cases e2:ID b with
   | er e =>
    rw [e2] at g5;exact⟨e+1,f5 [(15,.N 0),(20,.N 0),(26,.F),(30,.r (NF.ok x j).p),(40,.r (NF.er e).p)] g1 g2 g3 g4 g5,.inr (qW e2)⟩
   | ok y l =>
    rw [e2] at g5;obtain rfl:=Pk h e1 e2;obtain⟨r,g6,q6⟩:=rc x x;rw [q6.2 rfl] at g6;exact⟨0,f6 [(15,.N 0),(20,.N 0),(26,.F),(30,.r (NF.ok x j).p),(40,.r (NF.ok x l).p),(49,.T)] g1 g2 g3 g4 g5 g6,.inl rfl⟩
 ·exact⟨0,f3 [(15,.N 0),(20,.N 0),(26,.T)] g1 g2 g3,.inl rfl⟩
theorem Rk {a b:Fm} (h:FCv a b):∀ n:Nat,FK n a->FK n b->n+a.cnt<=DA->∃ e,A 286 [a.p,b.p] (num e)/\(e=0\/Lm e):=by
 induction h with
 | eq h k =>
  intro n h1 h2 hn;obtain⟨e,g1,q1⟩:=Bb h1.eq1 h2.eq1 (by omega) h;obtain⟨e',g2,q2⟩:=Bb h1.eq2 h2.eq2 (by omega) k
  cases e with
  | succ n=>exact⟨n+1,f2 [(21,.T),(38,.N (n+1))] zE g1,q1⟩
  | zero=>cases e' with
   | succ n=>exact⟨n+1,f3 [(21,.T),(38,.N 0),(38,.N (n+1))] zE g1 g2,q2⟩
   | zero=>exact⟨0,f3 [(21,.T),(38,.N 0),(38,.N 0)] zE g1 g2,.inl rfl⟩
 | bin k _ _ i1 i2 =>
  intro n h1 h2 hn;simp only [Fm.cnt] at hn;obtain⟨e,g1,q1⟩:=i1 n h1.bin1 h2.bin1 (by omega);obtain⟨e',g2,q2⟩:=i2 n h1.bin2 h2.bin2 (by omega)
  cases e with
  | succ n=>exact⟨n+1,f3 [(15,.H),(21,.T),(57,.N (n+1))] (rB k.n) zE g1,q1⟩
  | zero=>cases e' with
   | succ n=>exact⟨n+1,f4 [(15,.H),(21,.T),(57,.N 0),(57,.N (n+1))] (rB k.n) zE g1 g2,q2⟩
   | zero=>exact⟨0,f4 [(15,.H),(21,.T),(57,.N 0),(57,.N 0)] (rB k.n) zE g1 g2,.inl rfl⟩
 | q k s _ ih =>
  intro n h1 h2 hn;simp only [Fm.cnt] at hn;have g0:=rP s s;rw [(HD s s).2 rfl] at g0;obtain⟨e,g1,q1⟩:=ih (n+1) h1.qf h2.qf (by omega)
  cases e with
  | succ n=>exact⟨n+1,f3 [(15,.H),(21,.T),(57,.N (n+1))] (rB k.n) g0 g1,q1⟩
  | zero=>exact⟨0,f3 [(15,.H),(21,.T),(57,.N 0)] (rB k.n) g0 g1,.inl rfl⟩
theorem Cb {n:Nat} {a b:Fm} (h1:FK n a) (h2:FK n b) (hn:n<=90000) (h:FCv a b):∃ e,A 237 [a.p,b.p] (num e)/\(e=0\/Lm e):=by
 obtain⟨e,g,q⟩:=Rk h n h1 h2 (by have:=h1.cnt;have hl:DA=100000:=rfl;omega);exact⟨e,f3 [(8,.N 0),(13,.N 0),(19,.N e)] h1.a89 h2.a89 g,q⟩
theorem Db {n:Nat} {t:Tm} (h:TK n t) (hn:n<=DA) (d e:Nat):∃ (x:Sx) (e':Nat),O 291 [.pv t.p,.pv (num d),.loc 2 0] (uH e) (.pv (.agg x.c)) (uH e')/\(e'=0->e=0 /\ ∃ y k,ID t = .ok y k/\x=y.x)/\(e=0\/Lm e->e'=0\/Lm e'):=by
 cases e with
 | succ e=>exact⟨t.x,e+1,o0 3 [],(nofun),id⟩
 | zero =>
  have g1:=(LL h hn).1
  cases e1:ID t with
  | er e=>rw [e1] at g1;exact⟨(NF.er e).x,e+1,o1 3 [(14,.r (NF.er e).p)] g1,(nofun),λ _ => .inr (qW e1)⟩
  | ok y k=>rw [e1] at g1;exact⟨y.x,0,o1 3 [(14,.r (NF.ok y k).p)] g1,λ _=>⟨rfl,y,k,rfl,rfl⟩,λ _ => .inl rfl⟩
theorem IR:∀ (f:Fm) (n d e:Nat),FK n f->n+f.cnt<=DA->d+f.cnt<=qA->∃ (x:Sy) (e':Nat),O 187 [.pv f.p,.pv (num d),.fn 291 [.loc 2 0]] (uH e) (.pv (.agg x.c)) (uH e')/\(e'=0->e=0 /\ ∃ g,iB f=some g/\x=g.y)/\(e=0\/Lm e->e'=0\/Lm e')
 | .eq a b,n,d,e,h,hn,hd=>by
  have h1:=h.eq1;have h2:=h.eq2;simp only [Fm.cnt] at hn;obtain⟨x1,e1,g1,q1,w1⟩:=Db h1 (by omega) d e;obtain⟨x2,e2,g2,q2,w2⟩:=Db h2 (by omega) d e1;refine⟨⟨1,0,[],[x1.c,x2.c],[]⟩,e2,o3 3 [(16,.r zt),(30,.o [] (uH e1) (.pv (.agg x1.c))),(30,.o [] (uH e2) (.pv (.agg x2.c)))] KC g1 g2,?_,λ h=>w2 (w1 h)⟩;intro e0;obtain⟨rfl,y,k,r1,rfl⟩:=q2 e0;obtain⟨rfl,y',k',r2,rfl⟩:=q1 rfl;exact⟨rfl,.eq y' y,by simp only [iB,r1,r2],rfl⟩
 | .bin k a b,n,d,e,h,hn,hd=>by
  simp only [Fm.cnt] at hn hd;obtain⟨x1,e1,g1,q1,w1⟩:=IR a n d e h.bin1 (by omega) (by omega);obtain⟨x2,e2,g2,q2,w2⟩:=IR b n d e1 h.bin2 (by omega) (by omega);refine⟨⟨k.n,0,[],[],[x1.c,x2.c]⟩,e2,?_,?_,λ h=>w2 (w1 h)⟩
  ·cases k<;>exact o3 3 [(16,.r zt),(52,.o [] (uH e1) (.pv (.agg x1.c))),(52,.o [] (uH e2) (.pv (.agg x2.c)))] KC g1 g2
  ·intro e0;obtain⟨rfl,y,r1,rfl⟩:=q2 e0;obtain⟨rfl,y',r2,rfl⟩:=q1 rfl;exact⟨rfl,.bin k y' y,by simp only [iB,r1,r2],by cases k<;>rfl⟩
 | .q k s a,n,d,e,h,hn,hd=>by
  have hm:=zA;have hb:=kA;simp only [Fm.cnt] at hn hd;obtain⟨x1,e1,g1,q1,w1⟩:=IR a (n+1) (d+1) e h.qf (by omega) (by omega);have g:=iA (a:=d) (b:=1) (by omega);refine⟨⟨k.n,s.kd,s.es,[],[x1.c]⟩,e1,?_,?_,w1⟩
  ·cases k<;>exact o3 3 [(16,.r s.p),(39,.z (d+1)),(52,.o [] (uH e1) (.pv (.agg x1.c)))] (UE s) g g1
  ·intro e0;obtain⟨rfl,y,r1,rfl⟩:=q1 e0;exact⟨rfl,.q k s y,by simp only [iB,r1],by cases k<;>rfl⟩
def Nm:Fm->Prop
 | .eq a b=>(∃ z,a.st z = .no) /\ ∃ z,b.st z = .no
 | .bin _ f g=>Nm f/\Nm g
 | .q _ _ f=>Nm f
theorem XO:∀ (f:Fm) {g:Fm},iB f=some g->Nm g
 | .eq a b,g,h=>by
  simp only [iB] at h;split at h
  ·rename_i e;split at h
   ·rename_i e';cases h;exact⟨(VO _ _ _ e).2,(VO _ _ _ e').2⟩
   ·cases h
  ·cases h
 | .bin k f x,g,h=>by
  simp only [iB] at h;split at h
  ·rename_i e;split at h
   ·rename_i e';cases h;exact⟨XO f e,XO x e'⟩
   ·cases h
  ·cases h
 | .q k s f,g,h=>by
  simp only [iB] at h;split at h
  ·rename_i e;cases h;have k:=XO f e;exact k
  ·cases h
theorem Eb {t:Tm} {z:Int} (ρ:Nat->Nat) (h:t.st z = .no):(t.ren ρ).st z = .no:=by rw [FJ,h];rfl
theorem JR:∀ (f:Fm) (ρ:Nat->Nat),Nm f->Nm (f.ren ρ)
 | .eq a b,ρ,⟨⟨z,h⟩,⟨y,k⟩⟩=>⟨⟨z,Eb ρ h⟩,⟨y,Eb ρ k⟩⟩
 | .bin _ f g,ρ,h=>⟨JR f ρ h.1,JR g ρ h.2⟩
 | .q _ _ f,ρ,h=>JR f _ h
theorem Fb {a b:Tm} {z y:Int} (h:Cv a b) (h1:a.st z = .no) (h2:b.st y = .no):a=b:=by
 obtain⟨w,e1,e2⟩:=h;exact (GR e1 h1).symm.trans (GR e2 h2)
theorem Sk {f g:Fm} (h:FCv f g):Nm f->Nm g->f=g:=by
 induction h with
 | eq h k=>exact λ ⟨⟨_,a⟩,⟨_,b⟩⟩ ⟨⟨_,c⟩,⟨_,d⟩⟩=>by rw [Fb h a c,Fb k b d]
 | bin k _ _ i1 i2=>exact λ a b=>by rw [i1 a.1 b.1,i2 a.2 b.2]
 | q k s _ ih=>exact λ a b=>by rw [ih a b]
theorem zW {t:Tm} {ρ:Nat->Nat} {c:Nat} (h:∀ j,ρ j≠c):(t.ren ρ).occ c=0 :=
 Decidable.byContradiction λ k=>by
  obtain⟨j,_,e⟩:=DJ t ρ c k;exact h j e
theorem LR:∀ (f:Fm) (ρ:Nat->Nat) (c:Nat),(∀ j,ρ j≠c)->(f.ren ρ).occ c=0
 | .eq a b,ρ,c,h=>by show _+_=0;rw [zW h,zW h]
 | .bin k f g,ρ,c,h=>by show _+_=0;rw [LR f ρ c h,LR g ρ c h]
 | .q k s f,ρ,c,h=>LR f (ZC ρ) (c+1) λ j=>by
  cases j with
  | zero=>exact nofun
  | succ j=>exact λ e=>h j (Nat.succ.inj e)
theorem wG:∀ f:Fm,f.sub Tm.v=f
 | .eq a b=>by simp only [Fm.sub,kE]
 | .bin k f g=>by simp only [Fm.sub,wG f,wG g]
 | .q k s f=>by simp only [Fm.sub,iN,wG f]
theorem Tk {f g y:Fm} (h:iB f=some g) (hc:FCv f y) (h0:y.occ 0=0):g.occ 0=0/\FCv g y:=by
 have k:=(WO f h).symm.trans hc;refine⟨?_,k⟩;let ρ:Nat->Nat:=λ i=>if i=0 then 1 else i
 have e:y.ren ρ=y:=by
  rw [LM];refine (TO y _ Tm.v λ i hi => ?_).trans (wG y);show Tm.v (if i=0 then 1 else i) = .v i;rw [if_neg (λ e:i=0=>hi (by rw [e];exact h0))]
 have k2:=k.ren ρ;rw [e] at k2;have e2:=Sk (k.trans k2.symm) (XO f h) (JR g ρ (XO f h));rw [e2];exact LR g ρ 0 λ j=>by
  show (if j=0 then 1 else j)≠0;split<;>omega
theorem FCv.low {f y:Fm} (h:FCv f y):FCv f.low y.low:=h.put _ _ _
theorem Uk {n:Nat} {f y:Fm} (h:FK (n+1) f) (hn:n+1<=90000) (hc:FCv f y) (hy:y.occ 0=0):(∃ e,Lm (e+1)/\A 246 [f.p] (FR.er e).p) \/ ∃ w,A 246 [f.p] (FR.ok w).p/\FCv w y.low/\IC f=some w:=by
 have hm:=zA;have hb:=kA;have hl:DA=100000:=rfl;have c1:=h.cnt;have hx:=h.mx (by omega);have g1:=cP f 0 (by omega) (by rw [hm];omega);by_cases h0:f.occ 0=0
 ·rw [h0] at g1;exact .inr ⟨f.low,f2 [(7,.N 0),(11,.r f.low.p)] g1 (aP f 0 .z (.v 0) (.inr h0) (by omega) (by rw [hm];omega)),hc.low,by unfold IC;rw [if_pos h0]⟩
 ·obtain⟨x,e',g2,q,w⟩:=IR f (n+1) 0 0 h (by omega) (by omega);have g0:tB (.ofNat (f.occ 0)) (.ofNat 0)=false:=sG h0
  cases e' with
  | succ e=>exact .inl ⟨e,(w (.inl rfl)).resolve_left (by omega),f3 [(7,.N (f.occ 0)),(8,.H),(14,.o [] (uH (e+1)) (.pv (.agg x.c)))] g1 g0 g2⟩
  | zero =>
   obtain⟨_,y',r1,rfl⟩:=q rfl;obtain⟨k1,k2,k3⟩:=pN f (n+1) h (by omega) y' r1;obtain⟨h1,k5⟩:=Tk r1 hc hy;have k4:=OH y' (n+1) k1;have g3:=cP y' 0 (by omega) (by rw [hm];omega);rw [h1] at g3;exact .inr ⟨y'.low,f5 [(7,.N (f.occ 0)),(8,.H),(14,.o [] (uH 0) (.pv (.agg y'.y.c))),(22,.N 0),(27,.r y'.low.p)] g1 g0 g2 g3 (aP y' 0 .z (.v 0) (.inr h1) (by omega) (by rw [hm];omega)),k5.low,by unfold IC;rw [if_neg h0,r1];simp only [if_pos h1]⟩
def Fm.tq:List Ty->Fm->Prop
 | g,.eq a b=>a.tyR g = .ok .nat/\b.tyR g = .ok .nat
 | g,.bin _ f h=>f.tq g/\h.tq g
 | g,.q _ s f=>f.tq (g++[s])
theorem MR:∀ (f:Fm) (g:List Ty),f.cnt<=4096->f.shp=true->f.tq g->f.ty g
 | .eq a b,g,h,h',k=>by
  obtain⟨s1,s2⟩:=HA h';have h:1+a.cnt+b.cnt<=4096:=h;exact⟨⟨Tm.chk_i s1 (by omega),k.1⟩,Tm.chk_i s2 (by omega),k.2⟩
 | .bin _ f x,g,h,h',k=>by
  obtain⟨s1,s2⟩:=HA h';have h:1+f.cnt+x.cnt<=4096:=h;exact⟨MR f g (by omega) s1 k.1,MR x g (by omega) s2 k.2⟩
 | .q _ s f,g,h,h',k=>by
  have h:1+f.cnt<=4096:=h;exact MR f _ (by omega) (HA h').2 k
theorem YO {f:Fm} {g:List Ty} (h:f.chk=0) (k:f.tq g):f.ty g:=MR f g (Fm.chk0 h).1 (Fm.chk0 h).2 k
def Jt.L (ls:List Fm):List Ty->List Fm->Jt->Prop
 | _,hs,.leaf u i f=>match u with
  | false=>i<hs.length /\ ∃ x,hs[hs.length-1-i]? = some x/\FCv x f
  | true => ∃ x,ls[i]? = some x/\FCv x f
 | g,_,.refl t=>t.tyR g = .ok .nat
 | g,hs,.p1 k a f=>a.L ls g hs/\match k with
  | .andL => ∃ y,FCv a.f (.bin .and f y)
  | .andR => ∃ x,FCv a.f (.bin .and x f)
  | .choice => ∃ s u x,FCv a.f (.q .all s (.q .ex u x))/\FCv f (.q .ex (.two true s u) (.q .all s ((x.sh 2 (.ofNat 1)).put 0 vapp 0)))
 | g,hs,.p2 k a b f=>a.L ls g hs/\match k with
  | .andI=>b.L ls g hs/\FCv f (.bin .and a.f b.f)
  | .impE=>b.L ls g hs /\ ∃ x,FCv a.f (.bin .imp x f)/\FCv x b.f
  | .exE => ∃ s x y,FCv a.f (.q .ex s x)/\b.L ls (g++[s]) (gA 1 hs++[x])/\FCv b.f y/\y.occ 0=0/\FCv f y.low
  | .exUE=>(∃ s x y,FCv a.f (.q .exU s x)/\b.L ls (g++[s]) (gA 1 hs++[x])/\FCv b.f y/\y.occ 0=0/\FCv f y.low) /\ ¬b.us 0
 | g,hs,.impI x a=>x.tq g/\a.L ls g (hs++[x])
 | g,hs,.all u s a=>a.L ls (g++[s]) (gA 1 hs)/\(u=true->¬a.us 0)
 | g,hs,.ins u t a f=>a.L ls g hs /\ ∃ s x,t.tyR g = .ok s/\FCv a.f (.q (aq u) s x)/\FCv f (x.put 0 t 0)
 | g,hs,.ex u x t a=>x.tq g/\a.L ls g hs /\ ∃ s y,t.tyR g = .ok s/\x = .q (RE u) s y/\FCv (y.put 0 t 0) a.f
 | g,hs,.ind l x t a b f=>x.tq (g++[lT l])/\t.tyR g = .ok (lT l)/\(a.L ls g hs/\FCv (x.put 0 (l0 l) 0) a.f)/\(b.L ls (g++lG l) (XM hs x l)/\FCv ((x.sh 1 (.ofNat (lN l))).put 0 (l1 l) 0) b.f)/\FCv f (x.put 0 t 0)
 | g,hs,.subst x a b f=>x.tq (g++[.nat])/\a.L ls g hs/\b.L ls g hs /\ ∃ t u,FCv a.f (.eq t u)/\FCv (x.put 0 t 0) b.f/\FCv f (x.put 0 u 0)
def HC (l hs:List Fm):Prop:=l.length=hs.length /\ ∀ (i:Nat) (f h:Fm),l[i]? = some f->hs[i]? = some h->FCv f h
theorem HC.nil:HC [] []:=⟨rfl,λ i f h e=>by simp at e⟩
theorem HC.with {l hs:List Fm} {f x:Fm} (h:HC l hs) (k:FCv f x):HC (l++[f]) (hs++[x]):=by
 refine⟨by simp [h.1],λ i a b e e' => ?_⟩;by_cases hi:i<l.length
 ·rw [List.getElem?_append_left hi] at e;rw [List.getElem?_append_left (by rw [<- h.1];exact hi)] at e';exact h.2 i a b e e'
 ·rw [List.getElem?_append_right (by omega)] at e;rw [List.getElem?_append_right (by rw [<- h.1];omega)] at e';rw [<- h.1] at e'
  cases hj:i-l.length with
  | zero=>rw [hj] at e e';cases e;cases e';exact k
  | succ j=>rw [hj] at e;simp at e
theorem HC.up {l hs:List Fm} (h:HC l hs) (k:Nat):HC (gA k l) (gA k hs):=by
 refine⟨by simp [h.1],λ i a b e e' => ?_⟩;simp only [gA,List.getElem?_map] at e e'
 cases e1:l[i]? with
 | none=>rw [e1] at e;cases e
 | some f =>
  cases e2:hs[i]? with
  | none=>rw [e2] at e';cases e'
  | some x =>
   rw [e1] at e;rw [e2] at e';cases e;cases e';exact (h.2 i f x e1 e2).sh 0 k
theorem FCv.kd {f g:Fm} (h:FCv f g):f.kd=g.kd:=by
 induction h with
 | eq h k=>rfl
 | bin k _ _ _ _=>cases k<;>rfl
 | q k s _ _=>cases k<;>rfl
theorem FCv.ofBin {f:Fm} {k:FB} {x y:Fm} (h:FCv f (.bin k x y)):∃ x' y',f = .bin k x' y'/\FCv x' x/\FCv y' y:=by
 cases h with
 | bin _ h k=>exact⟨_,_,rfl,h,k⟩
theorem FCv.ofQ {f:Fm} {k:FQ} {s:Ty} {x:Fm} (h:FCv f (.q k s x)):∃ x',f = .q k s x'/\FCv x' x:=by
 cases h with
 | q _ _ h=>exact⟨_,rfl,h⟩
theorem FCv.ofEq {f:Fm} {a b:Tm} (h:FCv f (.eq a b)):∃ a' b',f = .eq a' b'/\Cv a' a/\Cv b' b:=by
 cases h with
 | eq h k=>exact⟨_,_,rfl,h,k⟩
abbrev OR (p:Pf) (g:List Ty) (H:List (Fm × Nat)) (xs:List V):List V:=.loc 4 0 :: .pv p.p :: .pv (XA g H)::xs
def KE (F:Nat) (xs:List V) (ls:List Fm) (p:Pf) (g:List Ty) (H:List (Fm × Nat)):Prop:=∃ y z e,Lm (e+1)/\O F (OR p g H xs) (xG ls) (.pv (eA y z (e+1))) (xG ls)
structure KG (F:Nat) (xs:List V) (ls:List Fm) (j:Jt) (g:List Ty) (H:List (Fm × Nat)) (i:Jt) (z:Int):Prop where
 p:i.p=j.p
 ok:i.OK ls g.length (vw g.length H)
 cv:FCv i.f j.f
 fk:FK g.length i.f
 bs:BS j.us z
 run:O F (OR j.p g H xs) (xG ls) (.pv (eA i.f.y z 0)) (xG ls)
abbrev KQ (F:Nat) (xs:List V) (ls:List Fm) (j:Jt) (g:List Ty) (H:List (Fm × Nat)):Prop:=KE F xs ls j.p g H \/ ∃ i z,KG F xs ls j g H i z
def KL (ls:List Fm) (j:Jt):Prop:=∀ g H hs,PlOK g H->HC (vw g.length H) hs->j.L ls g hs->j.p.ck->KQ 127 [] ls j g H
structure Vk (ls:List Fm) (j:Jt) (g:List Ty) (H:List (Fm × Nat)) (i:Jt) (z:Int):Prop where
 p:i.p=j.p
 ok:FK g.length i.f->i.OK ls g.length (vw g.length H)
 cv:FCv i.f j.f
 sc:i.f.sc g.length
 shp:i.f.shp=true
 cnt:i.f.cnt<=16777216
 bs:BS j.u0 z
 run:O j.p.kf (OR j.p g H []) (xG ls) (.pv (eA i.f.y z 0)) (xG ls)
def RL (ls:List Fm) (j:Jt):Prop:=∀ g H hs,PlOK g H->HC (vw g.length H) hs->j.L ls g hs->j.p.ck->KE j.p.kf [] ls j.p g H \/ ∃ i z,Vk ls j g H i z
theorem L4:Lm (3+1):=⟨by decide,by decide⟩
theorem L3:Lm (2+1):=⟨by decide,by decide⟩
theorem kl {ls:List Fm} (j:Jt) (h:RL ls j):KL ls j:=by
 intro g H hs hp hh hL hc;have hm:=zA;have hb:=kA;rcases h g H hs hp hh hL hc with ⟨y,z,e,he,g1⟩|⟨i,z,q⟩
 ·refine .inl ⟨.z,0,e,he,?_⟩;generalize j.p=p at g1;cases p<;>(try cases ‹Bool›)<;>(try cases ‹P1›)<;>(try cases ‹P2›)<;>exact o1 5 [(23,.o [3,4] [] (.pv (eA y z (e+1))))] g1
 ·obtain⟨k1,k2,k3,k4,k5,k6,hz,g1⟩:=q;by_cases hl:i.f.cnt<=4096
  ·have hf:FK g.length i.f:=⟨hl,k5,k4⟩;have g2:=hf.a89;have g3:=hf.a70 (by have:=hp.gl;have hl:DA=100000:=rfl;omega);have eh:=k3.has;cases e1:i.f.has<;>rw [e1] at g3
   ·refine .inr ⟨i,0,k1,k2 hf,k3,hf,II _,?_⟩;generalize j.p=p at g1;cases p<;>(try cases ‹Bool›)<;>(try cases ‹P1›)<;>(try cases ‹P2›)<;>exact o3 5 [(23,.o [3,4] [] (.pv (eA i.f.y z 0))),(32,.N 0),(38,.U [.bool false,num 0])] g1 g2 g3
   ·refine .inr ⟨i,z,k1,k2 hf,k3,hf,hz.mono λ v hv=>sd (eh.symm.trans e1) hv,?_⟩;generalize j.p=p at g1;cases p<;>(try cases ‹Bool›)<;>(try cases ‹P1›)<;>(try cases ‹P2›)<;>exact o3 5 [(23,.o [3,4] [] (.pv (eA i.f.y z 0))),(32,.N 0),(38,.U [.bool true,num 0])] g1 g2 g3
  ·have g2:=a89 i.f (by have:=wK i.f k5;omega) (by omega);have e4:i.f.chk=4:=by
    unfold Fm.chk;rw [k5];simp only;rw [show uA (.ofNat 4096) (.ofNat i.f.cnt)=true from cA (by omega)]
   rw [e4] at g2;refine .inl ⟨.z,0,3,L4,?_⟩;generalize j.p=p at g1;cases p<;>(try cases ‹Bool›)<;>(try cases ‹P1›)<;>(try cases ‹P2›)<;>exact o2 5 [(23,.o [3,4] [] (.pv (eA i.f.y z 0))),(32,.N 4)] g1 g2
theorem cL {ls:List Fm} {j:Jt} (h:KL ls j) {g:List Ty} {H:List (Fm × Nat)} {hs:List Fm} (hp:PlOK g H) (hh:HC (vw g.length H) hs) (hL:j.L ls g hs) (hc:j.p.ck) {k:Nat} (hk:j.f.kd=k):KQ 235 [.pv (num k)] ls j g H:=by
 rcases h g H hs hp hh hL hc with ⟨y,z,e,he,g1⟩|⟨i,z,q⟩
 ·exact .inl ⟨y,z,e,he,o1 5 [(16,.o [3,4] [] (.pv (eA y z (e+1))))] g1⟩
 ·obtain⟨k1,k2,k3,k4,k5,g1⟩:=q;exact .inr ⟨i,z,k1,k2,k3,k4,k5,o2 5 [(16,.o [3,4] [] (.pv (eA i.f.y z 0))),(26,.H)] g1 (UB (k3.kd.trans hk))⟩
theorem MM {ls:List Fm} {j:Jt} (h:KL ls j) {g:List Ty} {H:List (Fm × Nat)} {hs:List Fm} (hp:PlOK g H) (hh:HC (vw g.length H) hs) (hL:j.L ls g hs) (hc:j.p.ck) {f:Fm} {t:Tm} (hf:FK (g.length+1) f) (ht:TK g.length t) (hm:FCv (f.put 0 t 0) j.f):KQ 245 [.pv f.p,.pv t.p] ls j g H:=by
 have hl:DA=100000:=rfl;have hg:=hp.gl;rcases h g H hs hp hh hL hc with ⟨y,z,e,he,g1⟩|⟨i,z,q⟩
 ·exact .inl ⟨.z,0,e,he,o1 5 [(19,.o [3,4] [] (.pv (eA y z (e+1))))] g1⟩
 ·obtain⟨k1,k2,k3,k4,k5,g1⟩:=q;have g2:=nN hf ht (by omega)
  cases e:f.pt t with
  | er n =>
   rw [e] at g2;have:n=3:=by
    unfold Fm.pt at e;split at e<;>cases e;rfl
   subst this;exact .inl ⟨.z,0,3,L4,o2 5 [(19,.o [3,4] [] (.pv (eA i.f.y z 0))),(29,.r (FR.er 3).p)] g1 g2⟩
  | ok w =>
   rw [e] at g2;obtain⟨rfl,hw⟩:=hf.pt ht e;obtain⟨e',g3,q3⟩:=Cb hw k4 (by omega) (hm.trans k3.symm)
   cases e' with
   | succ e'=>exact .inl ⟨i.f.y,z,e',q3.resolve_left (by omega),o3 5 [(19,.o [3,4] [] (.pv (eA i.f.y z 0))),(29,.r (FR.ok (f.put 0 t 0)).p),(40,.N (e'+1))] g1 g2 g3⟩
   | zero=>exact .inr ⟨i,z,k1,k2,k3,k4,k5,o3 5 [(19,.o [3,4] [] (.pv (eA i.f.y z 0))),(29,.r (FR.ok (f.put 0 t 0)).p),(40,.N 0)] g1 g2 g3⟩
open Go.Lg
theorem ZO (v h a b:Nat) (h1:v<=16) (h2:h<=16) (h3:a<=2) (h4:b<=2):(A 236 [.agg [num v,num h],num a,num b] (num 0)/\v+a<=16/\h+b<=16)\/A 236 [.agg [num v,num h],num a,num b] (num 3):=by
 have hb:=kA;have g1:=iA (a:=v) (b:=a) (by omega);have g2:=iA (a:=h) (b:=b) (by omega);by_cases k1:v+a<=16
 ·by_cases k2:h+b<=16
  ·exact .inl ⟨Bo v h a b k1 k2,k1,k2⟩
  ·exact .inr (f4 [(10,.z (v+a)),(11,.H),(16,.z (h+b)),(17,.G)] g1 (JA (a:=16) (b:=v+a) k1) g2 (cA (a:=16) (b:=h+b) (by omega)))
 ·exact .inr (f2 [(10,.z (v+a)),(11,.G)] g1 (cA (a:=16) (b:=v+a) (by omega)))
theorem FK.c24 {n:Nat} {f:Fm} (h:FK n f):f.cnt<=16777216:=by have:=h.cnt;omega
theorem Xk {ls:List Fm} {i:Nat} {f:Fm} : RL ls (.leaf false i f):=by
 intro g H hs hp hh hL hc;obtain⟨h1,x,h2,h3⟩:=hL;have el:=hh.1;rw [vX] at el;rcases Do g H hp i with ⟨h,_⟩|⟨f',_,h4,h5,g1⟩
 ·exact absurd h1 (by omega)
 ·rw [<- el] at h2;exact .inr ⟨.leaf false i f',0,rfl,λ h=>⟨h,by rw [vX];omega,by rw [vX];exact h4⟩,(hh.2 _ _ _ h4 h2).trans h3,h5.sc,h5.shp,h5.c24,II _,o1 5 [(14,.U [f'.p,.bool true])] g1⟩
theorem Yk {ls:List Fm} {i:Nat} {f:Fm} (hl:∀ f∈ls,FK 0 f):RL ls (.leaf true i f):=by
 intro g H hs hp hh hL hc;obtain⟨x,hj,h2⟩:=hL;have h:=(List.getElem?_eq_some_iff.1 hj).1;have k:=(hl x (List.mem_of_getElem? hj)).up (Nat.zero_le g.length);exact .inr ⟨.leaf true i x,0,rfl,λ h=>⟨h,hj⟩,h2,k.sc,k.shp,k.c24,II _,o2 5 [(15,.H),(23,.i x.c)] (xF (a:=i) (b:=(ls.map Fm.c).length) (by simpa using h)) (kB hj Fm.c_len)⟩
theorem Gb {k:FB} {a b:Fm} (h1:a.shp=true) (h2:b.shp=true):(Fm.bin k a b).shp=true:=by show (_ && _)=true;rw [h1,h2];rfl
theorem jW {k:FQ} {s:Ty} {a:Fm} (hs:s.size<=64) (h:a.shp=true):(Fm.q k s a).shp=true:=by
 show (_ && _)=true;rw [h,Bool.and_true];simp only [vH,ckE_0.2 hs];rfl
theorem Zk {ls:List Fm} {a b:Jt} {f:Fm} (Ha:KL ls a) (Hb:KL ls b):RL ls (.p2 .andI a b f):=by
 intro g H hs hp hh hL hc;obtain⟨h1,h2,h3⟩:=hL;rcases Ha g H hs hp hh h1 hc.1 with ⟨y,z,e,he,g1⟩|⟨i,z,q⟩
 ·exact .inl ⟨.z,0,e,he,o1 5 [(18,.o [3,4] [] (.pv (eA y z (e+1))))] g1⟩
 rcases Hb g H hs hp hh h2 hc.2 with ⟨y,z',e,he,g2⟩|⟨i',z',q'⟩
 ·exact .inl ⟨.z,0,e,he,o2 5 [(18,.o [3,4] [] (.pv (eA i.f.y z 0))),(32,.o [3,4] [] (.pv (eA y z' (e+1))))] q.run g2⟩
 have c1:=q.fk.cnt;have c2:=q'.fk.cnt;exact .inr ⟨.p2 .andI i i' (.bin .and i.f i'.f),_,by show Pf.p2 .andI i.p i'.p=_;rw [q.p,q'.p];rfl,λ h=>⟨h,q.ok,q'.ok,rfl⟩,(FCv.bin .and q.cv q'.cv).trans h3.symm,⟨q.fk.sc,q'.fk.sc⟩,Gb q.fk.shp q'.fk.shp,by show 1+i.f.cnt+i'.f.cnt<=_;omega,q.bs.or q'.bs,o3 5 [(18,.o [3,4] [] (.pv (eA i.f.y z 0))),(32,.o [3,4] [] (.pv (eA i'.f.y z' 0))),(49,.v (u32 (BA .or .u32 z z')))] q.run q'.run (CE z z')⟩
theorem ql {ls:List Fm} {a:Jt} {f:Fm} (Ha:KL ls a):RL ls (.p1 .andL a f):=by
 intro g H hs hp hh hL hc;obtain⟨h1,y0,e0⟩:=hL;rcases cL Ha hp hh h1 hc (k:=2) e0.kd with ⟨y,z,e,he,g1⟩|⟨i,z,q⟩
 ·exact .inl ⟨.z,0,e,he,o1 5 [(18,.o [3,4] [] (.pv (eA y z (e+1))))] g1⟩
 obtain⟨x',y',ei,c1,c2⟩:=(q.cv.trans e0).ofBin;have g1:=q.run;have fa:=q.fk;rw [ei] at g1 fa;exact .inr ⟨.p1 .andL i x',z,by show Pf.p1 .andL i.p=_;rw [q.p];rfl,λ h=>⟨h,q.ok,y',ei⟩,c1,fa.bin1.sc,fa.bin1.shp,fa.bin1.c24,q.bs,o1 5 [(18,.o [3,4] [] (.pv (eA (Fm.bin .and x' y').y z 0)))] g1⟩
theorem zl {ls:List Fm} {a:Jt} {f:Fm} (Ha:KL ls a):RL ls (.p1 .andR a f):=by
 intro g H hs hp hh hL hc;obtain⟨h1,y0,e0⟩:=hL;rcases cL Ha hp hh h1 hc (k:=2) e0.kd with ⟨y,z,e,he,g1⟩|⟨i,z,q⟩
 ·exact .inl ⟨.z,0,e,he,o1 5 [(18,.o [3,4] [] (.pv (eA y z (e+1))))] g1⟩
 obtain⟨x',y',ei,c1,c2⟩:=(q.cv.trans e0).ofBin;have g1:=q.run;have fa:=q.fk;rw [ei] at g1 fa;exact .inr ⟨.p1 .andR i y',z,by show Pf.p1 .andR i.p=_;rw [q.p];rfl,λ h=>⟨h,q.ok,x',ei⟩,c2,fa.bin2.sc,fa.bin2.shp,fa.bin2.c24,q.bs,o1 5 [(18,.o [3,4] [] (.pv (eA (Fm.bin .and x' y').y z 0)))] g1⟩
theorem jl {ls:List Fm} {f:Fm} {a:Jt} (Ha:KL ls a):RL ls (.impI f a):=by
 intro g H hs hp hh hL hc;obtain⟨ht,h1⟩:=hL;have hf:f.chk=0:=hc.1;have hm:=zA;have hg:=hp.gl;have hl:=hp.hl;obtain⟨e,g1,q1,q2⟩:=FL f g hp.gs (Fm.chk0 hf).2 (by have:=(Fm.chk0 hf).1;omega);obtain rfl:=q2 (YO hf ht);have hF:FK g.length f:=⟨(Fm.chk0 hf).1,(Fm.chk0 hf).2,q1 rfl⟩;rcases ZO g.length (H.map NB).length 0 1 hg (by simpa using hl) (by decide) (by decide) with ⟨g2,_,hr⟩|g2;rotate_left
 ·exact .inl ⟨.z,0,2,L3,o2 5 [(20,.N 0),(27,.N 3)] g1 g2⟩
 have hp':=hp.with hF (by simpa using hr);have g3:=yT g H f (by omega);rcases Ha g _ (hs++[f]) hp' (by rw [rK];exact hh.with (.refl f)) h1 hc.2 with ⟨y,z,e,he,g4⟩|⟨i,z,q⟩
 ·exact .inl ⟨.z,0,e,he,o4 5 [(20,.N 0),(27,.N 0),(40,.r (XA g (H++[(f,g.length)]))),(41,.o [3,4] [] (.pv (eA y z (e+1))))] g1 g2 g3 g4⟩
 have c1:=q.fk.cnt;have c2:=hF.cnt;have hok:=q.ok;rw [rK] at hok;exact .inr ⟨.impI f i,z,by show Pf.impI f i.p=_;rw [q.p];rfl,λ h=>⟨hF,h,hok⟩,.bin .imp (.refl f) q.cv,⟨hF.sc,q.fk.sc⟩,Gb hF.shp q.fk.shp,by show 1+f.cnt+i.f.cnt<=_;omega,q.bs,o4 5 [(20,.N 0),(27,.N 0),(40,.r (XA g (H++[(f,g.length)]))),(41,.o [3,4] [] (.pv (eA i.f.y z 0)))] g1 g2 g3 q.run⟩
theorem yl {ls:List Fm} {a b:Jt} {f:Fm} (Ha:KL ls a) (Hb:KL ls b):RL ls (.p2 .impE a b f):=by
 intro g H hs hp hh hL hc;have hg:=hp.gl;obtain⟨h1,h2,x,e0,hm⟩:=hL;rcases cL Ha hp hh h1 hc.1 (k:=3) e0.kd with ⟨y,z,e,he,g1⟩|⟨i,z,q⟩
 ·exact .inl ⟨.z,0,e,he,o1 5 [(19,.o [3,4] [] (.pv (eA y z (e+1))))] g1⟩
 obtain⟨x',y',ei,c1,c2⟩:=(q.cv.trans e0).ofBin;have g1:=q.run;have fa:=q.fk;rw [ei] at g1 fa;rcases Hb g H hs hp hh h2 hc.2 with ⟨y,z',e,he,g2⟩|⟨i',z',q'⟩
 ·exact .inl ⟨.z,0,e,he,o2 5 [(19,.o [3,4] [] (.pv (eA (Fm.bin .imp x' y').y z 0))),(33,.o [3,4] [] (.pv (eA y z' (e+1))))] g1 g2⟩
 obtain⟨e',g3,q3⟩:=Cb fa.bin1 q'.fk (by omega) (c1.trans (hm.trans q'.cv.symm))
 cases e' with
 | succ e'=>exact .inl ⟨.z,0,e',q3.resolve_left (by omega),o3 5 [(19,.o [3,4] [] (.pv (eA (Fm.bin .imp x' y').y z 0))),(33,.o [3,4] [] (.pv (eA i'.f.y z' 0))),(47,.N (e'+1))] g1 q'.run g3⟩
 | zero=>exact .inr ⟨.p2 .impE i i' y',_,by show Pf.p2 .impE i.p i'.p=_;rw [q.p,q'.p];rfl,λ h=>⟨h,q.ok,q'.ok,x',ei⟩,c2,fa.bin2.sc,fa.bin2.shp,fa.bin2.c24,q.bs.or q'.bs,o4 5 [(19,.o [3,4] [] (.pv (eA (Fm.bin .imp x' y').y z 0))),(33,.o [3,4] [] (.pv (eA i'.f.y z' 0))),(47,.N 0),(61,.v (u32 (BA .or .u32 z z')))] g1 q'.run g3 (CE z z')⟩
theorem ul {ls:List Fm} {u:Bool} {s:Ty} {a:Jt} (Ha:KL ls a):RL ls (.all u s a):=by
 intro g H hs hp hh hL hc;obtain⟨h1,hu⟩:=hL;have hsz:s.size<=64:=hc.1;have hm:=zA;have hb:=kA;have hg:=hp.gl;have hl:=hp.hl;rcases ZO g.length (H.map NB).length 1 0 hg (by simpa using hl) (by decide) (by decide) with ⟨g1,hr,_⟩|g1;rotate_left
 ·exact .inl ⟨.z,0,2,L3,by cases u<;>exact o1 5 [(14,.N 3)] g1⟩
 have hp':=hp.below1 hsz hr;have g2:=jX g H s (by omega) (by omega);have e1:(g++[s]).length=g.length+1:=by simp
 have ev:=DP 1 g.length H λ x hx=>(hp.hs x hx).2
 rcases Ha _ H (gA 1 hs) hp' (by rw [e1,ev];exact hh.up 1) h1 hc.2 with ⟨y,z,e,he,g3⟩|⟨i,z,q⟩
 ·exact .inl ⟨.z,0,e,he,by cases u<;>exact o3 5 [(14,.N 0),(29,.r (XA (g++[s]) H)),(30,.o [3,4] [] (.pv (eA y z (e+1))))] g1 g2 g3⟩
 obtain⟨z',hz',g4⟩:=kT z 1 (by decide) q.bs;have g3:=q.run;have hok:=q.ok;have fa:=q.fk;rw [e1,ev] at hok;rw [e1] at fa;have c1:=fa.cnt;refine .inr ⟨.all u s i,z',by show Pf.all u s i.p=_;rw [q.p];rfl,λ h=>⟨hsz,h,hok⟩,.q (aq u) s q.cv,fa.sc,jW hsz fa.shp,by show 1+i.f.cnt<=_;omega,hz',?_⟩;cases u
 ·exact o4 5 [(14,.N 0),(29,.r (XA (g++[s]) H)),(30,.o [3,4] [] (.pv (eA i.f.y z 0))),(53,.r (u32 z'))] g1 g2 g3 g4
 ·have e:(!tB (BA .and .u32 z 1) 0)=false:=by rw [q.bs.and1 (hu rfl)];rfl
  exact o6 5 [(14,.N 0),(29,.r (XA (g++[s]) H)),(30,.o [3,4] [] (.pv (eA i.f.y z 0))),(42,.v (u32 (BA .and .u32 z 1))),(43,.H),(53,.r (u32 z'))] g1 g2 g3 (zX z 1) e g4
theorem QR {f:Fm} {t:Tm} {n:Nat} (e:f.pt t = .er n):n=3:=by
 unfold Fm.pt at e;split at e<;>cases e;rfl
theorem bl {ls:List Fm} {u:Bool} {t:Tm} {a:Jt} {f:Fm} (Ha:KL ls a):RL ls (.ins u t a f):=by
 intro g H hs hp hh hL hc;obtain⟨h1,s,x,hty,e0,hpt⟩:=hL;have hg:=hp.gl;have hlm:DA=100000:=rfl;obtain⟨g1,hT⟩:=JI hp.gs hg hc.1 hty;obtain⟨z1,hz1,g2⟩:=hT.a240 (by omega);rcases cL Ha hp hh h1 hc.2 (k:=(aq u).n) (e0.kd.trans (Io u s x)) with ⟨y,z,e,he,g3⟩|⟨i,z,q⟩
 ·exact .inl ⟨.z,0,e,he,by cases u<;>exact o3 5 [(23,.r (TR.ok s).q),(31,.r (u32 z1)),(43,.o [3,4] [] (.pv (eA y z (e+1))))] g1 g2 g3⟩
 obtain⟨x',ei,c1⟩:=(q.cv.trans e0).ofQ;have g3:=q.run;have fa:=q.fk;rw [ei] at g3 fa;have g4:=td s fa.qs;have g5:=nN fa.qf hT (by omega)
 cases e:x'.pt t with
 | er n =>
  obtain rfl:=QR e;rw [e] at g5;cases u
  ·exact .inl ⟨.z,BA .or .u32 z z1,3,L4,o6 5 [(23,.r (TR.ok s).q),(31,.r (u32 z1)),(43,.o [3,4] [] (.pv (eA (Fm.q .all s x').y z 0))),(54,.T),(64,.r (FR.er 3).p),(71,.v (u32 (BA .or .u32 z z1)))] g1 g2 g3 g4 g5 (CE z z1)⟩
  ·exact .inl ⟨.z,BA .or .u32 z 0,3,L4,o6 5 [(23,.r (TR.ok s).q),(31,.r (u32 z1)),(43,.o [3,4] [] (.pv (eA (Fm.q .allU s x').y z 0))),(54,.T),(64,.r (FR.er 3).p),(71,.v (u32 (BA .or .u32 z 0)))] g1 g2 g3 g4 g5 (CE z 0)⟩
 | ok w =>
  rw [e] at g5;obtain⟨ew,hw⟩:=fa.qf.pt hT e;have cw:FCv w f:=by rw [ew];exact (c1.put t 0 0).trans hpt.symm
  have hp1:(Jt.ins u t i w).p=(Jt.ins u t a f).p:=by show Pf.ins u t i.p=_;rw [q.p];rfl
  cases u
  ·exact .inr ⟨.ins false t i w,_,hp1,λ h=>⟨h,hT,q.ok,s,x',ei,e⟩,cw,hw.sc,hw.shp,hw.c24,(q.bs.or hz1).mono λ v h=>h.imp id λ h=>⟨rfl,h⟩,o6 5 [(23,.r (TR.ok s).q),(31,.r (u32 z1)),(43,.o [3,4] [] (.pv (eA (Fm.q .all s x').y z 0))),(54,.T),(64,.r (FR.ok w).p),(71,.v (u32 (BA .or .u32 z z1)))] g1 g2 g3 g4 g5 (CE z z1)⟩
  ·exact .inr ⟨.ins true t i w,_,hp1,λ h=>⟨h,hT,q.ok,s,x',ei,e⟩,cw,hw.sc,hw.shp,hw.c24,(q.bs.or (II λ _=>False)).mono λ v h=>h.imp id False.elim,o6 5 [(23,.r (TR.ok s).q),(31,.r (u32 z1)),(43,.o [3,4] [] (.pv (eA (Fm.q .allU s x').y z 0))),(54,.T),(64,.r (FR.ok w).p),(71,.v (u32 (BA .or .u32 z 0)))] g1 g2 g3 g4 g5 (CE z 0)⟩
theorem dl {ls:List Fm} {u:Bool} {f:Fm} {t:Tm} {a:Jt} (Ha:KL ls a):RL ls (.ex u f t a):=by
 intro g H hs hp hh hL hc;obtain⟨hfy,h1,s,x,hty,rfl,hpt⟩:=hL;have ht:t.chk=0:=hc.1;have hf:(Fm.q (RE u) s x).chk=0:=hc.2.1;have hm:=zA;have hg:=hp.gl;have hlm:DA=100000:=rfl;obtain⟨e,g1,q1,q2⟩:=FL (.q (RE u) s x) g hp.gs (Fm.chk0 hf).2 (by have:=(Fm.chk0 hf).1;omega);obtain rfl:=q2 (YO hf hfy);have hF:FK g.length (.q (RE u) s x):=⟨(Fm.chk0 hf).1,(Fm.chk0 hf).2,q1 rfl⟩;obtain⟨g2,hT⟩:=JI hp.gs hg ht hty;have g3:=td s hF.qs;rcases MM Ha hp hh h1 hc.2.2 hF.qf hT hpt with ⟨y,z,e,he,g4⟩|⟨i,z,q⟩
 ·exact .inl ⟨.z,0,e,he,by cases u<;>exact o4 5 [(30,.N 0),(44,.r (TR.ok s).q),(54,.T),(69,.o [3,4] [] (.pv (eA y z (e+1))))] g1 g2 g3 g4⟩
 have g4:=q.run;have her:i.f.er=x.er:=(q.cv.trans hpt.symm).er.trans (eG 0 t x 0);have hp1:(Jt.ex u (.q (RE u) s x) t i).p=(Jt.ex u (.q (RE u) s x) t a).p:=by show Pf.ex u _ t i.p=_;rw [q.p];rfl
 cases u
 ·obtain⟨z1,hz1,g5⟩:=hT.a240 (by omega);exact .inr ⟨.ex false (.q .ex s x) t i,_,hp1,λ h=>⟨h,hT,q.ok,⟨s,rfl⟩,her⟩,.refl _,hF.sc,hF.shp,hF.c24,(q.bs.or hz1).mono λ v h=>h.imp id λ h=>⟨rfl,h⟩,o6 5 [(30,.N 0),(44,.r (TR.ok s).q),(54,.T),(69,.o [3,4] [] (.pv (eA i.f.y z 0))),(81,.r (u32 z1)),(82,.v (u32 (BA .or .u32 z z1)))] g1 g2 g3 g4 g5 (CE z z1)⟩
 ·exact .inr ⟨.ex true (.q .exU s x) t i,_,hp1,λ h=>⟨h,hT,q.ok,⟨s,rfl⟩,her⟩,.refl _,hF.sc,hF.shp,hF.c24,(q.bs.or (II λ _=>False)).mono λ v h=>h.imp id False.elim,o5 5 [(30,.N 0),(44,.r (TR.ok s).q),(54,.T),(69,.o [3,4] [] (.pv (eA i.f.y z 0))),(82,.v (u32 (BA .or .u32 z 0)))] g1 g2 g3 g4 (CE z 0)⟩
theorem ml {ls:List Fm} {t:Tm} : RL ls (.refl t):=by
 intro g H hs hp hh hL hc;have hm:=zA;have hg:=hp.gl;obtain⟨_,hT⟩:=JI hp.gs hg hc hL;obtain⟨e,g1,_,q2⟩:=IW g t hp.gs hT.shp (by have:=hT.cnt;omega);obtain rfl:=q2 hL;have c1:=hT.cnt;exact .inr ⟨.refl t,0,rfl,λ h=>⟨hT,h⟩,.refl _,⟨hT.sc,hT.sc⟩,by show (_ && _)=true;rw [hT.shp];rfl,by show 1+t.cnt+t.cnt<=_;omega,II _,o2 5 [(17,.N 0),(24,.r (Fm.eq t t).p)] g1 (jd t t)⟩
theorem nl {ls:List Fm} {f r:Fm} {a b:Jt} (Ha:KL ls a) (Hb:KL ls b):RL ls (.subst f a b r):=by
 intro g H hs hp hh hL hc;obtain⟨hfy,h1,h2,t0,u0,e0,hmt,hpu⟩:=hL;have hm:=zA;have hg:=hp.gl;have hlm:DA=100000:=rfl;have g0:=tP g .nat (by omega) (by decide);obtain⟨g1,hF⟩:=yX hp.gs hg (s:=.nat) (by decide) hc.1 (YO hc.1 hfy);rcases cL Ha hp hh h1 hc.2.1 (k:=1) e0.kd with ⟨y,z,e,he,g2⟩|⟨i,z,q⟩
 ·exact .inl ⟨.z,0,e,he,o4 5 [(20,.Y),(22,.r (VA (g++[.nat]))),(24,.N 0),(36,.o [3,4] [] (.pv (eA y z (e+1))))] iG g0 g1 g2⟩
 obtain⟨t,u,ei,c1,c2⟩:=(q.cv.trans e0).ofEq;have g2:=q.run;have fa:=q.fk;rw [ei] at g2 fa;rcases MM Hb hp hh h2 hc.2.2 hF fa.eq1 ((Ab c1 f).trans hmt) with ⟨y,z',e,he,g3⟩|⟨i',z',q'⟩
 ·exact .inl ⟨.z,0,e,he,o5 5 [(20,.Y),(22,.r (VA (g++[.nat]))),(24,.N 0),(36,.o [3,4] [] (.pv (eA (Fm.eq t u).y z 0))),(56,.o [3,4] [] (.pv (eA y z' (e+1))))] iG g0 g1 g2 g3⟩
 have g3:=q'.run;have g4:=nN hF fa.eq2 (by omega)
 cases e:f.pt u with
 | er n =>
  obtain rfl:=QR e;rw [e] at g4;exact .inl ⟨.z,z',3,L4,o6 5 [(20,.Y),(22,.r (VA (g++[.nat]))),(24,.N 0),(36,.o [3,4] [] (.pv (eA (Fm.eq t u).y z 0))),(56,.o [3,4] [] (.pv (eA i'.f.y z' 0))),(70,.r (FR.er 3).p)] iG g0 g1 g2 g3 g4⟩
 | ok w =>
  rw [e] at g4;obtain⟨ew,hw⟩:=hF.pt fa.eq2 e;exact .inr ⟨.subst f i i' w,z',by show Pf.subst f i.p i'.p=_;rw [q.p,q'.p];rfl,λ h=>⟨h,hF,q.ok,q'.ok,(q'.cv.trans hmt.symm).er.trans (eG 0 t0 f 0),t,u,ei,e⟩,by rw [ew];exact (Ab c2 f).trans hpu.symm,hw.sc,hw.shp,hw.c24,q'.bs,o6 5 [(20,.Y),(22,.r (VA (g++[.nat]))),(24,.N 0),(36,.o [3,4] [] (.pv (eA (Fm.eq t u).y z 0))),(56,.o [3,4] [] (.pv (eA i'.f.y z' 0))),(70,.r (FR.ok w).p)] iG g0 g1 g2 g3 g4⟩
theorem al {ls:List Fm} {a:Jt} {f:Fm} (Ha:KL ls a):RL ls (.p1 .choice a f):=by
 intro g H hs hp hh hL hc;obtain⟨h1,s,u,x0,e0,hf⟩:=hL;have hm:=zA;have hb:=kA;have hg:=hp.gl;have hlm:DA=100000:=rfl;rcases cL Ha hp hh h1 hc (k:=4) e0.kd with ⟨y,z,e,he,g1⟩|⟨i,z,q⟩
 ·exact .inl ⟨.z,0,e,he,o1 5 [(21,.o [3,4] [] (.pv (eA y z (e+1))))] g1⟩
 obtain⟨x1,ei,c1⟩:=(q.cv.trans e0).ofQ;obtain⟨x,rfl,c2⟩:=c1.ofQ;have g1:=q.run;have fa:=q.fk;rw [ei] at g1 fa;have k1:=fa.qf;have k2:=k1.qf;have g3:=KH x 2 1 (by omega) (by have:=k2.cnt;omega) (by have:=k2.mx (by omega);rw [hm];omega);have k3:=k2.sh 2 1;have g5:=nN (n:=g.length+2) (f:=x.sh 2 (.ofNat 1)) (t:=vapp) k3 (bX g.length) (by omega)
 cases e:(x.sh 2 (.ofNat 1)).pt vapp with
 | er n =>
  rw [e] at g5;exact .inl ⟨.z,0,3,L4,o7 5 [(21,.o [3,4] [] (.pv (eA (Fm.q .all s (.q .ex u x)).y z 0))),(43,.r (Ty.two true s u).p),(49,.r (x.sh 2 (.ofNat 1)).p),(50,.r (Tm.v 1).p),(51,.r (Tm.v 0).p),(53,.r vapp.p),(54,.r (FR.er n).p)] g1 (uX s u) g3 (wF 1) (wF 0) (XS (.v 1) (.v 0)) g5⟩
 | ok w =>
  rw [e] at g5;obtain⟨ew,hw⟩:=FK.pt (n:=g.length+2) k3 (bX g.length) e;have hss:=fa.qs;have hus:=k1.qs;have g6:=EW (.two true s u) (by simp only [Ty.size];omega);rcases DW (Ty.two true s u).size 64 with ⟨d1,_,d2⟩|⟨d1,_,d2⟩<;>rw [d2] at g6
  ·have cw:=hw.cnt;have hz:(Ty.two true s u).size<=64:=d1;exact .inr ⟨.p1 .choice i (.q .ex (.two true s u) (.q .all s w)),z,by show Pf.p1 .choice i.p=_;rw [q.p];rfl,λ h=>⟨h,q.ok,s,u,x,ei,w,e,rfl⟩,(FCv.q .ex _ (.q .all s (by rw [ew];exact (c2.sh 2 1).put vapp 0 0))).trans hf.symm,hw.sc,jW hz (jW hss hw.shp),by show 1+(1+w.cnt)<=_;omega,q.bs,o8 5 [(21,.o [3,4] [] (.pv (eA (Fm.q .all s (.q .ex u x)).y z 0))),(43,.r (Ty.two true s u).p),(49,.r (x.sh 2 (.ofNat 1)).p),(50,.r (Tm.v 1).p),(51,.r (Tm.v 0).p),(53,.r vapp.p),(54,.r (FR.ok w).p),(61,.N 0)] g1 (uX s u) g3 (wF 1) (wF 0) (XS (.v 1) (.v 0)) g5 g6⟩
  ·exact .inl ⟨.z,0,3,L4,o8 5 [(21,.o [3,4] [] (.pv (eA (Fm.q .all s (.q .ex u x)).y z 0))),(43,.r (Ty.two true s u).p),(49,.r (x.sh 2 (.ofNat 1)).p),(50,.r (Tm.v 1).p),(51,.r (Tm.v 0).p),(53,.r vapp.p),(54,.r (FR.ok w).p),(61,.N 4)] g1 (uX s u) g3 (wF 1) (wF 0) (XS (.v 1) (.v 0)) g5 g6⟩
theorem Ib {ls:List Fm} (u:Bool) {a b:Jt} {f:Fm} (Ha:KL ls a) (Hb:KL ls b) {g:List Ty} {H:List (Fm × Nat)} {hs:List Fm} (hp:PlOK g H) (hh:HC (vw g.length H) hs) (hca:a.p.ck) (hcb:b.p.ck) (h1:a.L ls g hs) {s:Ty} {x0 y0:Fm} (e0:FCv a.f (.q (RE u) s x0)) (h2:b.L ls (g++[s]) (gA 1 hs++[x0])) (hy:FCv b.f y0) (hy0:y0.occ 0=0) (hf:FCv f y0.low) (hu:u=true->¬b.us 0) :
  KE 181 [] ls (Pf.p2 (ek u) a.p b.p) g H \/ ∃ (i i':Jt) (w:Fm) (x:Fm) (z:Int),i.p=a.p/\i'.p=b.p/\i.f = .q (RE u) s x/\IC i'.f=some w/\i.OK ls g.length (vw g.length H)/\i'.OK ls (g.length+1) (gA 1 (vw g.length H)++[x])/\FCv w f/\w.sc g.length/\w.shp=true/\w.cnt<=16777216/\BS (λ v=>a.us v\/b.us (v+1)) z/\O 181 (OR (Pf.p2 (ek u) a.p b.p) g H []) (xG ls) (.pv (eA w.y z 0)) (xG ls):=by
 have hm:=zA;have hb:=kA;have hg:=hp.gl;have hl:=hp.hl;have hlm:DA=100000:=rfl;rcases cL Ha hp hh h1 hca (k:=(RE u).n) (by rw [e0.kd];cases u<;>rfl) with ⟨y,z,e,he,g1⟩|⟨i,z,q⟩
 ·exact .inl ⟨.z,0,e,he,by cases u<;>exact o1 5 [(27,.o [3,4] [] (.pv (eA y z (e+1))))] g1⟩
 obtain⟨x,ei,c1⟩:=(q.cv.trans e0).ofQ;have g1:=q.run;have fa:=q.fk;rw [ei] at g1 fa;have hsz:=fa.qs;rcases ZO g.length (H.map NB).length 1 1 hg (by simpa using hl) (by decide) (by decide) with ⟨g2,n1,n2⟩|g2;rotate_left
 ·refine .inl ⟨.z,0,2,L3,?_⟩;cases u
  ·exact o2 5 [(27,.o [3,4] [] (.pv (eA (Fm.q .ex s x).y z 0))),(36,.N 3)] g1 g2
  ·exact o2 5 [(27,.o [3,4] [] (.pv (eA (Fm.q .exU s x).y z 0))),(36,.N 3)] g1 g2
 have el:(g++[s]).length=g.length+1:=by simp
 have ev:=DP 1 g.length H λ x hx=>(hp.hs x hx).2
 have hxF:FK (g++[s]).length x:=by rw [el];exact fa.qf
 have hp':=(hp.below1 hsz n1).with hxF (by simpa using n2);have g3:=jX g H s (by omega) (by omega);have g4:=yT (g++[s]) H x (by omega);rcases Hb _ _ (gA 1 hs++[x0]) hp' (by rw [rK,el,ev];exact (hh.up 1).with c1) h2 hcb with ⟨y,z',e,he,g5⟩|⟨i',z',q'⟩
 ·refine .inl ⟨.z,0,e,he,?_⟩;cases u
  ·exact o5 5 [(27,.o [3,4] [] (.pv (eA (Fm.q .ex s x).y z 0))),(36,.N 0),(52,.r (XA (g++[s]) H)),(58,.r (XA (g++[s]) (H++[(x,(g++[s]).length)]))),(59,.o [3,4] [] (.pv (eA y z' (e+1))))] g1 g2 g3 g4 g5
  ·exact o5 5 [(27,.o [3,4] [] (.pv (eA (Fm.q .exU s x).y z 0))),(36,.N 0),(52,.r (XA (g++[s]) H)),(58,.r (XA (g++[s]) (H++[(x,(g++[s]).length)]))),(59,.o [3,4] [] (.pv (eA y z' (e+1))))] g1 g2 g3 g4 g5
 have g5:=q'.run;have fb:=q'.fk;have hok:=q'.ok;rw [rK,el,ev] at hok;rw [el] at fb;rcases Uk fb (by omega) (q'.cv.trans hy) hy0 with ⟨n,hn,g6⟩|⟨w,g6,cw,hw⟩
 ·refine .inl ⟨.z,0,n,hn,?_⟩;cases u
  ·exact o6 5 [(27,.o [3,4] [] (.pv (eA (Fm.q .ex s x).y z 0))),(36,.N 0),(52,.r (XA (g++[s]) H)),(58,.r (XA (g++[s]) (H++[(x,(g++[s]).length)]))),(59,.o [3,4] [] (.pv (eA i'.f.y z' 0))),(69,.r (FR.er n).p)] g1 g2 g3 g4 g5 g6
  ·exact o6 5 [(27,.o [3,4] [] (.pv (eA (Fm.q .exU s x).y z 0))),(36,.N 0),(52,.r (XA (g++[s]) H)),(58,.r (XA (g++[s]) (H++[(x,(g++[s]).length)]))),(59,.o [3,4] [] (.pv (eA i'.f.y z' 0))),(69,.r (FR.er n).p)] g1 g2 g3 g4 g5 g6
 obtain⟨w1,w2,w3⟩:=wX fb (by omega) hw;obtain⟨z'',hz'',g7⟩:=kT z' 1 (by decide) q'.bs;refine .inr ⟨i,i',w,x,_,q.p,q'.p,ei,hw,q.ok,hok,cw.trans hf.symm,w1,w2,w3,q.bs.or hz'',?_⟩;cases u
 ·exact o8 5 [(27,.o [3,4] [] (.pv (eA (Fm.q .ex s x).y z 0))),(36,.N 0),(52,.r (XA (g++[s]) H)),(58,.r (XA (g++[s]) (H++[(x,(g++[s]).length)]))),(59,.o [3,4] [] (.pv (eA i'.f.y z' 0))),(69,.r (FR.ok w).p),(89,.r (u32 z'')),(90,.v (u32 (BA .or .u32 z z'')))] g1 g2 g3 g4 g5 g6 g7 (CE z z'')
 ·have e:(!tB (BA .and .u32 z' 1) 0)=false:=by rw [q'.bs.and1 (hu rfl)];rfl
  exact zC 5 [(27,.o [3,4] [] (.pv (eA (Fm.q .exU s x).y z 0))),(36,.N 0),(52,.r (XA (g++[s]) H)),(58,.r (XA (g++[s]) (H++[(x,(g++[s]).length)]))),(59,.o [3,4] [] (.pv (eA i'.f.y z' 0))),(69,.r (FR.ok w).p),(80,.v (u32 (BA .and .u32 z' 1))),(81,.H),(89,.r (u32 z'')),(90,.v (u32 (BA .or .u32 z z'')))] g1 g2 g3 g4 g5 g6 (zX z' 1) e g7 (CE z z'')
theorem il {ls:List Fm} {a b:Jt} {f:Fm} (Ha:KL ls a) (Hb:KL ls b):RL ls (.p2 .exE a b f):=by
 intro g H hs hp hh hL hc;obtain⟨h1,s,x0,y0,e0,h2,hy,hy0,hf⟩:=hL;rcases Ib false Ha Hb hp hh hc.1 hc.2 h1 e0 h2 hy hy0 hf (λ h=>nomatch h) with h|⟨i,i',w,x,z,p1,p2,ei,hw,o1,o2,cw,w1,w2,w3,hz,g1⟩
 ·exact .inl h
 ·exact .inr ⟨.p2 .exE i i' w,z,by show Pf.p2 .exE i.p i'.p=_;rw [p1,p2];rfl,λ h=>⟨h,o1,by rw [ei];exact o2,⟨s,by rw [ei];rfl⟩,hw⟩,cw,w1,w2,w3,hz,g1⟩
theorem ol {ls:List Fm} {a b:Jt} {f:Fm} (Ha:KL ls a) (Hb:KL ls b):RL ls (.p2 .exUE a b f):=by
 intro g H hs hp hh hL hc;obtain⟨h1,⟨s,x0,y0,e0,h2,hy,hy0,hf⟩,hu⟩:=hL;rcases Ib true Ha Hb hp hh hc.1 hc.2 h1 e0 h2 hy hy0 hf (λ _=>hu) with h|⟨i,i',w,x,z,p1,p2,ei,hw,o1,o2,cw,w1,w2,w3,hz,g1⟩
 ·exact .inl h
 ·exact .inr ⟨.p2 .exUE i i' w,z,by show Pf.p2 .exUE i.p i'.p=_;rw [p1,p2];rfl,λ h=>⟨h,o1,by rw [ei];exact o2,⟨s,by rw [ei];rfl⟩,hw⟩,cw,w1,w2,w3,hz,g1⟩
open Go.Lg
theorem xl {ls:List Fm} {f r:Fm} {t:Tm} {a b:Jt} (Ha:KL ls a) (Hb:KL ls b):RL ls (.ind false f t a b r):=by
 intro g H hs hp hh hL hc;obtain⟨hfy,hty,⟨h1,hma⟩,⟨h2,hmb⟩,hpt⟩:=hL;have hm:=zA;have hb:=kA;have hg:=hp.gl;have hl:=hp.hl;have hlm:DA=100000:=rfl;have g0:=tP g .nat (by omega) (by decide);obtain⟨g1,hF⟩:=yX hp.gs hg (s:=.nat) (by decide) hc.2.1 (YO hc.2.1 hfy);obtain⟨_,hT⟩:=JI hp.gs hg hc.1 hty;obtain⟨e,g2,_,q2⟩:=HW g t 1 hp.gs hT.shp (by have:=hT.cnt;omega);obtain rfl:=q2 _ hty rfl;rcases MM Ha hp hh h1 hc.2.2.1 hF (od .zero g.length) hma with ⟨y,z,e,he,g3⟩|⟨i,z,q⟩
 ·exact .inl ⟨.z,0,e,he,o5 5 [(29,.r rN),(36,.r (VA (g++[.nat]))),(38,.N 0),(48,.N 0),(63,.o [3,4] [] (.pv (eA y z (e+1))))] EP g0 g1 g2 g3⟩
 have g3:=q.run;rcases ZO g.length (H.map NB).length 1 1 hg (by simpa using hl) (by decide) (by decide) with ⟨g4,n1,n2⟩|g4;rotate_left
 ·exact .inl ⟨.z,0,2,L3,o6 5 [(29,.r rN),(36,.r (VA (g++[.nat]))),(38,.N 0),(48,.N 0),(63,.o [3,4] [] (.pv (eA i.f.y z 0))),(75,.N 3)] EP g0 g1 g2 g3 g4⟩
 have el2:(g++[Ty.nat]).length=g.length+1:=by simp
 have ev:=DP 1 g.length H λ x hx=>(hp.hs x hx).2
 have hx:FK (g++[Ty.nat]).length f:=by rw [el2];exact hF
 have hp':=(hp.below1 (s:=.nat) (by decide) n1).with hx (by simpa using n2);have g5:=jX g H .nat (by omega) (by decide);have g6:A 250 [f.p,num 1,num 0] f.p:=by have:=KH f 1 0 (by omega) (by have:=hF.cnt;omega) (by have:=hF.mx (by omega);rw [hm];omega);rwa [eP] at this
 have g7:=yT (g++[Ty.nat]) H f (by omega);have g8:=KH f 1 1 (by omega) (by have:=hF.cnt;omega) (by have:=hF.mx (by omega);rw [hm];omega);have hn:FK ((g++[Ty.nat]).length+1) (f.sh 1 (.ofNat 1)):=by rw [el2];exact hF.sh 1 1
 rcases MM (hs:=gA 1 hs++[f]) Hb hp' (by rw [rK,el2,ev];exact (hh.up 1).with (.refl _)) h2 hc.2.2.2 hn (by rw [el2];exact Ko g.length) hmb with ⟨y,z',e,he,g9⟩|⟨i',z',q'⟩
 ·exact .inl ⟨.z,0,e,he,bH 5 [(29,.r rN),(36,.r (VA (g++[.nat]))),(38,.N 0),(48,.N 0),(63,.o [3,4] [] (.pv (eA i.f.y z 0))),(75,.N 0),(83,.r (XA (g++[Ty.nat]) H)),(89,.r f.p),(90,.r (XA (g++[Ty.nat]) (H++[(f,(g++[Ty.nat]).length)]))),(102,.r (f.sh 1 (.ofNat 1)).p),(105,.o [3,4] [] (.pv (eA y z' (e+1))))] EP g0 g1 g2 g3 g4 g5 g6 g7 g8 g9⟩
 have g9:=q'.run;have hok:=q'.ok;rw [rK,el2,ev] at hok;obtain⟨z1,hz1,g10⟩:=hT.a240 (by omega);obtain⟨z2,hz2,g11⟩:=kT z' 1 (by decide) q'.bs;have g12:=nN hF hT (by omega);have o1':=CE z1 z;have o2':=CE (BA .or .u32 z1 z) z2
 cases e:f.pt t with
 | er n =>
  obtain rfl:=QR e;rw [e] at g12;exact .inl ⟨.z,BA .or .u32 (BA .or .u32 z1 z) z2,3,L4,GP 5 [(29,.r rN),(36,.r (VA (g++[.nat]))),(38,.N 0),(48,.N 0),(63,.o [3,4] [] (.pv (eA i.f.y z 0))),(75,.N 0),(83,.r (XA (g++[Ty.nat]) H)),(89,.r f.p),(90,.r (XA (g++[Ty.nat]) (H++[(f,(g++[Ty.nat]).length)]))),(102,.r (f.sh 1 (.ofNat 1)).p),(105,.o [3,4] [] (.pv (eA i'.f.y z' 0))),(115,.r (FR.er 3).p),(120,.r (u32 z1)),(123,.v (u32 (BA .or .u32 z1 z))),(129,.r (u32 z2)),(130,.v (u32 (BA .or .u32 (BA .or .u32 z1 z) z2)))] EP g0 g1 g2 g3 g4 g5 g6 g7 g8 g9 g12 g10 o1' g11 o2'⟩
 | ok w =>
  rw [e] at g12;obtain⟨ew,hw⟩:=hF.pt hT e;exact .inr ⟨.ind false f t i i' w,_,by show Pf.ind false f t i.p i'.p=_;rw [q.p,q'.p];rfl,λ h=>⟨h,hF,hT,q.ok,e,⟨(q.cv.trans hma.symm).er.trans (eG 0 _ f 0),(q'.cv.trans hmb.symm).er.trans ((eG 0 _ _ 0).trans (oE _ f 1))⟩,hok⟩,by rw [ew];exact hpt.symm,hw.sc,hw.shp,hw.c24,((hz1.or q.bs).or hz2).mono λ v h=>or_assoc.1 h,GP 5 [(29,.r rN),(36,.r (VA (g++[.nat]))),(38,.N 0),(48,.N 0),(63,.o [3,4] [] (.pv (eA i.f.y z 0))),(75,.N 0),(83,.r (XA (g++[Ty.nat]) H)),(89,.r f.p),(90,.r (XA (g++[Ty.nat]) (H++[(f,(g++[Ty.nat]).length)]))),(102,.r (f.sh 1 (.ofNat 1)).p),(105,.o [3,4] [] (.pv (eA i'.f.y z' 0))),(115,.r (FR.ok w).p),(120,.r (u32 z1)),(123,.v (u32 (BA .or .u32 z1 z))),(129,.r (u32 z2)),(130,.v (u32 (BA .or .u32 (BA .or .u32 z1 z) z2)))] EP g0 g1 g2 g3 g4 g5 g6 g7 g8 g9 g12 g10 o1' g11 o2'⟩
theorem Al {ls:List Fm} {f r:Fm} {t:Tm} {a b:Jt} (Ha:KL ls a) (Hb:KL ls b):RL ls (.ind true f t a b r):=by
 intro g H hs hp hh hL hc;obtain⟨hfy,hty,⟨h1,hma⟩,⟨h2,hmb⟩,hpt⟩:=hL;have hm:=zA;have hb:=kA;have hg:=hp.gl;have hl:=hp.hl;have hlm:DA=100000:=rfl;have g0:=tP g .list (by omega) (by decide);obtain⟨g1,hF⟩:=yX hp.gs hg (s:=.list) (by decide) hc.2.1 (YO hc.2.1 hfy);obtain⟨_,hT⟩:=JI hp.gs hg hc.1 hty;obtain⟨e,g2,_,q2⟩:=HW g t 2 hp.gs hT.shp (by have:=hT.cnt;omega);obtain rfl:=q2 _ hty rfl;rcases MM Ha hp hh h1 hc.2.2.1 hF (od .nil g.length) hma with ⟨y,z,e,he,g3⟩|⟨i,z,q⟩
 ·exact .inl ⟨.z,0,e,he,o5 5 [(29,.r sN),(36,.r (VA (g++[.list]))),(38,.N 0),(48,.N 0),(63,.o [3,4] [] (.pv (eA y z (e+1))))] FP g0 g1 g2 g3⟩
 have g3:=q.run;rcases ZO g.length (H.map NB).length 2 1 hg (by simpa using hl) (by decide) (by decide) with ⟨g4,n1,n2⟩|g4;rotate_left
 ·exact .inl ⟨.z,0,2,L3,o6 5 [(29,.r sN),(36,.r (VA (g++[.list]))),(38,.N 0),(48,.N 0),(63,.o [3,4] [] (.pv (eA i.f.y z 0))),(75,.N 3)] FP g0 g1 g2 g3 g4⟩
 have el2:(g++[Ty.nat,.list]).length=g.length+2:=by simp
 have ev:=DP 2 g.length H λ x hx=>(hp.hs x hx).2
 have hx:FK (g++[Ty.nat,.list]).length (f.sh 1 (.ofNat 1)):=by rw [el2];exact hF.sh 1 1
 have hp':=(hp.below2 (s:=.nat) (u:=.list) (by decide) (by decide) n1).with hx (by simpa using n2);have g5:=Co g H .nat .list (by omega) (by decide) (by decide);have g6:A 250 [f.p,num 1,num 1] (f.sh 1 (.ofNat 1)).p:=KH f 1 1 (by omega) (by have:=hF.cnt;omega) (by have:=hF.mx (by omega);rw [hm];omega);have g7:=yT (g++[Ty.nat,.list]) H (f.sh 1 (.ofNat 1)) (by omega);have g8:=KH f 1 2 (by omega) (by have:=hF.cnt;omega) (by have:=hF.mx (by omega);rw [hm];omega);have hn:FK ((g++[Ty.nat,.list]).length+1) (f.sh 1 (.ofNat 2)):=by rw [el2];have:=hF.sh 1 2;rwa [show g.length+1+2=g.length+2+1 by omega] at this
 rcases MM (hs:=gA 2 hs++[(f.sh 1 (.ofNat 1))]) Hb hp' (by rw [rK,el2,ev];exact (hh.up 2).with (.refl _)) h2 hc.2.2.2 hn (by rw [el2];exact Lo g.length) hmb with ⟨y,z',e,he,g9⟩|⟨i',z',q'⟩
 ·exact .inl ⟨.z,0,e,he,bH 5 [(29,.r sN),(36,.r (VA (g++[.list]))),(38,.N 0),(48,.N 0),(63,.o [3,4] [] (.pv (eA i.f.y z 0))),(75,.N 0),(83,.r (XA (g++[Ty.nat,.list]) H)),(89,.r (f.sh 1 (.ofNat 1)).p),(90,.r (XA (g++[Ty.nat,.list]) (H++[((f.sh 1 (.ofNat 1)),(g++[Ty.nat,.list]).length)]))),(102,.r (f.sh 1 (.ofNat 2)).p),(105,.o [3,4] [] (.pv (eA y z' (e+1))))] FP g0 g1 g2 g3 g4 g5 g6 g7 g8 g9⟩
 have g9:=q'.run;have hok:=q'.ok;rw [rK,el2,ev] at hok;obtain⟨z1,hz1,g10⟩:=hT.a240 (by omega);obtain⟨z2,hz2,g11⟩:=kT z' 2 (by decide) q'.bs;have g12:=nN hF hT (by omega);have o1':=CE z1 z;have o2':=CE (BA .or .u32 z1 z) z2
 cases e:f.pt t with
 | er n =>
  obtain rfl:=QR e;rw [e] at g12;exact .inl ⟨.z,BA .or .u32 (BA .or .u32 z1 z) z2,3,L4,GP 5 [(29,.r sN),(36,.r (VA (g++[.list]))),(38,.N 0),(48,.N 0),(63,.o [3,4] [] (.pv (eA i.f.y z 0))),(75,.N 0),(83,.r (XA (g++[Ty.nat,.list]) H)),(89,.r (f.sh 1 (.ofNat 1)).p),(90,.r (XA (g++[Ty.nat,.list]) (H++[((f.sh 1 (.ofNat 1)),(g++[Ty.nat,.list]).length)]))),(102,.r (f.sh 1 (.ofNat 2)).p),(105,.o [3,4] [] (.pv (eA i'.f.y z' 0))),(115,.r (FR.er 3).p),(120,.r (u32 z1)),(123,.v (u32 (BA .or .u32 z1 z))),(129,.r (u32 z2)),(130,.v (u32 (BA .or .u32 (BA .or .u32 z1 z) z2)))] FP g0 g1 g2 g3 g4 g5 g6 g7 g8 g9 g12 g10 o1' g11 o2'⟩
 | ok w =>
  rw [e] at g12;obtain⟨ew,hw⟩:=hF.pt hT e;exact .inr ⟨.ind true f t i i' w,_,by show Pf.ind true f t i.p i'.p=_;rw [q.p,q'.p];rfl,λ h=>⟨h,hF,hT,q.ok,e,⟨(q.cv.trans hma.symm).er.trans (eG 0 _ f 0),(q'.cv.trans hmb.symm).er.trans ((eG 0 _ _ 0).trans (oE _ f 1))⟩,hok⟩,by rw [ew];exact hpt.symm,hw.sc,hw.shp,hw.c24,((hz1.or q.bs).or hz2).mono λ v h=>or_assoc.1 h,GP 5 [(29,.r sN),(36,.r (VA (g++[.list]))),(38,.N 0),(48,.N 0),(63,.o [3,4] [] (.pv (eA i.f.y z 0))),(75,.N 0),(83,.r (XA (g++[Ty.nat,.list]) H)),(89,.r (f.sh 1 (.ofNat 1)).p),(90,.r (XA (g++[Ty.nat,.list]) (H++[((f.sh 1 (.ofNat 1)),(g++[Ty.nat,.list]).length)]))),(102,.r (f.sh 1 (.ofNat 2)).p),(105,.o [3,4] [] (.pv (eA i'.f.y z' 0))),(115,.r (FR.ok w).p),(120,.r (u32 z1)),(123,.v (u32 (BA .or .u32 z1 z))),(129,.r (u32 z2)),(130,.v (u32 (BA .or .u32 (BA .or .u32 z1 z) z2)))] FP g0 g1 g2 g3 g4 g5 g6 g7 g8 g9 g12 g10 o1' g11 o2'⟩
theorem DC {ls:List Fm} (hl:∀ f∈ls,FK 0 f):∀ j:Jt,KL ls j
 | .leaf false i f=>kl _ Xk
 | .leaf true i f=>kl _ (Yk hl)
 | .refl t=>kl _ ml
 | .p1 .andL a f=>kl _ (ql (DC hl a))
 | .p1 .andR a f=>kl _ (zl (DC hl a))
 | .p1 .choice a f=>kl _ (al (DC hl a))
 | .p2 .andI a b f=>kl _ (Zk (DC hl a) (DC hl b))
 | .p2 .impE a b f=>kl _ (yl (DC hl a) (DC hl b))
 | .p2 .exE a b f=>kl _ (il (DC hl a) (DC hl b))
 | .p2 .exUE a b f=>kl _ (ol (DC hl a) (DC hl b))
 | .impI f a=>kl _ (jl (DC hl a))
 | .all u s a=>kl _ (ul (DC hl a))
 | .ins u t a f=>kl _ (bl (DC hl a))
 | .ex u f t a=>kl _ (dl (DC hl a))
 | .ind false f t a b r=>kl _ (xl (DC hl a) (DC hl b))
 | .ind true f t a b r=>kl _ (Al (DC hl a) (DC hl b))
 | .subst f a b r=>kl _ (nl (DC hl a) (DC hl b))
end Go.Proofs.YtnkoaepelgbhfaaGreatDoor
