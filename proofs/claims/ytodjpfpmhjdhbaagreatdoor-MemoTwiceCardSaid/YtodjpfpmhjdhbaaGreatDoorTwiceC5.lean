/- Contracts of functions; no conditions. -/
import Derived.Test.YtodjpfpmhjdhbaaGreatDoorTwiceC4
import Derived.Test.YtodjpfpmhjdhbaaGreatDoorTwiceC1
set_option linter.all false
namespace Go.Proofs.YtodjpfpmhjdhbaaGreatDoor
open Go.Lg
structure PL (m:Mk):Prop where
 two:∀ p∈m.places,∃ A,m.code[p]? = some (2,A)
 nd:m.places.Nodup
theorem PL.emit {m:Mk} (h:PL m) (a b:Nat):PL (m.emit a b) :=
 ⟨fun p hp=>by
  obtain⟨A,hA⟩:=h.two p hp
  obtain⟨A',h',-⟩:=emit_ext m a b p 2 A hA
  exact⟨A',h'⟩,h.nd⟩
theorem blk_PL (t:Tm):∀ m:Mk,PL m→PL (blkT t m):=by
 induction t with
 | var i=>intro m h;exact h.emit _ _
 | zero=>intro m h;exact h.emit _ _
 | nil=>intro m h;exact h.emit _ _
 | unit=>intro m h;exact h.emit _ _
 | lam s b ih =>
  intro m h
  refine⟨?_,?_⟩
  ·intro p hp
   simp only [blkT,List.mem_append,List.mem_singleton] at hp ⊢
   rcases hp with hp|rfl
   ·obtain⟨A,hA⟩:=h.two p hp
    exact⟨A,by rw [List.getElem?_append_left (List.getElem?_eq_some_iff.1 hA).1];exact hA⟩
   ·exact⟨0,by simp⟩
  ·simp only [blkT]
   rw [List.nodup_append]
   refine⟨h.nd,by simp,?_⟩
   intro a ha b hb e
   simp only [List.mem_singleton] at hb
   subst e hb
   obtain⟨A,hA⟩:=h.two _ ha
   have:=(List.getElem?_eq_some_iff.1 hA).1
   omega
 | succ a i=>intro m h;exact (i m h).emit _ _
 | fst a i=>intro m h;exact (i m h).emit _ _
 | snd a i=>intro m h;exact (i m h).emit _ _
 | app a b i j=>intro m h;exact (j _ (i m h)).emit _ _
 | cons a b i j=>intro m h;exact (j _ (i m h)).emit _ _
 | pair a b i j=>intro m h;exact (j _ (i m h)).emit _ _
 | recn s a b c i j k=>intro m h;exact (k _ (j _ (i m h))).emit _ _
 | fold s a b c i j k=>intro m h;exact (k _ (j _ (i m h))).emit _ _
structure KC (t:Tm) (i:Nat) (m:Mk):Prop where
 len:m.places.length=m.bodies.length
 top:SA m.code m.prs t 0 (inl t)∧m.code[inl t]? = some (14,0)
 pl:PL m
 done:∀ j,j<i→∀ p b,m.places[j]? = some p→m.bodies[j]? = some b→∃ A e,m.code[p]? = some (2,A)∧SA m.code m.prs b A e∧m.code[e]? = some (14,0)
theorem KC.start (t:Tm):KC t 0 (begC t):=by
 have h:=blk_SA t ⟨[],[],[]⟩ rfl
 have hl:=blk_codelen t ⟨[],[],[]⟩
 simp only [List.length_nil,Nat.zero_add] at h hl
 refine⟨blk_len t ⟨[],[],[]⟩ rfl,⟨?_,?_⟩,(blk_PL t ⟨[],[],[]⟩ ⟨by simp,by simp⟩).emit _ _,fun j hj=>by omega⟩
 ·rw [hl] at h
  exact h.mono (emit_ext _ _ _) (fun x hx=>hx)
 ·have:=emit_last (blkT t ⟨[],[],[]⟩) 14 0
  rw [hl] at this
  exact this
theorem KC.next {t:Tm} {i:Nat} {m:Mk} (h:KC t i m) (hi:i<m.bodies.length):KC t (i+1) (stepC m i):=by
 obtain⟨b,hb⟩:∃ b,m.bodies[i]? = some b:=⟨_,List.getElem?_eq_getElem hi⟩
 obtain⟨p,hp⟩:∃ p,m.places[i]? = some p:=⟨_,List.getElem?_eq_getElem (by rw [h.len];exact hi)⟩
 have hbd:m.bodies.getD i .unit=b:=by simp [List.getD,hb]
 have hpd:m.places.getD i 0=p:=by simp [List.getD,hp]
 obtain⟨A0,hA0⟩:=h.pl.two p (List.mem_of_getElem? hp)
 have hpl:p<m.code.length:=(List.getElem?_eq_some_iff.1 hA0).1
 have hpatch:m.patch p=⟨m.code.set p (2,m.code.length),m.bodies,m.places⟩:=by
  unfold Mk.patch
  have:m.code.getD p (0,0)=(2,A0):=by simp [List.getD,hA0]
  rw [this]
 have hst:stepC m i=(blkT b ⟨m.code.set p (2,m.code.length),m.bodies,m.places⟩).emit 14 0:=by
  unfold stepC
  rw [hbd,hpd,hpatch]
 generalize hm1:(⟨m.code.set p (2,m.code.length),m.bodies,m.places⟩:Mk)=m1 at *
 have c1:m1.code=m.code.set p (2,m.code.length):=by rw [← hm1]
 have b1:m1.bodies=m.bodies:=by rw [← hm1]
 have q1:m1.places=m.places:=by rw [← hm1]
 have pr1:m1.prs=m.prs:=by rw [Mk.prs,b1,q1];rfl
 have l1:m1.places.length=m1.bodies.length:=by rw [b1,q1];exact h.len
 have e1:Ext m.code m1.code:=by rw [c1];exact .set ⟨A0,hA0⟩
 have p1:PL m1:=⟨fun p hp=>by
  rw [q1] at hp
  obtain⟨A,hA⟩:=h.pl.two p hp
  obtain⟨A',h',-⟩:=e1 p 2 A hA
  exact⟨A',h'⟩,by rw [q1];exact h.pl.nd⟩
 have e2:Ext m1.code (stepC m i).code:=by
  rw [hst]
  exact (Ext.pre (blk_code b m1)).trans (emit_ext _ _ _)
 have x2:∀ (k:Nat) (v:Ins),m1.code[k]? = some v→(stepC m i).code[k]? = some v:=by
  intro k v hk
  have hpre:m1.code <+: (stepC m i).code:=by
   rw [hst]
   exact (blk_code b m1).trans (by simp [Mk.emit])
  obtain⟨d,hd⟩:=hpre
  rw [← hd,List.getElem?_append_left (List.getElem?_eq_some_iff.1 hk).1]
  exact hk
 have pr2:∀ x∈m.prs,x∈(stepC m i).prs:=by
  intro x hx
  rw [hst,emit_prs]
  exact blk_prs b m1 l1 x (by rw [pr1];exact hx)
 have hlen2:(stepC m i).places.length=(stepC m i).bodies.length:=by
  rw [hst]
  exact blk_len b m1 l1
 have hbods:(stepC m i).bodies=m.bodies++bods b:=by
  rw [hst]
  show (blkT b m1).bodies=_
  rw [blk_bodies,b1]
 have hplc:∃ ps,(stepC m i).places=m.places++ps:=by
  have key:∀ (t:Tm) (m:Mk),∃ ps,(blkT t m).places=m.places++ps:=by
   intro t
   induction t with
   | var i=>intro m;exact⟨[],by simp [blkT,Mk.emit]⟩
   | zero=>intro m;exact⟨[],by simp [blkT,Mk.emit]⟩
   | nil=>intro m;exact⟨[],by simp [blkT,Mk.emit]⟩
   | unit=>intro m;exact⟨[],by simp [blkT,Mk.emit]⟩
   | lam s b ih=>intro m;exact⟨[m.code.length],rfl⟩
   | succ a i=>intro m;exact i m
   | fst a i=>intro m;exact i m
   | snd a i=>intro m;exact i m
   | app a b i j=>intro m;obtain⟨x,hx⟩:=i m;obtain⟨y,hy⟩:=j (blkT a m);exact⟨x++y,by simp only [blkT,Mk.emit,hy,hx,List.append_assoc]⟩
   | cons a b i j=>intro m;obtain⟨x,hx⟩:=i m;obtain⟨y,hy⟩:=j (blkT a m);exact⟨x++y,by simp only [blkT,Mk.emit,hy,hx,List.append_assoc]⟩
   | pair a b i j=>intro m;obtain⟨x,hx⟩:=i m;obtain⟨y,hy⟩:=j (blkT a m);exact⟨x++y,by simp only [blkT,Mk.emit,hy,hx,List.append_assoc]⟩
   | recn s a b c i j k=>intro m;obtain⟨x,hx⟩:=i m;obtain⟨y,hy⟩:=j (blkT a m);obtain⟨z,hz⟩:=k (blkT b (blkT a m));exact⟨x++y++z,by simp only [blkT,Mk.emit,hz,hy,hx,List.append_assoc]⟩
   | fold s a b c i j k=>intro m;obtain⟨x,hx⟩:=i m;obtain⟨y,hy⟩:=j (blkT a m);obtain⟨z,hz⟩:=k (blkT b (blkT a m));exact⟨x++y++z,by simp only [blkT,Mk.emit,hz,hy,hx,List.append_assoc]⟩
  obtain⟨ps,hps⟩:=key b m1
  exact⟨ps,by rw [hst];show (blkT b m1).places=_;rw [hps,q1]⟩
 obtain⟨ps,hps⟩:=hplc
 have e12:=e1.trans e2
 refine⟨hlen2,⟨h.top.1.mono e12 pr2,e12.get (by decide) h.top.2⟩,by rw [hst];exact (blk_PL b m1 p1).emit _ _,?_⟩
 intro j hj p' b' hp' hb'
 have hjl:j<m.bodies.length:=by omega
 rw [hbods,List.getElem?_append_left hjl] at hb'
 rw [hps,List.getElem?_append_left (by rw [h.len];exact hjl)] at hp'
 by_cases e:j=i
 ·subst e
  rw [hb] at hb'
  rw [hp] at hp'
  cases hb'
  cases hp'
  refine⟨m.code.length,(blkT b m1).code.length,?_,?_,?_⟩
  ·refine x2 _ _ ?_
   rw [c1,List.getElem?_set_self hpl]
  ·have:=blk_SA b m1 l1
   have hl:m1.code.length=m.code.length:=by rw [c1];simp
   rw [hl] at this
   rw [hst]
   exact this.mono (emit_ext _ _ _) (fun x hx=>hx)
  ·rw [hst]
   exact emit_last _ _ _
 ·obtain⟨A,e',h1,h2,h3⟩:=h.done j (by omega) p' b' hp' hb'
  refine⟨A,e',x2 _ _ ?_,h2.mono e12 pr2,e12.get (by decide) h3⟩
  have hne:p≠p':=by
   rintro rfl
   have hj':j<m.places.length:=by rw [h.len];exact hjl
   have hi':i<m.places.length:=by rw [h.len];exact hi
   rw [List.getElem?_eq_getElem hj'] at hp'
   rw [List.getElem?_eq_getElem hi'] at hp
   have h1:=Option.some.inj hp'
   have h2:=Option.some.inj hp
   exact e ((List.getElem_inj h.pl.nd).1 (h1.trans h2.symm))
  rw [c1,List.getElem?_set_ne hne]
  exact h1
theorem KC.fin {t:Tm} {fin:Mk} {S:Nat} : ∀ (n i:Nat) (m:Mk),pend m i≤n→JC fin S i m→KC t i m→KC t fin.bodies.length fin:=by
 intro n
 induction n with
 | zero =>
  intro i m hn hj hk
  obtain⟨k,-,hr⟩:=hj.run
  have hi:¬ i<m.bodies.length:=by
   intro hi
   have:=(hj.next hi).2
   omega
  have:runC k i m=m:=by
   cases k with
   | zero=>rfl
   | succ k=>simp [runC,hi]
  have hle:=hj.le
  have e:i=m.bodies.length:=by omega
  rw [← hr,this,← e]
  exact hk
 | succ n ih =>
  intro i m hn hj hk
  by_cases hi:i<m.bodies.length
  ·have:=hj.next hi
   exact ih (i+1) (stepC m i) (by omega) this.1 (hk.next hi)
  ·obtain⟨k,-,hr⟩:=hj.run
   have:runC k i m=m:=by
    cases k with
    | zero=>rfl
    | succ k=>simp [runC,hi]
   have hle:=hj.le
   have e:i=m.bodies.length:=by omega
   rw [← hr,this,← e]
   exact hk
theorem SA.full {c:List Ins} {L:List (Nat × Tm)} (hL:∀ x∈L,∃ A e,c[x.1]? = some (2,A)∧SA c L x.2 A e∧c[e]? = some (14,0)):∀ (n:Nat) {t:Tm} {p q:Nat},t.size≤n→SA c L t p q→TA c t p q:=by
 intro n
 induction n with
 | zero=>intro t p q hn h;have:=t.size_eq;omega
 | succ n ih =>
  intro t p q hn h
  cases t with
  | var i=>exact h
  | lam s b =>
   obtain⟨⟨⟨A,hA⟩,hm⟩,e⟩:=h
   obtain⟨A',e',h1,h2,h3⟩:=hL _ hm
   simp only at h1 h2
   refine⟨⟨A',e',h1,ih ?_ h2,h3⟩,e⟩
   simp [Tm.size] at hn;omega
  | zero=>exact h
  | nil=>exact h
  | unit=>exact h
  | app a b=>obtain⟨m,k,h1,h2,h3⟩:=h;exact⟨m,k,ih (by simp [Tm.size] at hn;omega) h1,ih (by simp [Tm.size] at hn;omega) h2,h3⟩
  | cons a b=>obtain⟨m,k,h1,h2,h3⟩:=h;exact⟨m,k,ih (by simp [Tm.size] at hn;omega) h1,ih (by simp [Tm.size] at hn;omega) h2,h3⟩
  | pair a b=>obtain⟨m,k,h1,h2,h3⟩:=h;exact⟨m,k,ih (by simp [Tm.size] at hn;omega) h1,ih (by simp [Tm.size] at hn;omega) h2,h3⟩
  | succ a=>obtain⟨m,h1,h2⟩:=h;exact⟨m,ih (by simp [Tm.size] at hn;omega) h1,h2⟩
  | fst a=>obtain⟨m,h1,h2⟩:=h;exact⟨m,ih (by simp [Tm.size] at hn;omega) h1,h2⟩
  | snd a=>obtain⟨m,h1,h2⟩:=h;exact⟨m,ih (by simp [Tm.size] at hn;omega) h1,h2⟩
  | recn s a b c=>obtain⟨k,m,l,h1,h2,h3,h4⟩:=h;exact⟨k,m,l,ih (by simp [Tm.size] at hn;omega) h1,ih (by simp [Tm.size] at hn;omega) h2,ih (by simp [Tm.size] at hn;omega) h3,h4⟩
  | fold s a b c=>obtain⟨k,m,l,h1,h2,h3,h4⟩:=h;exact⟨k,m,l,ih (by simp [Tm.size] at hn;omega) h1,ih (by simp [Tm.size] at hn;omega) h2,ih (by simp [Tm.size] at hn;omega) h3,h4⟩
theorem fin_TA (t:Tm):TA (finC t).code t 0 (inl t)∧(finC t).code[inl t]? = some (14,0):=by
 have hk:=KC.fin (pend (begC t) 0) 0 (begC t) (Nat.le_refl _) (JC.start t) (KC.start t)
 refine⟨SA.full ?_ t.size (Nat.le_refl _) hk.top.1,hk.top.2⟩
 rintro⟨p,b⟩ hx
 obtain⟨j,hj⟩:=List.mem_iff_getElem?.1 hx
 unfold Mk.prs at hj
 rw [List.getElem?_zip_eq_some] at hj
 exact hk.done j (List.getElem?_eq_some_iff.1 hj.2).1 p b hj.1 hj.2
def VB (B:Nat):Tm→Prop
 | .var i=>i≤B
 | .lam _ b=>VB B b
 | .zero=>True | .nil=>True | .unit=>True
 | .app f a=>VB B f∧VB B a
 | .succ a=>VB B a
 | .recn _ a b c=>VB B a∧VB B b∧VB B c
 | .cons a b=>VB B a∧VB B b
 | .fold _ a b c=>VB B a∧VB B b∧VB B c
 | .pair a b=>VB B a∧VB B b
 | .fst a=>VB B a
 | .snd a=>VB B a
theorem VB_of {g:List Ty} {t:Tm} {τ:Ty} (h:HasTy g t τ):∀ B,g.length+t.size≤B→VB B t:=by
 induction h with
 | @var g i t hi =>
  intro B hB
  have:=(List.getElem?_eq_some_iff.1 hi).1
  simp at this
  simp [VB];omega
 | lam _ ih=>intro B hB;simp [Tm.size] at hB;exact ih B (by simp;omega)
 | app _ _ i j=>intro B hB;simp [Tm.size] at hB;exact⟨i B (by omega),j B (by omega)⟩
 | zero=>intro B hB;trivial
 | succ _ i=>intro B hB;simp [Tm.size] at hB;exact i B (by omega)
 | recn _ _ _ i j k=>intro B hB;simp [Tm.size] at hB;exact⟨i B (by omega),j B (by omega),k B (by omega)⟩
 | nil=>intro B hB;trivial
 | cons _ _ i j=>intro B hB;simp [Tm.size] at hB;exact⟨i B (by omega),j B (by omega)⟩
 | fold _ _ _ i j k=>intro B hB;simp [Tm.size] at hB;exact⟨i B (by omega),j B (by omega),k B (by omega)⟩
 | pair _ _ i j=>intro B hB;simp [Tm.size] at hB;exact⟨i B (by omega),j B (by omega)⟩
 | fst _ i=>intro B hB;simp [Tm.size] at hB;exact i B (by omega)
 | snd _ i=>intro B hB;simp [Tm.size] at hB;exact i B (by omega)
 | unit=>intro B hB;trivial
def OkI (B:Nat) (x:Ins):Prop:=1≤x.1∧x.1≤14∧x.2≤B∧(x.1=1∨x.1=2∨x.2=0)
theorem emit_okI {B:Nat} {m:Mk} {a b:Nat} (h:∀ x∈m.code,OkI B x) (hx:OkI B (a,b)):∀ x∈(m.emit a b).code,OkI B x:=by
 intro x hm
 simp only [Mk.emit,List.mem_append,List.mem_singleton] at hm
 rcases hm with hm|rfl
 ·exact h x hm
 ·exact hx
theorem okI0 {B a:Nat} (h:1≤a) (h':a≤14):OkI B (a,0):=⟨h,h',Nat.zero_le _,.inr (.inr rfl)⟩
theorem blk_okI {B:Nat} (t:Tm):∀ m:Mk,VB B t→(∀ x∈m.code,OkI B x)→∀ x∈(blkT t m).code,OkI B x:=by
 induction t with
 | var i=>intro m hv h;exact emit_okI h ⟨by simp,by simp,hv,.inl rfl⟩
 | zero=>intro m hv h;exact emit_okI h (okI0 (by decide) (by decide))
 | nil=>intro m hv h;exact emit_okI h (okI0 (by decide) (by decide))
 | unit=>intro m hv h;exact emit_okI h (okI0 (by decide) (by decide))
 | lam s b ih =>
  intro m hv h
  have:=emit_okI (a:=2) (b:=0) h (okI0 (by decide) (by decide))
  exact this
 | succ a i=>intro m hv h;exact emit_okI (i m hv h) (okI0 (by decide) (by decide))
 | fst a i=>intro m hv h;exact emit_okI (i m hv h) (okI0 (by decide) (by decide))
 | snd a i=>intro m hv h;exact emit_okI (i m hv h) (okI0 (by decide) (by decide))
 | app a b i j=>intro m hv h;exact emit_okI (j _ hv.2 (i m hv.1 h)) (okI0 (by decide) (by decide))
 | cons a b i j=>intro m hv h;exact emit_okI (j _ hv.2 (i m hv.1 h)) (okI0 (by decide) (by decide))
 | pair a b i j=>intro m hv h;exact emit_okI (j _ hv.2 (i m hv.1 h)) (okI0 (by decide) (by decide))
 | recn s a b c i j k=>intro m hv h;exact emit_okI (k _ hv.2.2 (j _ hv.2.1 (i m hv.1 h))) (okI0 (by decide) (by decide))
 | fold s a b c i j k=>intro m hv h;exact emit_okI (k _ hv.2.2 (j _ hv.2.1 (i m hv.1 h))) (okI0 (by decide) (by decide))
theorem bods_VB {B:Nat} (t:Tm):VB B t→∀ b∈bods t,VB B b:=by
 induction t with
 | var i=>intro _ b hb;cases hb
 | zero=>intro _ b hb;cases hb
 | nil=>intro _ b hb;cases hb
 | unit=>intro _ b hb;cases hb
 | lam s b ih=>intro hv x hx;simp only [bods,List.mem_singleton] at hx;subst hx;exact hv
 | succ a i=>exact i
 | fst a i=>exact i
 | snd a i=>exact i
 | app a b i j=>intro hv x hx;exact (List.mem_append.1 hx).elim (i hv.1 x) (j hv.2 x)
 | cons a b i j=>intro hv x hx;exact (List.mem_append.1 hx).elim (i hv.1 x) (j hv.2 x)
 | pair a b i j=>intro hv x hx;exact (List.mem_append.1 hx).elim (i hv.1 x) (j hv.2 x)
 | recn s a b c i j k=>intro hv x hx;exact (List.mem_append.1 hx).elim (fun h=>(List.mem_append.1 h).elim (i hv.1 x) (j hv.2.1 x)) (k hv.2.2 x)
 | fold s a b c i j k=>intro hv x hx;exact (List.mem_append.1 hx).elim (fun h=>(List.mem_append.1 h).elim (i hv.1 x) (j hv.2.1 x)) (k hv.2.2 x)
structure OC (B:Nat) (m:Mk):Prop where
 code:∀ x∈m.code,OkI B x
 bod:∀ b∈m.bodies,VB B b
theorem OC.next {B i:Nat} {m:Mk} (h:OC B m) (pl:PL m) (hlen:m.places.length=m.bodies.length) (hB:m.code.length≤B) (hi:i<m.bodies.length):OC B (stepC m i):=by
 obtain⟨b,hb⟩:∃ b,m.bodies[i]? = some b:=⟨_,List.getElem?_eq_getElem hi⟩
 obtain⟨p,hp⟩:∃ p,m.places[i]? = some p:=⟨_,List.getElem?_eq_getElem (by rw [hlen];exact hi)⟩
 have hbd:m.bodies.getD i .unit=b:=by simp [List.getD,hb]
 have hpd:m.places.getD i 0=p:=by simp [List.getD,hp]
 obtain⟨A0,hA0⟩:=pl.two p (List.mem_of_getElem? hp)
 have hpatch:m.patch p=⟨m.code.set p (2,m.code.length),m.bodies,m.places⟩:=by
  unfold Mk.patch
  have:m.code.getD p (0,0)=(2,A0):=by simp [List.getD,hA0]
  rw [this]
 have hvb:=h.bod b (List.mem_of_getElem? hb)
 unfold stepC
 rw [hbd,hpd,hpatch]
 refine⟨emit_okI (blk_okI b _ hvb ?_) (okI0 (by decide) (by decide)),?_⟩
 ·intro x hx
  rcases List.mem_or_eq_of_mem_set hx with hx|rfl
  ·exact h.code x hx
  ·exact⟨by simp,by simp,hB,.inr (.inl rfl)⟩
 ·show ∀ b'∈(blkT b _).bodies,_
  rw [blk_bodies]
  intro x hx
  rcases List.mem_append.1 hx with hx|hx
  ·exact h.bod x hx
  ·exact bods_VB b hvb x hx
theorem OC.fin {t:Tm} {fin:Mk} {S B:Nat} (hB:2 * S+1≤B):∀ (n i:Nat) (m:Mk),pend m i≤n→JC fin S i m→KC t i m→OC B m→OC B fin:=by
 intro n
 induction n with
 | zero =>
  intro i m hn hj hk ho
  obtain⟨k,-,hr⟩:=hj.run
  have hi:¬ i<m.bodies.length:=by
   intro hi
   have:=(hj.next hi).2
   omega
  have:runC k i m=m:=by
   cases k with
   | zero=>rfl
   | succ k=>simp [runC,hi]
  rw [← hr,this]
  exact ho
 | succ n ih =>
  intro i m hn hj hk ho
  by_cases hi:i<m.bodies.length
  ·have:=hj.next hi
   have hc:=hj.code
   exact ih (i+1) (stepC m i) (by omega) this.1 (hk.next hi) (ho.next hk.pl hk.len (by omega) hi)
  ·obtain⟨k,-,hr⟩:=hj.run
   have:runC k i m=m:=by
    cases k with
    | zero=>rfl
    | succ k=>simp [runC,hi]
   rw [← hr,this]
   exact ho
theorem fin_okI {t:Tm} {τ:Ty} (h:HasTy [] t τ):∀ x∈(finC t).code,OkI (2 * t.size+1) x:=by
 have hvb:=VB_of h (2 * t.size+1) (by simp;omega)
 refine (OC.fin (t:=t) (Nat.le_refl _) (pend (begC t) 0) 0 (begC t) (Nat.le_refl _) (JC.start t) (KC.start t) ⟨?_,?_⟩).code
 ·exact emit_okI (blk_okI t _ hvb (by simp)) (okI0 (by decide) (by decide))
 ·show ∀ b∈(blkT t ⟨[],[],[]⟩).bodies,_
  rw [blk_bodies]
  intro x hx
  exact bods_VB t hvb x (by simpa using hx)
open Go.Lg
section
variable {c d:List Ins} {E:Nat × Nat} {base:List It} {k:Nat}
end
open Go.Lg
section
variable {c d:List Ins} {E:Nat × Nat} {base:List It} {k:Nat}
end
inductive Gos (c:List Ins) (l:Nat):Ms→Ms→Prop
 | refl {m:Ms} : Gos c l m m
 | step {m m1 m2:Ms} : m.step c l (1000+m.steps)=some (.go m1)→Gos c l m1 m2→Gos c l m m2
open Go.Lg
def takes:Nat→Nat
 | 3=>2|5=>1|6=>3|8=>2|9=>3|10=>2|11=>1|12=>1
 | _=>0
def scH (c:List Ins):Nat→Nat
 | 0=>0
 | k+1=>match c[k]? with
  | some (op,_)=>if op=14 then 0 else scH c k+1-takes op
  | none=>0
def scS (c:List Ins):Nat→List Nat
 | 0=>[0]
 | k+1=>match c[k]? with
  | some (op,_)=>if op=14 then scS c k++[k+1] else scS c k
  | none=>scS c k
def scF (c:List Ins):Nat→List Nat
 | 0=>[]
 | k+1=>match c[k]? with
  | some (op,a)=>if op=2 then scF c k++[a] else scF c k
  | none=>scF c k
def scG (c:List Ins):Nat→List Nat
 | 0=>[]
 | k+1=>match c[k]? with
  | some (op,_)=>if op=2 then scG c k++[k] else scG c k
  | none=>scG c k
def Pass (c:List Ins) (k:Nat):Prop:=∃ op a,c[k]? = some (op,a)∧1≤op∧op≤14∧(op=14→a=0∧scH c k=1)∧(op≠14→takes op≤scH c k)∧(op≠1→op≠2→a=0)
def lp:Tm→Nat→List Nat
 | .var _,_=>[] | .zero,_=>[] | .nil,_=>[] | .unit,_=>[]
 | .lam _ _,p=>[p]
 | .app f a,p=>lp f p++lp a (p+inl f)
 | .succ a,p=>lp a p
 | .recn _ a b c,p=>lp a p++lp b (p+inl a)++lp c (p+inl a+inl b)
 | .cons a b,p=>lp a p++lp b (p+inl a)
 | .fold _ a b c,p=>lp a p++lp b (p+inl a)++lp c (p+inl a+inl b)
 | .pair a b,p=>lp a p++lp b (p+inl a)
 | .fst a,p=>lp a p
 | .snd a,p=>lp a p
theorem SA_len {c:List Ins} {L:List (Nat × Tm)} {t:Tm} : ∀ {p q:Nat},SA c L t p q→q=p+inl t:=by
 induction t with
 | var i=>rintro p q ⟨-,rfl⟩;simp [inl]
 | lam s b ih=>rintro p q ⟨-,rfl⟩;simp [inl]
 | zero=>rintro p q ⟨-,rfl⟩;simp [inl]
 | nil=>rintro p q ⟨-,rfl⟩;simp [inl]
 | unit=>rintro p q ⟨-,rfl⟩;simp [inl]
 | succ a i=>rintro p q ⟨m,h1,-,rfl⟩;have:=i h1;simp [inl];omega
 | fst a i=>rintro p q ⟨m,h1,-,rfl⟩;have:=i h1;simp [inl];omega
 | snd a i=>rintro p q ⟨m,h1,-,rfl⟩;have:=i h1;simp [inl];omega
 | app a b i j=>rintro p q ⟨m,n,h1,h2,-,rfl⟩;have:=i h1;have:=j h2;simp [inl];omega
 | cons a b i j=>rintro p q ⟨m,n,h1,h2,-,rfl⟩;have:=i h1;have:=j h2;simp [inl];omega
 | pair a b i j=>rintro p q ⟨m,n,h1,h2,-,rfl⟩;have:=i h1;have:=j h2;simp [inl];omega
 | recn s a b c i j k=>rintro p q ⟨l,m,n,h1,h2,h3,-,rfl⟩;have:=i h1;have:=j h2;have:=k h3;simp [inl];omega
 | fold s a b c i j k=>rintro p q ⟨l,m,n,h1,h2,h3,-,rfl⟩;have:=i h1;have:=j h2;have:=k h3;simp [inl];omega
structure Scan (c:List Ins) (p q h:Nat) (g:List Nat):Prop where
 le:p≤q
 high:scH c q=scH c p+h
 starts:scS c q=scS c p
 funs:scG c q=scG c p++g
 pass:∀ k,p≤k→k<q→Pass c k
theorem Scan.trans {c:List Ins} {p q r h h':Nat} {g g':List Nat} (a:Scan c p q h g) (b:Scan c q r h' g'):Scan c p r (h+h') (g++g') :=
 ⟨Nat.le_trans a.le b.le,by rw [b.high,a.high];omega,by rw [b.starts,a.starts],by rw [b.funs,a.funs];simp,fun k h1 h2=>by
  by_cases hk:k<q
  ·exact a.pass k h1 hk
  ·exact b.pass k (by omega) h2⟩
theorem Scan.op {c:List Ins} {p n h op:Nat} {g:List Nat} (a:Scan c p n h g) (hc:c[n]? = some (op,0)) (h1:1≤op) (h2:op<14) (h3:op≠2) (ht:takes op=h):Scan c p (n+1) 1 g:=by
 have hn:¬ op=14:=by omega
 refine⟨by have:=a.le;omega,?_,?_,?_,?_⟩
 ·simp only [scH,hc,if_neg hn,a.high];omega
 ·simp only [scS,hc,if_neg hn,a.starts]
 ·simp only [scG,hc,if_neg h3,a.funs]
 ·intro k hk1 hk2
  by_cases hk:k<n
  ·exact a.pass k hk1 hk
  ·have:k=n:=by omega
   subst this
   exact⟨op,0,hc,h1,by omega,fun e=>absurd e hn,fun _=>by rw [a.high];omega,fun _ _=>rfl⟩
theorem Scan.refl (c:List Ins) (p:Nat):Scan c p p 0 []:=⟨Nat.le_refl _,rfl,rfl,by simp,fun k h1 h2=>by omega⟩
theorem Scan.var {c:List Ins} {p a:Nat} (hc:c[p]? = some (1,a)):Scan c p (p+1) 1 []:=by
 refine⟨by omega,by simp [scH,hc,takes],by simp [scS,hc],by simp [scG,hc],?_⟩
 intro k h1 h2
 have:k=p:=by omega
 subst this
 exact⟨1,a,hc,by decide,by decide,⟨fun e=>absurd e (by decide),fun _=>Nat.zero_le _,fun e=>absurd rfl e⟩⟩
theorem Scan.fn {c:List Ins} {p a:Nat} (hc:c[p]? = some (2,a)):Scan c p (p+1) 1 [p]:=by
 refine⟨by omega,by simp [scH,hc,takes],by simp [scS,hc],by simp [scG,hc],?_⟩
 intro k h1 h2
 have:k=p:=by omega
 subst this
 exact⟨2,a,hc,by decide,by decide,⟨fun e=>absurd e (by decide),fun _=>Nat.zero_le _,fun _ e=>absurd rfl e⟩⟩
theorem SA.scan {c:List Ins} {L:List (Nat × Tm)} {t:Tm} : ∀ {p q:Nat},SA c L t p q→Scan c p q 1 (lp t p):=by
 induction t with
 | var i=>rintro p q ⟨h,rfl⟩;exact .var h
 | lam s b ih=>rintro p q ⟨⟨⟨A,h⟩,-⟩,rfl⟩;exact .fn h
 | zero=>rintro p q ⟨h,rfl⟩;exact (Scan.refl c p).op h (by decide) (by decide) (by decide) rfl
 | nil=>rintro p q ⟨h,rfl⟩;exact (Scan.refl c p).op h (by decide) (by decide) (by decide) rfl
 | unit=>rintro p q ⟨h,rfl⟩;exact (Scan.refl c p).op h (by decide) (by decide) (by decide) rfl
 | succ a i=>rintro p q ⟨m,h1,h2,rfl⟩;exact (i h1).op h2 (by decide) (by decide) (by decide) rfl
 | fst a i=>rintro p q ⟨m,h1,h2,rfl⟩;exact (i h1).op h2 (by decide) (by decide) (by decide) rfl
 | snd a i=>rintro p q ⟨m,h1,h2,rfl⟩;exact (i h1).op h2 (by decide) (by decide) (by decide) rfl
 | app a b i j=>rintro p q ⟨m,n,h1,h2,h3,rfl⟩;have e:=SA_len h1;subst e;exact ((i h1).trans (j h2)).op h3 (by decide) (by decide) (by decide) rfl
 | cons a b i j=>rintro p q ⟨m,n,h1,h2,h3,rfl⟩;have e:=SA_len h1;subst e;exact ((i h1).trans (j h2)).op h3 (by decide) (by decide) (by decide) rfl
 | pair a b i j=>rintro p q ⟨m,n,h1,h2,h3,rfl⟩;have e:=SA_len h1;subst e;exact ((i h1).trans (j h2)).op h3 (by decide) (by decide) (by decide) rfl
 | recn s a b c i j k=>rintro p q ⟨l,m,n,h1,h2,h3,h4,rfl⟩;have e:=SA_len h1;subst e;have e:=SA_len h2;subst e;exact (((i h1).trans (j h2)).trans (k h3)).op h4 (by decide) (by decide) (by decide) rfl
 | fold s a b c i j k=>rintro p q ⟨l,m,n,h1,h2,h3,h4,rfl⟩;have e:=SA_len h1;subst e;have e:=SA_len h2;subst e;exact (((i h1).trans (j h2)).trans (k h3)).op h4 (by decide) (by decide) (by decide) rfl
theorem blk_lp (t:Tm):∀ m:Mk,(blkT t m).places=m.places++lp t m.code.length:=by
 induction t with
 | var i=>intro m;simp [blkT,Mk.emit,lp]
 | zero=>intro m;simp [blkT,Mk.emit,lp]
 | nil=>intro m;simp [blkT,Mk.emit,lp]
 | unit=>intro m;simp [blkT,Mk.emit,lp]
 | lam s b ih=>intro m;rfl
 | succ a i=>intro m;exact i m
 | fst a i=>intro m;exact i m
 | snd a i=>intro m;exact i m
 | app a b i j=>intro m;simp only [blkT,Mk.emit,j,i,lp,blk_codelen,List.append_assoc]
 | cons a b i j=>intro m;simp only [blkT,Mk.emit,j,i,lp,blk_codelen,List.append_assoc]
 | pair a b i j=>intro m;simp only [blkT,Mk.emit,j,i,lp,blk_codelen,List.append_assoc]
 | recn s a b c i j k=>intro m;simp only [blkT,Mk.emit,k,j,i,lp,blk_codelen,List.append_assoc]
 | fold s a b c i j k=>intro m;simp only [blkT,Mk.emit,k,j,i,lp,blk_codelen,List.append_assoc]
theorem Ext.lt {c c':List Ins} (h:Ext c c') {k:Nat} (hk:k<c.length):∃ op a a',c[k]? = some (op,a)∧c'[k]? = some (op,a')∧(op≠2→a'=a):=by
 have e:=List.getElem?_eq_getElem hk
 obtain⟨a',h1,h2⟩:=h k (c[k]).1 (c[k]).2 (by rw [e])
 exact⟨_,_,a',by rw [e],h1,h2⟩
theorem scH_ext {c c':List Ins} (h:Ext c c'):∀ k,k≤c.length→scH c' k=scH c k∧scS c' k=scS c k∧scG c' k=scG c k:=by
 intro k
 induction k with
 | zero=>intro _;exact⟨rfl,rfl,rfl⟩
 | succ k ih =>
  intro hk
  obtain⟨i1,i2,i3⟩:=ih (by omega)
  obtain⟨op,a,a',h1,h2,-⟩:=h.lt (k:=k) (by omega)
  simp only [scH,scS,scG,h1,h2,i1,i2,i3,and_self]
theorem Pass.ext {c c':List Ins} (h:Ext c c') {k:Nat} (hk:k<c.length) (hp:Pass c k):Pass c' k:=by
 obtain⟨op,a,h1,h2,h3,h4,h5,h6⟩:=hp
 obtain⟨a',h7,h8⟩:=h k op a h1
 refine⟨op,a',h7,h2,h3,fun e => ?_,fun e => ?_,fun e1 e2 => ?_⟩
 ·rw [h8 (by omega),(scH_ext h k (by omega)).1];exact h4 e
 ·rw [(scH_ext h k (by omega)).1];exact h5 e
 ·rw [h8 e2];exact h6 e1 e2
def pos (l:List Tm):Nat→Nat
 | 0=>0
 | j+1=>pos l j+inl (l.getD j .unit)+1
theorem pos_app (l r:List Tm):∀ j,j≤l.length→pos (l++r) j=pos l j:=by
 intro j
 induction j with
 | zero=>intro _;rfl
 | succ j ih =>
  intro hj
  simp only [pos]
  rw [ih (by omega)]
  have:(l++r).getD j .unit=l.getD j .unit:=by
   simp only [List.getD]
   rw [List.getElem?_append_left (by omega)]
  rw [this]
structure KP (t:Tm) (i:Nat) (m:Mk):Prop where
 len:m.code.length=pos (t::m.bodies) (i+1)
 high:scH m.code m.code.length=0
 starts:scS m.code m.code.length=(List.range (i+2)).map (pos (t::m.bodies))
 funs:scG m.code m.code.length=m.places
 pass:∀ k,k<m.code.length→Pass m.code k
 don:∀ j,j<i→∀ p,m.places[j]? = some p→m.code[p]? = some (2,pos (t::m.bodies) (j+1))∧p<pos (t::m.bodies) (j+1)
theorem scan_ret {c:List Ins} {p q:Nat} {g:List Nat} (h:Scan c p q 1 g) (h0:scH c p=0) (hq:c[q]? = some (14,0)):scH c (q+1)=0∧scS c (q+1)=scS c p++[q+1]∧scG c (q+1)=scG c p++g ∧ ∀ k,p≤k→k<q+1→Pass c k:=by
 have hh:=h.high
 refine⟨by simp [scH,hq],by simp [scS,hq,h.starts],by simp [scG,hq,h.funs],?_⟩
 intro k h1 h2
 by_cases hk:k<q
 ·exact h.pass k h1 hk
 ·have:k=q:=by omega
  subst this
  exact⟨14,0,hq,by decide,by decide,⟨fun _=>⟨rfl,by omega⟩,fun e=>absurd rfl e,fun _ _=>rfl⟩⟩
theorem KP.start (t:Tm):KP t 0 (begC t):=by
 have hS:=(KC.start t).top
 have hl:=blk_codelen t ⟨[],[],[]⟩
 simp only [List.length_nil,Nat.zero_add] at hl
 have hlen:(begC t).code.length=inl t+1:=by
  unfold begC
  rw [emit_len,hl]
 obtain⟨r1,r2,r3,r4⟩:=scan_ret hS.1.scan rfl hS.2
 have hp:(begC t).places=lp t 0:=by
  show (blkT t ⟨[],[],[]⟩).places=_
  rw [blk_lp]
  rfl
 have hpos:pos (t::(begC t).bodies) 1=inl t+1:=by simp [pos]
 refine⟨by rw [hlen,hpos],by rw [hlen];exact r1,?_,by rw [hlen,r3,hp];rfl,fun k hk=>r4 k (Nat.zero_le _) (by omega),fun j hj=>by omega⟩
 rw [hlen,r2]
 simp [scS,List.range_succ,hpos,pos]
theorem KP.next {t:Tm} {i:Nat} {m:Mk} (hk:KC t i m) (h:KP t i m) (hi:i<m.bodies.length):KP t (i+1) (stepC m i):=by
 obtain⟨b,hb⟩:∃ b,m.bodies[i]? = some b:=⟨_,List.getElem?_eq_getElem hi⟩
 obtain⟨p,hp⟩:∃ p,m.places[i]? = some p:=⟨_,List.getElem?_eq_getElem (by rw [hk.len];exact hi)⟩
 have hbd:m.bodies.getD i .unit=b:=by simp [List.getD,hb]
 have hpd:m.places.getD i 0=p:=by simp [List.getD,hp]
 obtain⟨A0,hA0⟩:=hk.pl.two p (List.mem_of_getElem? hp)
 have hpl:p<m.code.length:=(List.getElem?_eq_some_iff.1 hA0).1
 have hpatch:m.patch p=⟨m.code.set p (2,m.code.length),m.bodies,m.places⟩:=by
  unfold Mk.patch
  have:m.code.getD p (0,0)=(2,A0):=by simp [List.getD,hA0]
  rw [this]
 have hst:stepC m i=(blkT b ⟨m.code.set p (2,m.code.length),m.bodies,m.places⟩).emit 14 0:=by
  unfold stepC
  rw [hbd,hpd,hpatch]
 generalize hm1:(⟨m.code.set p (2,m.code.length),m.bodies,m.places⟩:Mk)=m1 at *
 have c1:m1.code=m.code.set p (2,m.code.length):=by rw [← hm1]
 have b1:m1.bodies=m.bodies:=by rw [← hm1]
 have q1:m1.places=m.places:=by rw [← hm1]
 have l1:m1.places.length=m1.bodies.length:=by rw [b1,q1];exact hk.len
 have lc1:m1.code.length=m.code.length:=by rw [c1];simp
 have e1:Ext m.code m1.code:=by rw [c1];exact .set ⟨A0,hA0⟩
 have e2:Ext m1.code (stepC m i).code:=by
  rw [hst]
  exact (Ext.pre (blk_code b m1)).trans (emit_ext _ _ _)
 have e12:=e1.trans e2
 have x2:∀ (k:Nat) (v:Ins),m1.code[k]? = some v→(stepC m i).code[k]? = some v:=by
  intro k v hk
  have hpre:m1.code <+: (stepC m i).code:=by
   rw [hst]
   exact (blk_code b m1).trans (by simp [Mk.emit])
  obtain⟨d,hd⟩:=hpre
  rw [← hd,List.getElem?_append_left (List.getElem?_eq_some_iff.1 hk).1]
  exact hk
 have hbods:(stepC m i).bodies=m.bodies++bods b:=by
  rw [hst]
  show (blkT b m1).bodies=_
  rw [blk_bodies,b1]
 have hplc:(stepC m i).places=m.places++lp b m.code.length:=by
  rw [hst]
  show (blkT b m1).places=_
  rw [blk_lp,q1,lc1]
 have hclen:(stepC m i).code.length=m.code.length+inl b+1:=by
  rw [hst,emit_len,blk_codelen,lc1]
 have hSA:SA (stepC m i).code (stepC m i).prs b m.code.length (m.code.length+inl b):=by
  have:=blk_SA b m1 l1
  rw [blk_codelen,lc1] at this
  rw [hst]
  exact this.mono (emit_ext _ _ _) (fun x hx=>hx)
 have hR:(stepC m i).code[m.code.length+inl b]? = some (14,0):=by
  have:=emit_last (blkT b m1) 14 0
  rw [blk_codelen,lc1] at this
  rw [hst]
  exact this
 obtain⟨x1,x3,x4⟩:=scH_ext e12 m.code.length (Nat.le_refl _)
 obtain⟨r1,r2,r3,r4⟩:=scan_ret hSA.scan (by rw [x1];exact h.high) hR
 have hpos:∀ j,j≤i+1→pos (t::(stepC m i).bodies) j=pos (t::m.bodies) j:=by
  intro j hj
  rw [hbods]
  exact pos_app (t::m.bodies) (bods b) j (by simp;omega)
 have hpn:pos (t::(stepC m i).bodies) (i+2)=m.code.length+inl b+1:=by
  show pos _ (i+1)+inl ((t::(stepC m i).bodies).getD (i+1) .unit)+1=_
  rw [hpos (i+1) (Nat.le_refl _),← h.len]
  have:(t::(stepC m i).bodies).getD (i+1) .unit=b:=by
   rw [hbods]
   simp only [List.getD,List.getElem?_cons_succ]
   rw [List.getElem?_append_left hi,hb]
   rfl
  rw [this]
 refine⟨by rw [hclen,hpn],by rw [hclen];exact r1,?_,?_,?_,?_⟩
 ·rw [hclen,r2,x3,h.starts]
  rw [List.range_succ (n:=i+2),List.map_append]
  congr 1
  ·refine List.map_congr_left ?_
   intro j hj
   exact (hpos j (by have:=List.mem_range.1 hj;omega)).symm
  ·simp [hpn]
 ·rw [hclen,r3,x4,h.funs,hplc]
 ·intro k hk'
  by_cases hkl:k<m.code.length
  ·exact (h.pass k hkl).ext e12 hkl
  ·exact r4 k (by omega) (by omega)
 ·intro j hj p' hp'
  have hjl:j<m.places.length:=by rw [hk.len];omega
  rw [hplc,List.getElem?_append_left hjl] at hp'
  rw [hpos (j+1) (by omega)]
  by_cases e:j=i
  ·subst e
   rw [hp] at hp'
   cases hp'
   rw [← h.len]
   refine⟨x2 _ _ ?_,hpl⟩
   rw [c1,List.getElem?_set_self hpl]
  ·obtain⟨h1,h2⟩:=h.don j (by omega) p' hp'
   refine⟨x2 _ _ ?_,h2⟩
   have hne:p≠p':=by
    rintro rfl
    have hj':j<m.places.length:=hjl
    have hi':i<m.places.length:=by rw [hk.len];exact hi
    rw [List.getElem?_eq_getElem hj'] at hp'
    rw [List.getElem?_eq_getElem hi'] at hp
    have h1:=Option.some.inj hp'
    have h2:=Option.some.inj hp
    exact e ((List.getElem_inj hk.pl.nd).1 (h1.trans h2.symm))
   rw [c1,List.getElem?_set_ne hne]
   exact h1
theorem KP.fin {t:Tm} {fin:Mk} {S:Nat} : ∀ (n i:Nat) (m:Mk),pend m i≤n→JC fin S i m→KC t i m→KP t i m→KP t fin.bodies.length fin:=by
 have stop:∀ (i:Nat) (m:Mk),¬ i<m.bodies.length→JC fin S i m→KP t i m→KP t fin.bodies.length fin:=by
  intro i m hi hj hp
  obtain⟨k,-,hr⟩:=hj.run
  have:runC k i m=m:=by
   cases k with
   | zero=>rfl
   | succ k=>simp [runC,hi]
  have hle:=hj.le
  have e:i=m.bodies.length:=by omega
  rw [← hr,this,← e]
  exact hp
 intro n
 induction n with
 | zero =>
  intro i m hn hj hk hp
  refine stop i m ?_ hj hp
  intro hi
  have:=(hj.next hi).2
  omega
 | succ n ih =>
  intro i m hn hj hk hp
  by_cases hi:i<m.bodies.length
  ·have:=hj.next hi
   exact ih (i+1) (stepC m i) (by omega) this.1 (hk.next hi) (hp.next hk hi)
  ·exact stop i m hi hj hp
theorem fin_KP (t:Tm):KP t (finC t).bodies.length (finC t):=KP.fin (pend (begC t) 0) 0 (begC t) (Nat.le_refl _) (JC.start t) (KC.start t) (KP.start t)
open Go.Lg
structure GoodC (c:List Ins):Prop where
 lo:1≤c.length
 hi:c.length≤4096
 last:∃ a,c[c.length-1]? = some (14,a)
 pass:∀ k,k<c.length→Pass c k
 fwd:∀ (k a:Nat),c[k]? = some (2,a)→k<a
 fin:scS c c.length=0::(scF c c.length++[c.length])
 bnd:∀ (k op a:Nat),c[k]? = some (op,a)→a≤1000000
theorem scF_eq (c:List Ins):∀ k,scF c k=(scG c k).map (fun p=>(c.getD p (0,0)).2):=by
 intro k
 induction k with
 | zero=>rfl
 | succ k ih =>
  simp only [scF,scG]
  cases e:c[k]? with
  | none=>exact ih
  | some x =>
   obtain⟨op,a⟩:=x
   simp only
   split
   ·simp [ih,List.getD,e]
   ·exact ih
theorem scS_le (c:List Ins):∀ k,∀ x∈scS c k,x≤k:=by
 intro k
 induction k with
 | zero=>intro x hx;simp [scS] at hx;omega
 | succ k ih =>
  intro x hx
  simp only [scS] at hx
  split at hx
  ·split at hx
   ·rcases List.mem_append.1 hx with h|h
    ·have:=ih x h;omega
    ·simp at h;omega
   ·have:=ih x hx;omega
  ·have:=ih x hx;omega
theorem scG_mem (c:List Ins):∀ n k a,c[k]? = some (2,a)→k<n→k∈scG c n:=by
 intro n
 induction n with
 | zero=>intro k a _ h;omega
 | succ n ih =>
  intro k a hc hk
  simp only [scG]
  by_cases e:k=n
  ·subst e
   rw [hc]
   simp
  ·have:=ih k a hc (by omega)
   split
   ·split
    ·exact List.mem_append.2 (.inl this)
    ·exact this
   ·exact this
theorem goodC {t:Tm} {τ:Ty} (h:HasTy [] t τ) (hl:(finC t).code.length≤4096) (hs:t.size≤4096):GoodC (finC t).code:=by
 have kp:=fin_KP t
 have kc:=KC.fin (pend (begC t) 0) 0 (begC t) (Nat.le_refl _) (JC.start t) (KC.start t)
 have ok:=fin_okI h
 generalize finC t=m at *
 have hlo:1≤m.code.length:=by rw [kp.len];simp [pos]
 have hfull:∀ (k a:Nat),m.code[k]? = some (2,a)→∃ j,j<m.bodies.length∧m.places[j]? = some k∧a=pos (t::m.bodies) (j+1)∧k<a:=by
  intro k a hk
  have hm:=scG_mem m.code m.code.length k a hk (List.getElem?_eq_some_iff.1 hk).1
  rw [kp.funs] at hm
  obtain⟨j,hj⟩:=List.mem_iff_getElem?.1 hm
  have hjl:j<m.bodies.length:=by rw [← kc.len];exact (List.getElem?_eq_some_iff.1 hj).1
  obtain⟨h1,h2⟩:=kp.don j hjl k hj
  rw [hk] at h1
  cases h1
  exact⟨j,hjl,hj,rfl,h2⟩
 have hF:scF m.code m.code.length=(List.range m.bodies.length).map (fun j=>pos (t::m.bodies) (j+1)):=by
  rw [scF_eq,kp.funs]
  apply List.ext_getElem?
  intro j
  rw [List.getElem?_map,List.getElem?_map]
  by_cases hj:j<m.bodies.length
  ·have hjp:j<m.places.length:=by rw [kc.len];exact hj
   have e:=List.getElem?_eq_getElem hjp
   obtain⟨h1,-⟩:=kp.don j hj _ e
   rw [e,List.getElem?_range hj]
   simp [List.getD,h1]
  ·rw [List.getElem?_eq_none (by rw [kc.len];omega),List.getElem?_eq_none (by simp;omega)]
   rfl
 refine⟨hlo,hl,?_,kp.pass,fun k a hk => ?_,?_,fun k op a hk => ?_⟩
 ·have hmem:m.code.length∈scS m.code m.code.length:=by
   rw [kp.starts]
   refine List.mem_map.2 ⟨m.bodies.length+1,List.mem_range.2 (by omega),kp.len.symm⟩
  obtain⟨op,a,h1,-⟩:=kp.pass (m.code.length-1) (by omega)
  refine⟨a,?_⟩
  have e:m.code.length=(m.code.length-1)+1:=by omega
  rw [e] at hmem
  have:scS m.code (m.code.length-1+1)=if op=14 then scS m.code (m.code.length-1)++[m.code.length-1+1] else scS m.code (m.code.length-1):=by
   simp only [scS,h1]
  by_cases ho:op=14
  ·rw [h1,ho]
  ·have h3:m.code.length-1+1∈scS m.code (m.code.length-1+1):=by
    have e2:scS m.code (m.code.length-1+1)=scS m.code m.code.length:=by rw [← e]
    rw [e2,← e]
    rw [kp.starts]
    exact List.mem_map.2 ⟨m.bodies.length+1,List.mem_range.2 (by omega),kp.len.symm⟩
   rw [this,if_neg ho] at h3
   have:=scS_le m.code _ _ h3
   omega
 ·obtain⟨j,-,-,-,h4⟩:=hfull k a hk
  exact h4
 ·rw [kp.starts,hF,List.range_succ,List.map_append]
  rw [List.range_succ_eq_map]
  simp [kp.len,pos]
 ·have:=(ok _ (List.mem_of_getElem? hk)).2.2.1
  simp only at this
  omega
end Go.Proofs.YtodjpfpmhjdhbaaGreatDoor
