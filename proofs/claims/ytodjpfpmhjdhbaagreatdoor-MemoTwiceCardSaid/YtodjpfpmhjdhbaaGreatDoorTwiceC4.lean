/- Contracts of functions; no conditions. -/
import Derived.Test.YtodjpfpmhjdhbaaGreatDoorTwiceC3
import Derived.Test.YtodjpfpmhjdhbaaGreatDoorTwiceC1
set_option linter.all false
namespace Go.Proofs.YtodjpfpmhjdhbaaGreatDoor
open Go.Lg
theorem enC4 {P Q : Prop} (h : P := by simp [retIs,resV,resL,resOne,mkTup,getS,getO,rdV,mkAgg,unL,V.un,TI.isAgg,XX_T,tt30,Tryz.f82,Tryz.f39,Tryz.f11,Tryz.f101,Tryz.f102,Tryz.f128,Tryz.f129,Tryz.f135,Tryz.f127,Tryz.f130]) (k : Q := by simp [subO,getO,tt30,Tryz.f82,Tryz.f39,Tryz.f11,Tryz.f101,Tryz.f102,Tryz.f128,Tryz.f129,Tryz.f135,Tryz.f127,Tryz.f130]) : P ∧ Q := ⟨h,k⟩
end Go.Proofs.YtodjpfpmhjdhbaaGreatDoor
namespace Go.Proofs.YtodjpfpmhjdhbaaGreatDoor
open Go.Lg
set_option maxRecDepth 10000
set_option maxHeartbeats 4000000
abbrev Ins:=Nat × Nat
def insP (x:Ins):List PV:=[.int (x.1:Int),.int (x.2:Int)]
theorem insP_all (l:List Ins):∀ y∈l.map insP,y.length=2:=by
 intro y hy
 obtain⟨t,_,rfl⟩:=List.mem_map.1 hy
 rfl
structure Mk where
 code:List Ins
 bodies:List Tm
 places:List Nat
def Mk.emit (m:Mk) (op a:Nat):Mk:=⟨m.code++[(op,a)],m.bodies,m.places⟩
def blkT:Tm→Mk→Mk
 | .var i,m=>m.emit 1 i
 | .lam _ b,m=>⟨m.code++[(2,0)],m.bodies++[b],m.places++[m.code.length]⟩
 | .app f a,m=>(blkT a (blkT f m)).emit 3 0
 | .zero,m=>m.emit 4 0
 | .succ a,m=>(blkT a m).emit 5 0
 | .recn _ a b c,m=>(blkT c (blkT b (blkT a m))).emit 6 0
 | .nil,m=>m.emit 7 0
 | .cons a b,m=>(blkT b (blkT a m)).emit 8 0
 | .fold _ a b c,m=>(blkT c (blkT b (blkT a m))).emit 9 0
 | .pair a b,m=>(blkT b (blkT a m)).emit 10 0
 | .fst a,m=>(blkT a m).emit 11 0
 | .snd a,m=>(blkT a m).emit 12 0
 | .unit,m=>m.emit 13 0
def blkL (l:List Tm) (m:Mk):Mk:=l.foldl (fun m a=>blkT a m) m
theorem blkT_eq (t:Tm) (m:Mk) (h1:¬ t.kind=1) (h2:¬ t.kind=2):blkT t m=(blkL t.args m).emit t.kind.toNat 0:=by
 cases t<;>first|rfl|(simp [Tm.kind] at h1;done)|(simp [Tm.kind] at h2;done)
theorem blkT_len (t:Tm):∀ m:Mk,(blkT t m).code.length≤m.code.length+t.size∧(blkT t m).bodies.length≤m.bodies.length+t.size∧(blkT t m).places.length≤m.places.length+t.size:=by
 induction t with
 | var i=>intro m;simp [blkT,Mk.emit,Tm.size]
 | lam s b ih=>intro m;simp [blkT,Tm.size]
 | zero=>intro m;simp [blkT,Mk.emit,Tm.size]
 | nil=>intro m;simp [blkT,Mk.emit,Tm.size]
 | unit=>intro m;simp [blkT,Mk.emit,Tm.size]
 | succ a ih=>intro m;have:=ih m;simp [blkT,Mk.emit,Tm.size];omega
 | fst a ih=>intro m;have:=ih m;simp [blkT,Mk.emit,Tm.size];omega
 | snd a ih=>intro m;have:=ih m;simp [blkT,Mk.emit,Tm.size];omega
 | app a b iha ihb=>intro m;have:=iha m;have:=ihb (blkT a m);simp [blkT,Mk.emit,Tm.size];omega
 | cons a b iha ihb=>intro m;have:=iha m;have:=ihb (blkT a m);simp [blkT,Mk.emit,Tm.size];omega
 | pair a b iha ihb=>intro m;have:=iha m;have:=ihb (blkT a m);simp [blkT,Mk.emit,Tm.size];omega
 | recn s a b c iha ihb ihc=>intro m;have:=iha m;have:=ihb (blkT a m);have:=ihc (blkT b (blkT a m));simp [blkT,Mk.emit,Tm.size];omega
 | fold s a b c iha ihb ihc=>intro m;have:=iha m;have:=ihb (blkT a m);have:=ihc (blkT b (blkT a m));simp [blkT,Mk.emit,Tm.size];omega
theorem blkL_snoc (l:List Tm) (a:Tm) (m:Mk):blkL (l++[a]) m=blkT a (blkL l m):=by simp [blkL]
theorem blkL_len (l:List Tm):∀ m:Mk,(blkL l m).code.length≤m.code.length+Tm.sizes l∧(blkL l m).bodies.length≤m.bodies.length+Tm.sizes l∧(blkL l m).places.length≤m.places.length+Tm.sizes l:=by
 induction l with
 | nil=>intro m;simp [blkL]
 | cons a l ih =>
  intro m
  have h1:=blkT_len a m
  have h2:=ih (blkT a m)
  have e:blkL (a::l) m=blkL l (blkT a m):=rfl
  have e2:Tm.sizes (a::l)=a.size+Tm.sizes l:=by simp [Tm.sizes]
  rw [e,e2]
  omega
def mkO (m:Mk):List (Nat × Ob) :=
 [(910,.box [.arr 911 m.code.length m.code.length,.arr 912 m.bodies.length m.bodies.length,.arr 913 m.places.length m.places.length]),
  (911,.arr m.code.length 2 70 (pvE (m.code.map insP))),(912,.arr m.bodies.length 5 30 (pvE (m.bodies.map Tm.cells))),(913,.arr m.places.length 1 3 (pvE (nats m.places)))]
def Mk.small (m:Mk) (n:Nat):Prop:=m.code.length+n≤100000∧m.bodies.length+n≤100000∧m.places.length+n≤100000
theorem take_map {α β:Type} (l:List α) (f:α→β):(l.map f).take l.length=l.map f:=by rw [← List.map_take,List.take_length]
theorem emit_ok (m:Mk) (op a:Nat) (hm:m.small 1):AC Tryz.prog gl 40 [.loc 910 0,.pv (.int op),.pv (.int a)] (mkO m) (.ret (.pv (.tuple []))) (mkO (m.emit op a)):=by
 obtain⟨h1,h2,h3⟩:=hm
 have hl:(m.code.map insP).length=m.code.length:=by simp
 have ht:=take_map m.code insP
 have hA:(m.code++[(op,a)]).map insP=m.code.map insP++[[.int op,.int a]]:=by simp [insP]
 have hal:=insP_all m.code
 unfold mkO
 simp only [Mk.emit,hA,List.length_append,List.length_cons,List.length_nil,Nat.zero_add]
 refine body [] Tryz.func40 Tryz.ntmps40 ?_
 clear hA
 generalize m.code.map insP=cs at *
 refine gg ?_
 exact⟨by simp [retIs,resV,resL,resOne,mkTup,getS,getO,rdV,mkAgg,unL,V.un,TI.isAgg,XX_T,tt30,Tryz.f40,ht],by simp [subO,getO,tt30,Tryz.f40,ht]⟩
theorem op_ok (t:Tm) (h1:¬ t.kind=1) (h2:¬ t.kind=2):AC Tryz.prog gl 82 [.pv (.int t.kind)] [] (.ret (.pv (.int t.kind))) []:=by
 refine body [] Tryz.func82 Tryz.ntmps82 ?_
 cases t<;>first|(exfalso;exact h1 rfl)|(exfalso;exact h2 rfl)|skip
 all_goals simp only [Tm.kind]
 all_goals refine gg ?_
 all_goals exact enC4
theorem nats_all (l:List Nat):∀ y∈nats l,y.length=1:=by simp [nats]
theorem block_ok (t:Tm):∀ m:Mk,m.small t.size→AC Tryz.prog gl 39 [.loc 910 0,.pv (.agg t.cells)] (mkO m) (.ret (.pv (.tuple []))) (mkO (blkT t m)):=by
 induction t using Tm.ind with
 | _ t ih =>
  intro m hm
  have hsz:=t.size_eq
  obtain⟨h1,h2,h3⟩:=hm
  by_cases k1:t.kind=1
  ·cases t<;>simp only [Tm.kind] at k1<;>try omega
   rename_i i
   have he:=emit_ok m 1 i ⟨by omega,by omega,by omega⟩
   simp only [blkT]
   unfold mkO at *
   simp only [Mk.emit] at *
   refine body [] Tryz.func39 Tryz.ntmps39 ?_
   simp only [Tm.cells,Tm.node,Ty.kind,Ty.args,List.map_nil,Int.cast_ofNat_Int] at *
   generalize m.code.map insP=cs at *
   generalize (m.code++[(1,i)]).map insP=cs' at *
   refine gg ?_
   refine call he ?_
   refine gg ?_
   exact enC4
  ·by_cases k2:t.kind=2
   ·cases t<;>simp only [Tm.kind] at k2<;>try omega
    rename_i s b
    have hb:=one_tm b
    have hbs:1≤b.size:=by have:=b.size_eq;omega
    simp only [Tm.size] at h1 h2 h3
    have he:=emit_ok ⟨m.code,m.bodies++[b],m.places++[m.code.length]⟩ 2 0 ⟨by simpa using (by omega:m.code.length+1≤100000),by simp;omega,by simp;omega⟩
    simp only [blkT]
    have hA:(m.bodies++[b]).map Tm.cells=m.bodies.map Tm.cells++[b.cells]:=by simp
    have hB:nats (m.places++[m.code.length])=nats m.places++[[.int m.code.length]]:=nats_snoc _ _
    have ht:=take_map m.bodies Tm.cells
    have hl:(m.bodies.map Tm.cells).length=m.bodies.length:=by simp
    have hal:=Tm.all_len m.bodies
    have htn:(nats m.places).take m.places.length=nats m.places:=take_map _ _
    have hln:(nats m.places).length=m.places.length:=by simp [nats]
    have haln:=nats_all m.places
    have hlc:(m.code.map insP).length=m.code.length:=by simp
    unfold mkO at *
    simp only [Mk.emit,hA,hB,List.length_append,List.length_cons,List.length_nil,Nat.zero_add] at *
    clear hA hB
    refine body [] Tryz.func39 Tryz.ntmps39 ?_
    rw [Tm.cells_eq]
    simp only [Tm.kind,Tm.idx,Tm.ty,Tm.args,List.map_cons,List.map_nil,Int.cast_ofNat_Int] at *
    rw [b.cells_eq] at *
    generalize m.code.map insP=cs at *
    generalize (m.code++[(2,0)]).map insP=cs' at *
    generalize m.bodies.map Tm.cells=bs at *
    generalize nats m.places=ps at *
    refine gg ?_
    refine⟨by rfl,?_⟩
    refine gg ?_
    refine call he ?_
    refine gg ?_
    exact enC4
   ·rw [blkT_eq t m k1 k2]
    have hop:=op_ok t k1 k2
    have hal:=Tm.all_len t.args
    have hla:=t.args_le
    have hlen:(t.args.map Tm.cells).length=t.args.length:=by simp
    unfold mkO
    refine body [] Tryz.func39 Tryz.ntmps39 ?_
    rw [Tm.cells_eq]
    refine gg ?_
    refine AWP.loopN t.args.length (fun k=>⟨[(0,.loc 910 0),(3,.pv (.ptr [.int t.kind,.int t.idx,.int t.ty.kind,.slice (t.ty.args.map Ty.cells),.slice (t.args.map Tm.cells)])),(4,.pv (.int k))],mkO (blkL (t.args.take k) m),[910,911,912,913]⟩) ?_ ?_
    ·simp only [List.take_zero,blkL,List.foldl_nil]
     unfold mkO
     exact⟨by simp [slotsLe,getS],by simp [subO,getO],by simp [subL,namesSl,V.names,namesOb,Ob.names,namesL,namesE,namesE_pvE,XX_given]⟩
    ·intro k hk
     have hbl:=blkL_len (t.args.take k) m
     have hsl:=tsizes_le t.args k
     by_cases h:k<t.args.length
     ·have h':(k:Int)<t.args.length:=by omega
      obtain⟨a,hka⟩:∃ a,t.args[k]? = some a:=⟨_,List.getElem?_eq_getElem (by omega)⟩
      have hget:=getD_map (f:=Tm.cells) (d:=[]) hka
      have hsn:=take_snoc hka
      have hmem:=List.mem_of_getElem? hka
      have hsz2:Tm.sizes (t.args.take (k+1))=Tm.sizes (t.args.take k)+a.size:=by rw [hsn];simp [Tm.sizes]
      have hle:=tsizes_le t.args (k+1)
      have this:=ih a hmem (blkL (t.args.take k) m) ⟨by omega,by omega,by omega⟩
      rw [hsn,blkL_snoc]
      generalize blkL (t.args.take k) m=mk at *
      generalize blkT a mk=mk' at *
      clear ih hka hsn hsz2 hle hbl hsl
      unfold mkO at *
      rw [Tm.cells_eq] at hget this
      refine gg ?_
      refine call this ?_
      refine gg ?_
      exact⟨h,⟨by simp [slotsLe,getS],by simp [subO,getO],by simp [subL,namesSl,V.names,namesOb,Ob.names,namesL,namesE,namesE_pvE,XX_given]⟩⟩
     ·have h':¬ (k:Int)<t.args.length:=by omega
      have hkk:k=t.args.length:=by omega
      subst hkk
      rw [List.take_length] at *
      have he:=emit_ok (blkL t.args m) t.kind.toNat 0 ⟨by omega,by omega,by omega⟩
      have hkn:((t.kind.toNat:Nat):Int)=t.kind:=by
       have:0≤t.kind:=by cases t<;>simp [Tm.kind]
       omega
      rw [hkn] at he
      generalize blkL t.args m=mk at *
      generalize mk.emit t.kind.toNat 0=mk' at *
      clear ih hbl hsl
      unfold mkO at *
      simp only [Int.cast_ofNat_Int] at he
      refine gg ?_
      refine call hop ?_
      refine gg ?_
      refine call he ?_
      refine gg ?_
      exact enC4
def inl:Tm→Nat
 | .var _=>1 | .lam _ _=>1 | .zero=>1 | .nil=>1 | .unit=>1
 | .app f a=>inl f+inl a+1
 | .succ a=>inl a+1
 | .recn _ a b c=>inl a+inl b+inl c+1
 | .cons a b=>inl a+inl b+1
 | .fold _ a b c=>inl a+inl b+inl c+1
 | .pair a b=>inl a+inl b+1
 | .fst a=>inl a+1
 | .snd a=>inl a+1
def bods:Tm→List Tm
 | .var _=>[] | .zero=>[] | .nil=>[] | .unit=>[]
 | .lam _ b=>[b]
 | .app f a=>bods f++bods a
 | .succ a=>bods a
 | .recn _ a b c=>bods a++bods b++bods c
 | .cons a b=>bods a++bods b
 | .fold _ a b c=>bods a++bods b++bods c
 | .pair a b=>bods a++bods b
 | .fst a=>bods a
 | .snd a=>bods a
theorem inl_pos (t:Tm):1≤inl t:=by cases t<;>simp [inl]
theorem sizes_app (a b:List Tm):Tm.sizes (a++b)=Tm.sizes a+Tm.sizes b:=by simp [Tm.sizes]
theorem inl_bods (t:Tm):inl t+Tm.sizes (bods t)=t.size:=by
 induction t<;>simp_all [inl,bods,Tm.size,Tm.sizes]<;>omega
theorem blk_bodies (t:Tm):∀ m:Mk,(blkT t m).bodies=m.bodies++bods t:=by
 induction t<;>intro m<;>simp_all [blkT,bods,Mk.emit]
theorem blk_codelen (t:Tm):∀ m:Mk,(blkT t m).code.length=m.code.length+inl t:=by
 induction t<;>intro m<;>simp_all [blkT,inl,Mk.emit]<;>omega
theorem blk_placeslen (t:Tm):∀ m:Mk,(blkT t m).places.length=m.places.length+(bods t).length:=by
 induction t<;>intro m<;>simp_all [blkT,bods,Mk.emit]<;>omega
theorem blk_code (t:Tm):∀ m:Mk,m.code <+: (blkT t m).code:=by
 have step:∀ (m:Mk) (a b:Nat) (c:List Ins),c <+: m.code→c <+: (m.emit a b).code:=by
  intro m a b c h
  exact h.trans (by simp [Mk.emit])
 induction t with
 | var i=>intro m;exact step m _ _ _ (List.prefix_refl _)
 | lam s b ih=>intro m;simp [blkT]
 | zero=>intro m;exact step m _ _ _ (List.prefix_refl _)
 | nil=>intro m;exact step m _ _ _ (List.prefix_refl _)
 | unit=>intro m;exact step m _ _ _ (List.prefix_refl _)
 | succ a ih=>intro m;exact step _ _ _ _ (ih m)
 | fst a ih=>intro m;exact step _ _ _ _ (ih m)
 | snd a ih=>intro m;exact step _ _ _ _ (ih m)
 | app a b iha ihb=>intro m;exact step _ _ _ _ ((iha m).trans (ihb _))
 | cons a b iha ihb=>intro m;exact step _ _ _ _ ((iha m).trans (ihb _))
 | pair a b iha ihb=>intro m;exact step _ _ _ _ ((iha m).trans (ihb _))
 | recn s a b c iha ihb ihc=>intro m;exact step _ _ _ _ (((iha m).trans (ihb _)).trans (ihc _))
 | fold s a b c iha ihb ihc=>intro m;exact step _ _ _ _ (((iha m).trans (ihb _)).trans (ihc _))
theorem blk_places (t:Tm):∀ m:Mk,(∀ p∈m.places,p<m.code.length)→∀ p∈(blkT t m).places,p<(blkT t m).code.length:=by
 have step:∀ (m:Mk) (a b:Nat),(∀ p∈m.places,p<m.code.length)→∀ p∈(m.emit a b).places,p<(m.emit a b).code.length:=by
  intro m a b h p hp
  have:=h p hp
  simp [Mk.emit];omega
 induction t with
 | var i=>intro m h;exact step m _ _ h
 | lam s b ih =>
  intro m h p hp
  simp only [blkT,List.mem_append,List.mem_singleton,List.length_append,List.length_cons,List.length_nil] at hp ⊢
  rcases hp with hp|rfl
  ·have:=h p hp;omega
  ·omega
 | zero=>intro m h;exact step m _ _ h
 | nil=>intro m h;exact step m _ _ h
 | unit=>intro m h;exact step m _ _ h
 | succ a ih=>intro m h;exact step _ _ _ (ih m h)
 | fst a ih=>intro m h;exact step _ _ _ (ih m h)
 | snd a ih=>intro m h;exact step _ _ _ (ih m h)
 | app a b iha ihb=>intro m h;exact step _ _ _ (ihb _ (iha m h))
 | cons a b iha ihb=>intro m h;exact step _ _ _ (ihb _ (iha m h))
 | pair a b iha ihb=>intro m h;exact step _ _ _ (ihb _ (iha m h))
 | recn s a b c iha ihb ihc=>intro m h;exact step _ _ _ (ihc _ (ihb _ (iha m h)))
 | fold s a b c iha ihb ihc=>intro m h;exact step _ _ _ (ihc _ (ihb _ (iha m h)))
def Mk.patch (m:Mk) (p:Nat):Mk:=⟨m.code.set p ((m.code.getD p (0,0)).1,m.code.length),m.bodies,m.places⟩
def stepC (m:Mk) (i:Nat):Mk:=(blkT (m.bodies.getD i .unit) (m.patch (m.places.getD i 0))).emit 14 0
def runC:Nat→Nat→Mk→Mk
 | 0,_,m=>m
 | k+1,i,m=>if i<m.bodies.length then runC k (i+1) (stepC m i) else m
def begC (t:Tm):Mk:=(blkT t ⟨[],[],[]⟩).emit 14 0
def pend (m:Mk) (i:Nat):Nat:=Tm.sizes (m.bodies.drop i)
def finC (t:Tm):Mk:=runC t.size 0 (begC t)
structure JC (fin:Mk) (S:Nat) (i:Nat) (m:Mk):Prop where
 le:i≤m.bodies.length
 len:m.places.length=m.bodies.length
 lt:∀ p∈m.places,p<m.code.length
 code:m.code.length+2 * pend m i≤2 * S+1
 bod:i+pend m i≤S
 run:∃ k,pend m i≤k∧runC k i m=fin
theorem sizes_len (l:List Tm):l.length≤Tm.sizes l:=by
 induction l with
 | nil=>simp
 | cons a l ih =>
  have:=a.size_eq
  have e:Tm.sizes (a::l)=a.size+Tm.sizes l:=by simp [Tm.sizes]
  simp only [List.length_cons,e]
  omega
theorem mem_sizes {l:List Tm} {a:Tm} (h:a∈l):a.size≤Tm.sizes l:=by
 induction l with
 | nil=>simp at h
 | cons b l ih =>
  have e:Tm.sizes (b::l)=b.size+Tm.sizes l:=by simp [Tm.sizes]
  rcases List.mem_cons.1 h with rfl|h
  ·omega
  ·have:=ih h;omega
theorem JC.start (t:Tm):JC (finC t) t.size 0 (begC t):=by
 have h1:=blk_bodies t ⟨[],[],[]⟩
 have h2:=blk_codelen t ⟨[],[],[]⟩
 have h3:=blk_placeslen t ⟨[],[],[]⟩
 have h4:=blk_places t ⟨[],[],[]⟩ (by simp)
 have h5:=inl_bods t
 have h6:=inl_pos t
 simp only [List.nil_append,List.length_nil,Nat.zero_add] at h1 h2 h3
 refine⟨Nat.zero_le _,?_,?_,?_,?_,t.size,?_,rfl⟩
 ·simp [begC,Mk.emit,h1,h3]
 ·intro p hp
  have:=h4 p hp
  simp [begC,Mk.emit];omega
 ·simp [begC,Mk.emit,pend,h1,h2];omega
 ·simp [begC,Mk.emit,pend,h1];omega
 ·simp [begC,Mk.emit,pend,h1];omega
theorem JC.next {fin:Mk} {S i:Nat} {m:Mk} (h:JC fin S i m) (hi:i<m.bodies.length):JC fin S (i+1) (stepC m i)∧pend (stepC m i) (i+1)<pend m i:=by
 obtain⟨b,hb⟩:∃ b,m.bodies[i]? = some b:=⟨_,List.getElem?_eq_getElem hi⟩
 have hd:m.bodies.drop i=b::m.bodies.drop (i+1):=by
  rw [List.drop_eq_getElem_cons hi]
  congr 1
  rw [List.getElem?_eq_getElem hi] at hb
  exact Option.some.inj hb
 have hbd:m.bodies.getD i .unit=b:=by simp [List.getD,hb]
 have e1:pend m i=b.size+Tm.sizes (m.bodies.drop (i+1)):=by
  unfold pend;rw [hd];simp [Tm.sizes]
 have hbods:(stepC m i).bodies=m.bodies++bods b:=by
  unfold stepC Mk.emit;rw [hbd];simp only;rw [blk_bodies];rfl
 have hcl:(stepC m i).code.length=m.code.length+inl b+1:=by
  unfold stepC Mk.emit;rw [hbd];simp only [List.length_append,List.length_cons,List.length_nil];rw [blk_codelen];simp [Mk.patch]
 have hpl:(stepC m i).places.length=m.places.length+(bods b).length:=by
  unfold stepC Mk.emit;rw [hbd];simp only;rw [blk_placeslen];rfl
 have e2:pend (stepC m i) (i+1)=Tm.sizes (m.bodies.drop (i+1))+Tm.sizes (bods b):=by
  unfold pend;rw [hbods,List.drop_append_of_le_length (by omega),sizes_app]
 have h5:=inl_bods b
 have h6:=inl_pos b
 have hlt:pend (stepC m i) (i+1)<pend m i:=by omega
 refine⟨⟨?_,?_,?_,?_,?_,?_⟩,hlt⟩
 ·rw [hbods];simp;omega
 ·rw [hpl,hbods,h.len];simp
 ·intro p hp
  have:=blk_places b (m.patch (m.places.getD i 0)) (by
   intro q hq
   have:=h.lt q hq
   simpa [Mk.patch] using this) p (by
   unfold stepC Mk.emit at hp;rw [hbd] at hp;exact hp)
  rw [blk_codelen] at this
  rw [hcl]
  simp [Mk.patch] at this
  omega
 ·rw [hcl,e2];have:=h.code;rw [e1] at this;omega
 ·rw [e2];have:=h.bod;rw [e1] at this;omega
 ·obtain⟨k,hk,hr⟩:=h.run
  cases k with
  | zero=>omega
  | succ k =>
   refine⟨k,by omega,?_⟩
   rw [← hr]
   simp [runC,hi]
theorem JC.last {fin:Mk} {S i:Nat} {m:Mk} (h:JC fin S i m) (hi:¬ i<m.bodies.length):m=fin:=by
 obtain⟨k,hk,hr⟩:=h.run
 cases k with
 | zero=>simpa [runC] using hr
 | succ k=>simpa [runC,hi] using hr
theorem set_ins (c:List Ins) (p:Nat) (x:Ins):(pvE (c.map insP)).set p [.pv (.int x.1),.pv (.int x.2)]=pvE ((c.set p x).map insP):=by
 rw [List.map_set]
 simp [pvE,List.map_set,insP,pvL]
theorem compile_ok (t:Tm) (hw:t.wf=true) (hz:t.size≤4096):AC Tryz.prog gl 11 [.pv (.agg t.cells)] [] (.ret (.pv (.tuple [.slice (if (finC t).code.length≤4096 then (finC t).code.map insP else []),.int (if (finC t).code.length≤4096 then 0 else 4)]))) []:=by
 have hck:=tcheck_ok t hw (by omega)
 rw [if_pos hz] at hck
 have hb:=block_ok t ⟨[],[],[]⟩ ⟨by simp;omega,by simp;omega,by simp;omega⟩
 have hl0:=blkT_len t ⟨[],[],[]⟩
 have he:=emit_ok (blkT t ⟨[],[],[]⟩) 14 0 ⟨by simp at hl0;omega,by simp at hl0;omega,by simp at hl0;omega⟩
 refine body [(13,.box 910)] Tryz.func11 Tryz.ntmps11 ?_
 have hj:=JC.start t
 unfold begC at hj
 generalize (blkT t ⟨[],[],[]⟩)=m1 at *
 generalize m1.emit 14 0=m2 at *
 generalize finC t=fin at *
 have hl0:m1.code.length≤t.size∧m1.bodies.length≤t.size∧m1.places.length≤t.size:=by simpa using hl0
 simp only [mkO,List.length_nil,List.map_nil,nats,Int.cast_ofNat_Int,← pvE_nil] at hb he
 rw [t.cells_eq] at *
 refine gg ?_
 refine call hck ?_
 refine ggo1 ?_
 refine ex_seq ?_
 refine ggo1 ?_
 refine ex_seq ?_
 refine ggo1 ?_
 refine th 910 0 911 2 70 ?_
 refine th 910 1 912 5 30 ?_
 refine th 910 2 913 1 3 ?_
 refine gg ?_
 refine call hb ?_
 refine gg ?_
 refine call he ?_
 refine gg ?_
 clear hb he hck hl0
 refine AWP.loop (ι:={ x:Nat × Mk // JC fin t.size x.1 x.2 }) (fun x=>⟨[(5,.loc 910 0),(6,.pv (.int x.1.1))],mkO x.1.2,[910,911,912,913]⟩) (fun x=>pend x.1.2 x.1.1) ⟨(0,m2),hj⟩ (by unfold mkO;exact⟨by simp [slotsLe,getS,nats,pvE_nil],by simp [subO,getO,nats,pvE_nil],by simp [subL,namesSl,V.names,namesOb,Ob.names,namesL,namesE,namesE_pvE,XX_given,nats,pvE_nil]⟩) ?_
 rintro⟨⟨i,m⟩,hJ⟩
 dsimp only at hJ ⊢
 have hJ0:=hJ
 clear hj
 obtain⟨q1,q2,q3,q4,q5,_⟩:=hJ
 unfold mkO
 by_cases h:i<m.bodies.length
 ·have h':(i:Int)<m.bodies.length:=by omega
  have hN:=hJ0.next h
  obtain⟨b,hb⟩:∃ b,m.bodies[i]? = some b:=⟨_,List.getElem?_eq_getElem h⟩
  obtain⟨p,hp⟩:∃ p,m.places[i]? = some p:=⟨_,List.getElem?_eq_getElem (by omega)⟩
  have hplt:=q3 p (List.mem_of_getElem? hp)
  obtain⟨x,hx⟩:∃ x,m.code[p]? = some x:=⟨_,List.getElem?_eq_getElem hplt⟩
  have g1:(m.bodies.map Tm.cells)[i]? = some b.cells:=by simp [hb]
  have g2:(nats m.places)[i]? = some [.int (p:Int)]:=by simp [nats,hp]
  have g3:(pvE (m.code.map insP)).getD p []=[.pv (.int x.1),.pv (.int x.2)]:=by simp [List.getD,pvE,hx,insP,pvL]
  have g4:=set_ins m.code p (x.1,m.code.length)
  simp only at g4
  have e1:m.bodies.getD i .unit=b:=by simp [List.getD,hb]
  have e2:m.places.getD i 0=p:=by simp [List.getD,hp]
  have e3:m.code.getD p (0,0)=x:=by simp [List.getD,hx]
  have hst:stepC m i=(blkT b ⟨m.code.set p (x.1,m.code.length),m.bodies,m.places⟩).emit 14 0:=by unfold stepC Mk.patch;rw [e1,e2,e3]
  have hbs:b.size≤pend m i:=by
   have hm:b∈m.bodies.drop i:=by
    rw [List.mem_iff_getElem?]
    exact⟨0,by rw [List.getElem?_drop];simpa using hb⟩
   exact mem_sizes hm
  have hml:m.bodies.length≤i+pend m i:=by
   have:=sizes_len (m.bodies.drop i)
   simp only [List.length_drop] at this
   unfold pend;omega
  have hk:=block_ok b ⟨m.code.set p (x.1,m.code.length),m.bodies,m.places⟩ ⟨by simp;omega,by simp;omega,by simp;omega⟩
  have hlen:=blkT_len b ⟨m.code.set p (x.1,m.code.length),m.bodies,m.places⟩
  simp only [List.length_set] at hlen
  have hem:=emit_ok (blkT b ⟨m.code.set p (x.1,m.code.length),m.bodies,m.places⟩) 14 0 ⟨by omega,by omega,by omega⟩
  rw [← hst] at hem
  clear hst hlen e1 e2 e3 hx hp hJ0
  generalize blkT b ⟨m.code.set p (x.1,m.code.length),m.bodies,m.places⟩=mb at *
  have hal:=insP_all m.code
  have hl1:(m.code.map insP).length=m.code.length:=by simp
  have hl2:(m.bodies.map Tm.cells).length=m.bodies.length:=by simp
  have hl3:(nats m.places).length=m.places.length:=by simp [nats]
  have hp1:(p:Int)<m.code.length:=by omega
  have hp2:(i:Int)<m.places.length:=by omega
  simp only [mkO,List.length_set,Int.cast_ofNat_Int] at hk hem
  rw [b.cells_eq] at hk g1
  generalize (m.code.set p (x.1,m.code.length)).map insP=cs' at *
  generalize hcs:m.code.map insP=cs at *
  generalize hbs':m.bodies.map Tm.cells=bs at *
  generalize hps:nats m.places=ps at *
  clear hb q3 q2
  refine gg ?_
  refine⟨by rfl,?_⟩
  refine gg ?_
  refine call hk ?_
  refine gg ?_
  refine call hem ?_
  refine gg ?_
  refine⟨⟨(i+1,stepC m i),hN.1⟩,hN.2,?_⟩
  dsimp only
  exact⟨by simp [slotsLe,getS],by simp [subO,getO],by simp [subL,namesSl,V.names,namesOb,Ob.names,namesL,namesE,namesE_pvE,XX_given]⟩
 ·have h':¬ (i:Int)<m.bodies.length:=by omega
  have hm:=hJ0.last h
  subst hm
  clear hJ0
  have hl1:(m.code.map insP).length=m.code.length:=by simp
  have ht:=take_map m.code insP
  by_cases hc:(m.code.length:Int)≤4096
  ·have hc':¬ (4096:Int)<m.code.length:=by omega
   have hc2:m.code.length≤4096:=by omega
   rw [if_pos hc2,if_pos hc2]
   refine ggor ?_
   refine frz 911 ?_
   refine gg ?_
   exact⟨by simp [retIs,resV,resL,resOne,mkTup,getS,getO,rdV,mkAgg,unL,V.un,TI.isAgg,XX_T,tt30,Tryz.f11,ht],by simp [subO,getO,tt30,Tryz.f11,ht]⟩
  ·have hc':(4096:Int)<m.code.length:=by omega
   have hc2:¬ m.code.length≤4096:=by omega
   rw [if_neg hc2,if_neg hc2]
   refine gg ?_
   exact enC4
open Go.Lg
set_option maxRecDepth 10000
set_option maxHeartbeats 4000000
theorem vsize_ok (l:List It):AC Tryz.prog gl 101 [.pv (varsP l)] [] (.ret (.pv (.int l.length))) []:=by
 refine body [] Tryz.func101 Tryz.ntmps101 ?_
 cases l with
 | nil =>
  simp only [varsP]
  refine gg ?_
  exact enC4
 | cons x r =>
  simp only [varsP]
  refine gg ?_
  exact enC4
theorem lsize_ok (l:List Nat):AC Tryz.prog gl 102 [.pv (linkP l)] [] (.ret (.pv (.int l.length))) []:=by
 refine body [] Tryz.func102 Tryz.ntmps102 ?_
 cases l with
 | nil =>
  simp only [linkP]
  refine gg ?_
  exact enC4
 | cons x r =>
  simp only [linkP]
  refine gg ?_
  exact enC4
theorem inside_ok (l:List It):AC Tryz.prog gl 128 [.pv (varsP l)] [] (.ret (.pv (.int (insideL l)))) []:=by
 refine body [] Tryz.func128 Tryz.ntmps128 ?_
 cases l with
 | nil =>
  simp only [varsP,insideL]
  refine gg ?_
  exact enC4
 | cons x r =>
  simp only [varsP,insideL]
  refine gg ?_
  exact enC4
theorem number_item_ok (n:Int):AC Tryz.prog gl 129 [.pv (.int n)] [] (.ret (.pv (.ptr [.int 1,.int n,.nil,.nil,.nil,.int 0,.nil,.int 0,.bool false]))) []:=by
 refine body [] Tryz.func129 Tryz.ntmps129 ?_
 refine gg ?_
 exact enC4
theorem num_item_ok (n:Nat):AC Tryz.prog gl 129 [.pv (.int n)] [] (.ret (.pv (itP (.num n)))) []:=by
 have:=number_item_ok n
 simpa [itP] using this
theorem with_ok (l:List It) (x:It) (h1:l.length≤100000) (h2:insideL l≤100000) (h3:x.more≤100000):AC Tryz.prog gl 135 [.pv (varsP l),.pv (itP x)] [] (.ret (.pv (varsP (x::l)))) []:=by
 have a1:=vsize_ok l
 have a2:=inside_ok l
 refine body [] Tryz.func135 Tryz.ntmps135 ?_
 rw [itP_eq]
 simp only [varsP]
 rw [itP_eq]
 cases l with
 | nil =>
  simp only [varsP,insideL,List.length_nil,funcL,Bool.false_or] at *
  cases hf:x.func
  all_goals refine gg ?_
  all_goals refine call a1 ?_
  all_goals refine gg ?_
  all_goals refine call a2 ?_
  all_goals refine gg ?_
  all_goals refine⟨by rfl,?_⟩
  all_goals refine gg ?_
  all_goals exact enC4
 | cons y r =>
  generalize hi:insideL (y::r)=n at *
  generalize hl:(y::r).length=m at *
  simp only [varsP] at *
  generalize varsP r=vr at *
  generalize itP y=vy at *
  have hfn:funcL (y::r)=(funcL r || y.func):=rfl
  rw [hfn]
  generalize (funcL r || y.func)=fb at *
  generalize ((r.length+1:Nat):Int)=i1 at *
  generalize ((insideL r+1+y.more:Nat):Int)=i2 at *
  clear hfn hi hl
  cases hf:x.func<;>cases fb
  all_goals simp only [Bool.true_or,Bool.false_or,Bool.or_false,Bool.or_true]
  all_goals refine gg ?_
  all_goals refine call a1 ?_
  all_goals refine gg ?_
  all_goals refine call a2 ?_
  all_goals refine gg ?_
  all_goals refine⟨by rfl,?_⟩
  all_goals refine gg ?_
  all_goals exact enC4
def fail (e:Int):PV:=.iface 179 (.agg [.int e])
theorem made_ok (x:It) (h:x.more<1024):AC Tryz.prog gl 127 [.pv (itP x)] [] (.ret (.pv (itP x))) []:=by
 have h':¬ (1024:Int)≤x.more:=by omega
 refine body [] Tryz.func127 Tryz.ntmps127 ?_
 rw [itP_eq]
 refine gg ?_
 exact enC4
theorem made_err (x:It) (h:¬ x.more<1024):AC Tryz.prog gl 127 [.pv (itP x)] [] (.panic (fail 4)) []:=by
 have h':(1024:Int)≤x.more:=by omega
 unfold fail
 refine body [] Tryz.func127 Tryz.ntmps127 ?_
 rw [itP_eq]
 refine gg ?_
 refine pnc (t:=179) (p:=.agg [.int 4]) ?_
 refine gg ?_
 exact⟨rfl,trivial⟩
theorem want_ok (x:It):AC Tryz.prog gl 130 [.pv (itP x),.pv (.int x.kind)] [] (.ret (.pv (.tuple []))) []:=by
 refine body [] Tryz.func130 Tryz.ntmps130 ?_
 rw [itP_eq]
 refine gg ?_
 exact enC4
theorem want_err (x:It) (k:Int) (h:¬ x.kind=k):AC Tryz.prog gl 130 [.pv (itP x),.pv (.int k)] [] (.panic (fail 44)) []:=by
 unfold fail
 refine body [] Tryz.func130 Tryz.ntmps130 ?_
 rw [itP_eq]
 refine gg ?_
 refine pnc (t:=179) (p:=.agg [.int 44]) ?_
 refine gg ?_
 exact⟨rfl,trivial⟩
theorem vcells_one {p:PV} (h:p.one=true):vcells (.pv p)=some [.pv p]:=by cases p<;>first|rfl|(simp [PV.one] at h)
open Go.Lg
def TA (c:List Ins):Tm→Nat→Nat→Prop
 | .var i,p,q=>c[p]? = some (1,i)∧q=p+1
 | .lam _ b,p,q=>(∃ A e,c[p]? = some (2,A)∧TA c b A e∧c[e]? = some (14,0))∧q=p+1
 | .app f a,p,q => ∃ m n,TA c f p m∧TA c a m n∧c[n]? = some (3,0)∧q=n+1
 | .zero,p,q=>c[p]? = some (4,0)∧q=p+1
 | .succ a,p,q => ∃ m,TA c a p m∧c[m]? = some (5,0)∧q=m+1
 | .recn _ x y z,p,q => ∃ k m n,TA c x p k∧TA c y k m∧TA c z m n∧c[n]? = some (6,0)∧q=n+1
 | .nil,p,q=>c[p]? = some (7,0)∧q=p+1
 | .cons f a,p,q => ∃ m n,TA c f p m∧TA c a m n∧c[n]? = some (8,0)∧q=n+1
 | .fold _ x y z,p,q => ∃ k m n,TA c x p k∧TA c y k m∧TA c z m n∧c[n]? = some (9,0)∧q=n+1
 | .pair f a,p,q => ∃ m n,TA c f p m∧TA c a m n∧c[n]? = some (10,0)∧q=n+1
 | .fst a,p,q => ∃ m,TA c a p m∧c[m]? = some (11,0)∧q=m+1
 | .snd a,p,q => ∃ m,TA c a p m∧c[m]? = some (12,0)∧q=m+1
 | .unit,p,q=>c[p]? = some (13,0)∧q=p+1
end Go.Proofs.YtodjpfpmhjdhbaaGreatDoor
namespace Go.Proofs.YtodjpfpmhjdhbaaGreatDoor
open Go.Lg
def SA (c:List Ins) (L:List (Nat × Tm)):Tm→Nat→Nat→Prop
 | .var i,p,q=>c[p]? = some (1,i)∧q=p+1
 | .lam _ b,p,q=>((∃ A,c[p]? = some (2,A))∧(p,b)∈L)∧q=p+1
 | .app f a,p,q => ∃ m n,SA c L f p m∧SA c L a m n∧c[n]? = some (3,0)∧q=n+1
 | .zero,p,q=>c[p]? = some (4,0)∧q=p+1
 | .succ a,p,q => ∃ m,SA c L a p m∧c[m]? = some (5,0)∧q=m+1
 | .recn _ x y z,p,q => ∃ k m n,SA c L x p k∧SA c L y k m∧SA c L z m n∧c[n]? = some (6,0)∧q=n+1
 | .nil,p,q=>c[p]? = some (7,0)∧q=p+1
 | .cons f a,p,q => ∃ m n,SA c L f p m∧SA c L a m n∧c[n]? = some (8,0)∧q=n+1
 | .fold _ x y z,p,q => ∃ k m n,SA c L x p k∧SA c L y k m∧SA c L z m n∧c[n]? = some (9,0)∧q=n+1
 | .pair f a,p,q => ∃ m n,SA c L f p m∧SA c L a m n∧c[n]? = some (10,0)∧q=n+1
 | .fst a,p,q => ∃ m,SA c L a p m∧c[m]? = some (11,0)∧q=m+1
 | .snd a,p,q => ∃ m,SA c L a p m∧c[m]? = some (12,0)∧q=m+1
 | .unit,p,q=>c[p]? = some (13,0)∧q=p+1
def Ext (c c':List Ins):Prop:=∀ (p op a:Nat),c[p]? = some (op,a)→∃ a',c'[p]? = some (op,a')∧(op≠2→a'=a)
theorem Ext.trans {a b c:List Ins} (h:Ext a b) (h':Ext b c):Ext a c:=by
 intro p op x hx
 obtain⟨y,hy,e⟩:=h p op x hx
 obtain⟨z,hz,e'⟩:=h' p op y hy
 exact⟨z,hz,fun hn=>by rw [e' hn,e hn]⟩
theorem Ext.app (c d:List Ins):Ext c (c++d):=by
 intro p op a h
 refine⟨a,?_,fun _=>rfl⟩
 rw [List.getElem?_append_left (List.getElem?_eq_some_iff.1 h).1]
 exact h
theorem Ext.pre {c d:List Ins} (h:c <+: d):Ext c d:=by
 obtain⟨e,rfl⟩:=h
 exact .app c e
theorem Ext.set {c:List Ins} {p A:Nat} (h:∃ B,c[p]? = some (2,B)):Ext c (c.set p (2,A)):=by
 intro q op a hq
 rw [List.getElem?_set]
 split
 ·rename_i e
  subst e
  obtain⟨B,hB⟩:=h
  rw [hB] at hq
  cases hq
  rw [if_pos (List.getElem?_eq_some_iff.1 hB).1]
  exact⟨A,rfl,fun hn=>absurd rfl hn⟩
 ·exact⟨a,hq,fun _=>rfl⟩
theorem Ext.get {c c':List Ins} (h:Ext c c') {p op a:Nat} (hn:op≠2) (hp:c[p]? = some (op,a)):c'[p]? = some (op,a):=by
 obtain⟨a',h1,h2⟩:=h p op a hp
 rw [h1,h2 hn]
theorem SA.mono {c c':List Ins} {L L':List (Nat × Tm)} (hc:Ext c c') (hL:∀ x∈L,x∈L'):∀ {t:Tm} {p q:Nat},SA c L t p q→SA c' L' t p q:=by
 intro t
 induction t with
 | var i=>rintro p q ⟨h,e⟩;exact⟨hc.get (by decide) h,e⟩
 | lam s b ih =>
  rintro p q ⟨⟨⟨A,h⟩,hm⟩,e⟩
  obtain⟨a',h',-⟩:=hc _ _ _ h
  exact⟨⟨⟨a',h'⟩,hL _ hm⟩,e⟩
 | app f a i1 i2=>rintro p q ⟨m,n,h1,h2,h3,e⟩;exact⟨m,n,i1 h1,i2 h2,hc.get (by decide) h3,e⟩
 | zero=>rintro p q ⟨h,e⟩;exact⟨hc.get (by decide) h,e⟩
 | succ a i=>rintro p q ⟨m,h1,h2,e⟩;exact⟨m,i h1,hc.get (by decide) h2,e⟩
 | recn s x y z i1 i2 i3=>rintro p q ⟨k,m,n,h1,h2,h3,h4,e⟩;exact⟨k,m,n,i1 h1,i2 h2,i3 h3,hc.get (by decide) h4,e⟩
 | nil=>rintro p q ⟨h,e⟩;exact⟨hc.get (by decide) h,e⟩
 | cons f a i1 i2=>rintro p q ⟨m,n,h1,h2,h3,e⟩;exact⟨m,n,i1 h1,i2 h2,hc.get (by decide) h3,e⟩
 | fold s x y z i1 i2 i3=>rintro p q ⟨k,m,n,h1,h2,h3,h4,e⟩;exact⟨k,m,n,i1 h1,i2 h2,i3 h3,hc.get (by decide) h4,e⟩
 | pair f a i1 i2=>rintro p q ⟨m,n,h1,h2,h3,e⟩;exact⟨m,n,i1 h1,i2 h2,hc.get (by decide) h3,e⟩
 | fst a i=>rintro p q ⟨m,h1,h2,e⟩;exact⟨m,i h1,hc.get (by decide) h2,e⟩
 | snd a i=>rintro p q ⟨m,h1,h2,e⟩;exact⟨m,i h1,hc.get (by decide) h2,e⟩
 | unit=>rintro p q ⟨h,e⟩;exact⟨hc.get (by decide) h,e⟩
def Mk.prs (m:Mk):List (Nat × Tm):=m.places.zip m.bodies
theorem emit_last (m:Mk) (a b:Nat):(m.emit a b).code[m.code.length]? = some (a,b):=by simp [Mk.emit]
theorem emit_ext (m:Mk) (a b:Nat):Ext m.code (m.emit a b).code:=.app _ _
theorem emit_prs (m:Mk) (a b:Nat):(m.emit a b).prs=m.prs:=rfl
theorem emit_len (m:Mk) (a b:Nat):(m.emit a b).code.length=m.code.length+1:=by simp [Mk.emit]
theorem blk_len (t:Tm) (m:Mk) (h:m.places.length=m.bodies.length):(blkT t m).places.length=(blkT t m).bodies.length:=by
 rw [blk_placeslen,blk_bodies,List.length_append,h]
theorem blk_prs (t:Tm):∀ m:Mk,m.places.length=m.bodies.length→∀ x∈m.prs,x∈(blkT t m).prs:=by
 induction t with
 | var i=>intro m h x hx;exact hx
 | zero=>intro m h x hx;exact hx
 | nil=>intro m h x hx;exact hx
 | unit=>intro m h x hx;exact hx
 | lam s b ih =>
  intro m h x hx
  simp only [blkT,Mk.prs,List.zip_append h]
  exact List.mem_append.2 (.inl hx)
 | succ a i=>intro m h x hx;exact i m h x hx
 | fst a i=>intro m h x hx;exact i m h x hx
 | snd a i=>intro m h x hx;exact i m h x hx
 | app a b i j=>intro m h x hx;exact j _ (blk_len a m h) x (i m h x hx)
 | cons a b i j=>intro m h x hx;exact j _ (blk_len a m h) x (i m h x hx)
 | pair a b i j=>intro m h x hx;exact j _ (blk_len a m h) x (i m h x hx)
 | recn s a b c i j k=>intro m h x hx;exact k _ (blk_len b _ (blk_len a m h)) x (j _ (blk_len a m h) x (i m h x hx))
 | fold s a b c i j k=>intro m h x hx;exact k _ (blk_len b _ (blk_len a m h)) x (j _ (blk_len a m h) x (i m h x hx))
theorem blk_SA (t:Tm):∀ m:Mk,m.places.length=m.bodies.length→SA (blkT t m).code (blkT t m).prs t m.code.length (blkT t m).code.length:=by
 induction t with
 | var i=>intro m h;exact⟨emit_last m _ _,emit_len m _ _⟩
 | zero=>intro m h;exact⟨emit_last m _ _,emit_len m _ _⟩
 | nil=>intro m h;exact⟨emit_last m _ _,emit_len m _ _⟩
 | unit=>intro m h;exact⟨emit_last m _ _,emit_len m _ _⟩
 | lam s b ih =>
  intro m h
  refine⟨⟨⟨0,?_⟩,?_⟩,?_⟩
  ·simp [blkT]
  ·simp [blkT,Mk.prs,List.zip_append h]
  ·simp [blkT]
 | succ a i=>intro m h;exact⟨_,(i m h).mono (emit_ext _ _ _) (fun x hx=>hx),emit_last _ _ _,emit_len _ _ _⟩
 | fst a i=>intro m h;exact⟨_,(i m h).mono (emit_ext _ _ _) (fun x hx=>hx),emit_last _ _ _,emit_len _ _ _⟩
 | snd a i=>intro m h;exact⟨_,(i m h).mono (emit_ext _ _ _) (fun x hx=>hx),emit_last _ _ _,emit_len _ _ _⟩
 | app a b i j=>intro m h;exact⟨_,_,(i m h).mono ((Ext.pre (blk_code b _)).trans (emit_ext _ _ _)) (blk_prs b _ (blk_len a m h)),(j _ (blk_len a m h)).mono (emit_ext _ _ _) (fun x hx=>hx),emit_last _ _ _,emit_len _ _ _⟩
 | cons a b i j=>intro m h;exact⟨_,_,(i m h).mono ((Ext.pre (blk_code b _)).trans (emit_ext _ _ _)) (blk_prs b _ (blk_len a m h)),(j _ (blk_len a m h)).mono (emit_ext _ _ _) (fun x hx=>hx),emit_last _ _ _,emit_len _ _ _⟩
 | pair a b i j=>intro m h;exact⟨_,_,(i m h).mono ((Ext.pre (blk_code b _)).trans (emit_ext _ _ _)) (blk_prs b _ (blk_len a m h)),(j _ (blk_len a m h)).mono (emit_ext _ _ _) (fun x hx=>hx),emit_last _ _ _,emit_len _ _ _⟩
 | recn s a b c i j k =>
  intro m h
  have l1:=blk_len a m h
  have l2:=blk_len b _ l1
  exact⟨_,_,_,(i m h).mono (((Ext.pre (blk_code b _)).trans (Ext.pre (blk_code c _))).trans (emit_ext _ _ _)) (fun x hx=>blk_prs c _ l2 x (blk_prs b _ l1 x hx)),
   (j _ l1).mono ((Ext.pre (blk_code c _)).trans (emit_ext _ _ _)) (blk_prs c _ l2),(k _ l2).mono (emit_ext _ _ _) (fun x hx=>hx),emit_last _ _ _,emit_len _ _ _⟩
 | fold s a b c i j k =>
  intro m h
  have l1:=blk_len a m h
  have l2:=blk_len b _ l1
  exact⟨_,_,_,(i m h).mono (((Ext.pre (blk_code b _)).trans (Ext.pre (blk_code c _))).trans (emit_ext _ _ _)) (fun x hx=>blk_prs c _ l2 x (blk_prs b _ l1 x hx)),
   (j _ l1).mono ((Ext.pre (blk_code c _)).trans (emit_ext _ _ _)) (blk_prs c _ l2),(k _ l2).mono (emit_ext _ _ _) (fun x hx=>hx),emit_last _ _ _,emit_len _ _ _⟩
end Go.Proofs.YtodjpfpmhjdhbaaGreatDoor
