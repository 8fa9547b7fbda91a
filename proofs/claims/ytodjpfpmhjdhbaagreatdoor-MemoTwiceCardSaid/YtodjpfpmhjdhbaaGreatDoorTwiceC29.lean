/- Contracts of functions; no conditions. -/
import Derived.Test.YtodjpfpmhjdhbaaGreatDoorTwiceC19
import Derived.Test.YtodjpfpmhjdhbaaGreatDoorTwiceC24
import Derived.Test.YtodjpfpmhjdhbaaGreatDoorTwiceC20
import Derived.Test.YtodjpfpmhjdhbaaGreatDoorTwiceC2
import Derived.Test.YtodjpfpmhjdhbaaGreatDoorTwiceC28
import Derived.Test.YtodjpfpmhjdhbaaGreatDoorTwiceC26
import Derived.Test.YtodjpfpmhjdhbaaGreatDoorTwiceC27
set_option linter.all false
theorem Go.Proofs.YtodjpfpmhjdhbaaGreatDoor.onC29 {s : Go.Lg.PV} (h : s.one = true) : (Go.Lg.V.pv s).one = true := by rw [Go.Lg.one_pv]; exact h
namespace Go.Proofs.YtodjpfpmhjdhbaaGreatDoor
open Go.Lg
theorem enC29 {P Q : Prop} (h : P := by simp [retIs,resV,resL,resOne,mkTup,getS,getO,rdV,mkAgg,unL,V.un,TI.isAgg,XX_T,tt27,Tryz.f60,Tryz.f24,tt30,Tryz.f25,tt41,tt47,Tryz.f6]) (k : Q := by simp [subO,getO,tt27,Tryz.f60,Tryz.f24,tt30,Tryz.f25,tt41,tt47,Tryz.f6]) : P ∧ Q := ⟨h,k⟩
end Go.Proofs.YtodjpfpmhjdhbaaGreatDoor
namespace Go.Proofs.YtodjpfpmhjdhbaaGreatDoor
open Go.Lg
def BE (c:List Ins) (j:Jb) (x:It):Prop:=∃ k d z,BB c j x k d z
theorem BE.op {c:List Ins} {p op a:Nat} {vs rs rs':List It} {z:Bool} {x:It} (h1:c[p]? = some (op,a)) (h2:sOp op a vs rs=some (rs',z)) (h:BE c (.blk (p+1) vs rs') x):BE c (.blk p vs rs) x:=by
 obtain⟨k,d,z',h⟩:=h
 exact⟨_,_,_,.op h1 h2 h⟩
def MeansB (c:List Ins):Jd→Rs→Prop
 | .ev env t,r => ∀ p q vs,TA c t p q→VRs c vs env→∃ y,VR c y r ∧ ∀ rs x,BE c (.blk q vs (y::rs)) x→BE c (.blk p vs rs) x
 | .ap f x,r => ∀ F X,VR c F f→VR c X x→∃ y,VR c y r∧BE c (.cal F X) y
 | .rc f b k n,r=>k<n→∀ F B,VR c F f→VR c B b→∃ y,VR c y r∧BE c (.rds F (.num k) ⟨F,k,none,n,B,[B]⟩) y
 | .fd f b zs,r => ∀ h t zs',zs=(h,t)::zs'→∀ F B (all:List (Nat × List Nat)) k,VR c F f→VR c B b→all.drop k=zs→∃ y,VR c y r∧BE c (.rds F (.num h) ⟨F,k,some all,all.length,B,[.list t,B]⟩) y
theorem BE.last {c:List Ins} {f a y:It} {r r':Rd} (h:BE c (.cal f a) y) (h2:r.returned y=some (none,r')):BE c (.rds f a r) y:=by
 obtain⟨k,d,z,h⟩:=h
 exact⟨_,_,_,.last h h2⟩
theorem BE.more {c:List Ins} {f a y f' a' x:It} {r r':Rd} (h:BE c (.cal f a) y) (h2:r.returned y=some (some (f',a'),r')) (h3:BE c (.rds f' a' r') x):BE c (.rds f a r) x:=by
 obtain⟨k,d,z,h⟩:=h
 obtain⟨k',d',z',h3⟩:=h3
 exact⟨_,_,_,.more h h2 h3⟩
theorem meansB {c:List Ins} {j:Jd} {r:Rs} (h:Ev j r):MeansB c j r:=by
 induction h with
 | @var e i r hi =>
  rintro p q vs ⟨h1,rfl⟩ hv
  obtain⟨x,hx⟩:∃ x,vs[i]? = some x:=⟨_,List.getElem?_eq_getElem (by rw [hv.1];exact (List.getElem?_eq_some_iff.1 hi).1)⟩
  exact⟨x,hv.2 i x r hx hi,fun rs y h => .op h1 (by simp only [sOp,hx];rfl) h⟩
 | @lam e s b =>
  rintro p q vs ⟨⟨A,ee,h1,h2,h3⟩,rfl⟩ hv
  exact⟨.fn A vs,.fn h2 h3 hv.1 hv.2,fun rs y h => .op h1 rfl h⟩
 | @app e f a g x r _ _ _ i1 i2 i3 =>
  rintro p q vs ⟨m1,m2,t1,t2,t3,rfl⟩ hv
  obtain⟨F,hF,k1⟩:=i1 p m1 vs t1 hv
  obtain⟨X,hX,k2⟩:=i2 m1 m2 vs t2 hv
  obtain⟨y,hy,k,d,z,hb⟩:=i3 F X hF hX
  refine⟨y,hy,fun rs w h=>k1 rs w (k2 (F::rs) w ?_)⟩
  obtain⟨k',d',z',h⟩:=h
  exact⟨_,_,_,.app t3 hb h⟩
 | zero =>
  rintro p q vs ⟨h1,rfl⟩ hv
  exact⟨_,.num 0,fun rs y h => .op h1 rfl h⟩
 | nil =>
  rintro p q vs ⟨h1,rfl⟩ hv
  exact⟨_,.list [],fun rs y h => .op h1 rfl h⟩
 | unit =>
  rintro p q vs ⟨h1,rfl⟩ hv
  exact⟨_,.unit,fun rs y h => .op h1 rfl h⟩
 | @succ e a n _ i1 =>
  rintro p q vs ⟨m1,t1,t2,rfl⟩ hv
  obtain⟨F,hF,k1⟩:=i1 p m1 vs t1 hv
  cases hF
  exact⟨_,.num (n+1),fun rs y h=>k1 rs y (.op t2 rfl h)⟩
 | @fst e x a b _ i1 =>
  rintro p q vs ⟨m1,t1,t2,rfl⟩ hv
  obtain⟨F,hF,k1⟩:=i1 p m1 vs t1 hv
  cases hF with
  | pair hu hv'=>exact⟨_,hu,fun rs y h=>k1 rs y (.op t2 rfl h)⟩
 | @snd e x a b _ i1 =>
  rintro p q vs ⟨m1,t1,t2,rfl⟩ hv
  obtain⟨F,hF,k1⟩:=i1 p m1 vs t1 hv
  cases hF with
  | pair hu hv'=>exact⟨_,hv',fun rs y h=>k1 rs y (.op t2 rfl h)⟩
 | @cons e x y n zs _ _ i1 i2 =>
  rintro p q vs ⟨m1,m2,t1,t2,t3,rfl⟩ hv
  obtain⟨F,hF,k1⟩:=i1 p m1 vs t1 hv
  obtain⟨X,hX,k2⟩:=i2 m1 m2 vs t2 hv
  cases hF
  cases hX
  exact⟨_,.list (n::zs),fun rs y h=>k1 rs y (k2 _ y (.op t3 rfl h))⟩
 | @pair e x y a b _ _ i1 i2 =>
  rintro p q vs ⟨m1,m2,t1,t2,t3,rfl⟩ hv
  obtain⟨F,hF,k1⟩:=i1 p m1 vs t1 hv
  obtain⟨X,hX,k2⟩:=i2 m1 m2 vs t2 hv
  exact⟨_,.pair hF hX,fun rs y h=>k1 rs y (k2 _ y (.op t3 rfl h))⟩
 | @ap b e x r _ i1 =>
  intro F X hF hX
  cases hF with
  | @fn A ee vs _ _ h2 h3 h4 h5 =>
   obtain⟨y,hy,k1⟩:=i1 A ee (X::vs) h2 (VRs.cons ⟨h4,h5⟩ hX)
   obtain⟨k,d,z,h⟩:=k1 [] y ⟨_,_,_,.ret h3⟩
   exact⟨y,hy,_,_,_,.cal h⟩
 | @recn e s x y z b gb ge n r _ _ _ h4 i1 i2 i3 i4 =>
  rintro p q vs ⟨m0,m1,m2,t1,t2,t3,t4,rfl⟩ hv
  obtain⟨B,hB,k1⟩:=i1 p m0 vs t1 hv
  obtain⟨F,hF,k2⟩:=i2 m0 m1 vs t2 hv
  obtain⟨X,hX,k3⟩:=i3 m1 m2 vs t3 hv
  cases hX
  have hF':=hF
  cases hF with
  | @fn A ee ws _ _ g1 g2 g3 g4 =>
   by_cases hn:n=0
   ·subst hn
    obtain rfl:=rc_inv h4
    refine⟨B,hB,fun rs w h=>k1 rs w (k2 _ w (k3 _ w ?_))⟩
    obtain⟨k',d',z',h⟩:=h
    exact⟨_,_,_,.rec0 (r:=⟨.fn A ws,0,none,0,B,[]⟩) false t4 rfl rfl h⟩
   ·obtain⟨y,hy,k,d,z,hb⟩:=i4 (by omega) _ B hF' hB
    refine⟨y,hy,fun rs w h=>k1 rs w (k2 _ w (k3 _ w ?_))⟩
    obtain⟨k',d',z',h⟩:=h
    exact⟨_,_,_,.recS (r:=⟨.fn A ws,0,none,n,B,[]⟩) false t4 rfl hn rfl hb h⟩
 | @fold e s x y z b gb ge zs r _ _ _ h4 i1 i2 i3 i4 =>
  rintro p q vs ⟨m0,m1,m2,t1,t2,t3,t4,rfl⟩ hv
  obtain⟨B,hB,k1⟩:=i1 p m0 vs t1 hv
  obtain⟨F,hF,k2⟩:=i2 m0 m1 vs t2 hv
  obtain⟨X,hX,k3⟩:=i3 m1 m2 vs t3 hv
  cases hX
  have hF':=hF
  cases hF with
  | @fn A ee ws _ _ g1 g2 g3 g4 =>
   have hlen:=foldArgs_len zs
   cases hz:foldArgs zs with
   | nil =>
    rw [hz] at h4 hlen
    obtain rfl:=fd_inv h4
    have hz0:zs.length=0:=by simpa using hlen.symm
    refine⟨B,hB,fun rs w h=>k1 rs w (k2 _ w (k3 _ w ?_))⟩
    obtain⟨k',d',z',h⟩:=h
    exact⟨_,_,_,.rec0 (r:=⟨.fn A ws,0,some (foldArgs zs),zs.length,B,[]⟩) true t4 rfl hz0 h⟩
   | cons ht rest =>
    obtain⟨h,t⟩:=ht
    have hz0:¬ zs.length=0:=by rw [hz] at hlen;simp at hlen;omega
    have hg:(foldArgs zs)[0]? = some (h,t):=by rw [hz];rfl
    obtain⟨y,hy,k,d,z,hb⟩:=i4 h t rest hz _ B _ 0 hF' hB rfl
    refine⟨y,hy,fun rs w h=>k1 rs w (k2 _ w (k3 _ w ?_))⟩
    obtain⟨k',d',z',h⟩:=h
    rw [hlen] at hb
    exact⟨_,_,_,.recS (r:=⟨.fn A ws,0,some (foldArgs zs),zs.length,B,[]⟩) true t4 rfl hz0 (by simp only [Rd.begin,hg]) hb h⟩
 | rcDone =>
  intro h
  omega
 | @rcStep f b k n g b' r hk _ _ h3 i1 i2 i3 =>
  intro _ F B hF hB
  obtain⟨G,hG,b1⟩:=i1 F (.num k) hF (.num k)
  obtain⟨B',hB',b2⟩:=i2 G B hG hB
  by_cases hn:k+1=n
  ·subst hn
   obtain rfl:=rc_inv h3
   exact⟨B',hB',.more b1 rfl (.last (r':=⟨F,k+1,none,k+1,B',[]⟩) b2 (by simp [Rd.returned]))⟩
  ·obtain⟨y,hy,b3⟩:=i3 (by omega) F B' hF hB'
   exact⟨y,hy,.more b1 rfl (.more b2 (by simp only [Rd.returned];rw [if_neg hn];rfl) b3)⟩
 | fdDone =>
  intro h t zs' e
  cases e
 | @fdStep f b h t zs g g' b' r _ _ _ h4 i1 i2 i3 i4 =>
  intro h' t' zs' e F B all k hF hB hall
  cases e
  obtain⟨G,hG,b1⟩:=i1 F (.num h) hF (.num h)
  obtain⟨G',hG',b2⟩:=i2 G (.list t) hG (.list t)
  obtain⟨B',hB',b3⟩:=i3 G' B hG' hB
  have hl:=congrArg List.length hall
  simp only [List.length_drop,List.length_cons] at hl
  have hd:all.drop (k+1)=zs:=by
   have:=congrArg (List.drop 1) hall
   simpa [List.drop_drop,Nat.add_comm] using this
  by_cases hn:k+1=all.length
  ·have hz:zs=[]:=by rw [← hd,hn];simp
   subst hz
   obtain rfl:=fd_inv h4
   exact⟨B',hB',.more b1 rfl (.more b2 rfl (.last b3 (by simp only [Rd.returned];rw [if_pos hn])))⟩
  ·cases zs with
   | nil=>simp at hl;omega
   | cons ht rest =>
    obtain⟨h2,t2⟩:=ht
    have hg:all[k+1]? = some (h2,t2):=by
     have:=congrArg (fun l=>l[0]?) hd
     simpa using this
    obtain⟨y,hy,b4⟩:=i4 h2 t2 rest rfl F B' all (k+1) hF hB' hd
    exact⟨y,hy,.more b1 rfl (.more b2 rfl (.more b3 (by simp only [Rd.returned];rw [if_neg hn];simp only [Rd.begin,hg]) b4))⟩
section
variable {c:List Ins} {l:Nat} {P:Mm→Prop}
theorem opM {m:Mm} {p op a:Nat} {rs rs':List It} {z:Bool} (ha:m.at_=((p:Nat):Int)) (hc:c[p]? = some (op,a)) (h:sOp op a m.vars rs=some (rs',z)) (lo:List It) (hs:m.stack=lo++rs.reverse)
  (k:∀ m':Mm,m'.stack=lo++rs'.reverse→m'.at_=((p+1:Nat):Int)→m'.vars=m.vars→m'.frames=m.frames→m'.tab=m.tab→m'.steps=m.steps+1→OutM c l False m' P):OutM c l False m P:=by
 obtain⟨r,hr,hz⟩:=exec_s h { m with steps:=m.steps+1,at_:=((p+1:Nat):Int) } lo (1000+m.steps) rfl hs
 refine OutM.step ha hc hr (fun h=>h.elim) ?_
 rcases hz with ⟨rfl,m',rfl,h1,h2,h3,h4,h5,h6⟩|⟨rfl,rfl⟩
 ·exact k m' h1 h2 h3 h4 h5 h6
 ·exact⟨.inl rfl,fun h=>h⟩
theorem numM (n:Nat):∀ (p q:Nat) (m:Mm),TA c (numT n) p q→m.at_=((p:Nat):Int) →
  (∀ m':Mm,m'.stack=m.stack++[.num n]→m'.at_=((q:Nat):Int)→m'.vars=m.vars→m'.frames=m.frames→m'.tab=m.tab→m.steps≤m'.steps→OutM c l False m' P)→OutM c l False m P:=by
 induction n generalizing P with
 | zero =>
  rintro p q m ⟨h1,rfl⟩ ha k
  refine opM ha h1 (rs:=[]) (rs':=[.num 0]) (z:=true) rfl m.stack (by simp) ?_
  intro m' h1 h2 h3 h4 h5 h6
  exact k m' (by simpa using h1) h2 h3 h4 h5 (by omega)
 | succ n ih =>
  rintro p q m ⟨q',h1,h2,rfl⟩ ha k
  refine ih p q' m h1 ha ?_
  intro m1 a1 a2 a3 a4 a5 a6
  refine opM a2 h2 (rs:=[.num n]) (rs':=[.num (n+1)]) (z:=true) rfl m.stack (by simpa using a1) ?_
  intro m' h1 h2 h3 h4 h5 h6
  exact k m' (by simpa using h1) h2 (h3.trans a3) (h4.trans a4) (h5.trans a5) (by omega)
def InvM (c:List Ins) (m:Mm):Prop:=TI c m.tab∧m.tab.res.length≤m.steps
theorem InvM.to {m m':Mm} (h:InvM c m) (ht:m'.tab=m.tab) (hs:m.steps≤m'.steps):InvM c m':=⟨by rw [ht];exact h.1,by rw [ht];exact Nat.le_trans h.2 hs⟩
theorem InvM.gm {m m':Mm} {k:Nat} (h:InvM c m) (g:Gm c k m m'):InvM c m':=⟨g.ti,by have:=g.few;have:=h.2;omega⟩
theorem callM {m:Mm} {p A n:Nat} {s:List It} {y:It} {k1 d1:Nat} {z1:Bool} (hb:BB c (.cal (.fn A []) (.num n)) y k1 d1 z1) (ha:m.at_=((p:Nat):Int)) (hc:c[p]? = some (3,0)) (hs:m.stack=s++[.fn A [],.num n]) (hi:InvM c m)
  (k:∀ m':Mm,m'.stack=s++[y]→m'.at_=((p+1:Nat):Int)→m'.vars=m.vars→m'.frames=m.frames→InvM c m'→m.tab.hits≤m'.tab.hits→m.steps≤m'.steps →
   (m.tab.hits<m'.tab.hits ∨ ¬ Has m.tab (.fn A []) (.num n)∧(Has m'.tab (.fn A []) (.num n)∨256≤m'.steps))→OutM c l False m' P):OutM c l False m P:=by
 have hp1:=popM_eq (m:={ m with steps:=m.steps+1,at_:=((p+1:Nat):Int) }) (s:=s++[.fn A []]) (x:=.num n) (by simpa using hs)
 have hp2:=popM_eq (m:={ m with steps:=m.steps+1,at_:=((p+1:Nat):Int),stack:=s++[.fn A []],sg:=.num n::m.sg }) (s:=s) (x:=.fn A []) rfl
 have hpl:plainC (.fn A []) (.num n)=true:=rfl
 have ht:=hi.1
 by_cases hh:Has m.tab (.fn A []) (.num n)
 ·obtain⟨kk,y',e1,e2⟩:=hh
  have hl:lookM { m with steps:=m.steps+1,at_:=((p+1:Nat):Int),stack:=s,sg:=.fn A [] :: .num n::m.sg } (.fn A []) (.num n)=some y':=by
   unfold lookM
   rw [if_pos hpl]
   simp only [Tab.get,e1]
   exact e2
  obtain rfl:=lookM_ti hl ht hb
  refine OutM.step ha hc (r:=_) (by simp only [Mm.exec,hp1,hp2];exact enterN_hit0 hl 0) (fun h=>h.elim) ?_
  have hg:Gm c (1+0) m (hitM { m with steps:=m.steps+1,at_:=((p+1:Nat):Int),stack:=s,sg:=.fn A [] :: .num n::m.sg } (.fn A []) (.num n)) :=
   (Gm.one (m':={ m with steps:=m.steps+1,at_:=((p+1:Nat):Int),stack:=s,sg:=.fn A [] :: .num n::m.sg }) ht rfl rfl).trans (Gm.hit (m:={ m with steps:=m.steps+1,at_:=((p+1:Nat):Int),stack:=s,sg:=.fn A [] :: .num n::m.sg }) ht 0 _ _)
  refine k _ rfl rfl rfl rfl (hi.gm (hg.to rfl rfl rfl rfl)) hg.grow.hits hg.lo (.inl ?_)
  simp only [Mm.push,hitM,Tab.hit]
  omega
 ·obtain⟨res,h1,h2⟩:=call_step (l:=l) hb (meansM l hb) { m with steps:=m.steps+1,at_:=((p+1:Nat):Int),stack:=s,sg:=.fn A [] :: .num n::m.sg } (p:=p+1) rfl ht
  refine OutM.step ha hc (r:=res) (by simp only [Mm.exec,hp1,hp2];exact h1) (fun h=>h.elim) ?_
  refine h2.bind (fun h=>h.elim) ?_
  rintro m3 ⟨⟨b1,b2,b3,b4,b5⟩,b6⟩
  have hg:Gm c (1+k1) m m3:=(Gm.one (m':={ m with steps:=m.steps+1,at_:=((p+1:Nat):Int),stack:=s,sg:=.fn A [] :: .num n::m.sg }) ht rfl rfl).trans b5
  have hi3:=hi.gm hg
  refine k m3 b1 b2 b3 b4 hi3 hg.grow.hits hg.lo ?_
  rcases b6 hpl with b|b|b
  ·exact .inl b
  ·exact .inr ⟨hh,.inl b⟩
  ·exact .inr ⟨hh,.inr (Nat.le_trans b hi3.2)⟩
theorem twiceM {A0 e0 A1 n j k1 d1:Nat} {z1:Bool} (c0:c[0]? = some (2,A0)) (c1:c[1]? = some (2,A1)) (c2:c[2]? = some (3,0)) (c3:c[3]? = some (14,0))
  (hT:TA c (.pair (.app (.var 0) (numT n)) (.app (.var 0) (numT n))) A0 e0) (ce:c[e0]? = some (14,0)) (hb:BB c (.cal (.fn A1 []) (.num n)) (.num j) k1 d1 z1) :
  (∃ e,RunsM c l mm0 (.err e)∧(e=4∨e=5)) ∨ ∃ m,RunsM c l mm0 (.stop m)∧m.stack=[.pair (.num j) (.num j)]∧(1≤m.tab.hits∨256≤m.steps):=by
 have key:OutM c l False mm0 (fun m=>m.at_=((3:Nat):Int)∧m.stack=[.pair (.num j) (.num j)]∧m.frames=[]∧(1≤m.tab.hits∨256≤m.steps)):=by
  have i0:InvM c mm0:=⟨by intro k y h;simp [mm0,rGet] at h,Nat.le_refl _⟩
  refine opM (m:=mm0) (p:=0) rfl c0 (rs:=[]) (rs':=[.fn A0 []]) (z:=true) rfl [] rfl ?_
  intro m1 s1 a1 v1 f1 t1 n1
  refine opM a1 c1 (rs:=[]) (rs':=[.fn A1 []]) (z:=true) (by rw [v1];rfl) [.fn A0 []] (by simpa using s1) ?_
  intro m2 s2 a2 v2 f2 t2 n2
  have i2:InvM c m2:=i0.to (t2.trans t1) (by omega)
  have hp1:=popM_eq (m:={ m2 with steps:=m2.steps+1,at_:=((2+1:Nat):Int) }) (s:=[.fn A0 []]) (x:=.fn A1 []) (by simpa using s2)
  have hp2:=popM_eq (m:={ m2 with steps:=m2.steps+1,at_:=((2+1:Nat):Int),stack:=[.fn A0 []],sg:=.fn A1 []::m2.sg }) (s:=[]) (x:=.fn A0 []) rfl
  have hf2:m2.frames=[]:=f2.trans (f1.trans rfl)
  have hl:lookM { m2 with steps:=m2.steps+1,at_:=((2+1:Nat):Int),stack:=[],sg:=.fn A0 [] :: .fn A1 []::m2.sg } (.fn A0 []) (.fn A1 [])=none:=rfl
  have hen:=enterN_miss hl 0 none
  have hin:(missM { m2 with steps:=m2.steps+1,at_:=((2+1:Nat):Int),stack:=[],sg:=.fn A0 [] :: .fn A1 []::m2.sg } (.fn A0 []) (.fn A1 [])).into (.fn A0 []) (.fn A1 []) A0 [] none
    = .go { m2 with steps:=m2.steps+1,at_:=((A0:Nat):Int),stack:=[],sg:=.fn A0 [] :: .fn A1 []::m2.sg,frames:=[⟨((2+1:Nat):Int),m2.vars,.fn A0 [],.fn A1 [],none⟩],fg:=[],fv:=m2.fv+1,vars:=[.fn A1 []] }:=by
   show Mm.into _ _ _ _ _ _=_
   unfold Mm.into
   rw [if_neg]
   ·simp [missM,plainC,It.func,hf2]
   ·simp [missM,plainC,It.func,hf2]
  rw [hin] at hen
  refine OutM.step a2 c2 (r:=_) (by simp only [Mm.exec,hp1,hp2];exact hen) (fun h=>h.elim) ?_
  obtain⟨q1,q2,⟨w1,w2,⟨x1,rfl⟩,x2,x3,rfl⟩,⟨u1,u2,⟨y1,rfl⟩,y2,y3,rfl⟩,y4,rfl⟩:=hT
  refine opM (p:=A0) rfl x1 (rs:=[]) (rs':=[.fn A1 []]) (z:=true) rfl [] rfl ?_
  intro m3 s3 a3 v3 f3 t3 n3
  refine numM n _ _ m3 x2 a3 ?_
  intro m4 s4 a4 v4 f4 t4 n4
  have i4:InvM c m4:=i2.to (t4.trans t3) (by have:m2.steps+1+1=m3.steps:=n3.symm;omega)
  refine callM hb a4 x3 (s:=[]) (by rw [s4,s3];rfl) i4 ?_
  intro m5 s5 a5 v5 f5 i5 h5 n5 w5
  refine opM a5 y1 (rs:=[]) (rs':=[.fn A1 []]) (z:=true) (by rw [v5,v4,v3];rfl) [.num j] (by simpa using s5) ?_
  intro m6 s6 a6 v6 f6 t6 n6
  refine numM n _ _ m6 y2 a6 ?_
  intro m7 s7 a7 v7 f7 t7 n7
  have i7:InvM c m7:=i5.to (t7.trans t6) (by omega)
  refine callM hb a7 y3 (s:=[.num j]) (by rw [s7,s6];rfl) i7 ?_
  intro m8 s8 a8 v8 f8 i8 h8 n8 w8
  refine opM a8 y4 (rs:=[.num j,.num j]) (rs':=[.pair (.num j) (.num j)]) (z:=true) rfl [] (by rw [s8];rfl) ?_
  intro m9 s9 a9 v9 f9 t9 n9
  have t57:m7.tab=m5.tab:=t7.trans t6
  have hW:1≤m9.tab.hits∨256≤m9.steps:=by
   rw [t9]
   rw [t57] at h8 w8
   rcases w5 with w|⟨-,w|w⟩
   ·left;omega
   ·rcases w8 with b|⟨b,-⟩
    ·left;omega
    ·exact absurd w b
   ·right;omega
  have hf9:m9.frames=[]++[⟨((2+1:Nat):Int),m2.vars,.fn A0 [],.fn A1 [],none⟩]:=by rw [f9,f8,f7,f6,f5,f4,f3];rfl
  have hs9:m9.stack=[]++[.pair (.num j) (.num j)]:=by rw [s9];rfl
  have hle:=leave_eq (m:={ m9 with steps:=m9.steps+1,at_:=((u2+1+1+1:Nat):Int) }) (s:=[]) (x:=.pair (.num j) (.num j)) (fs:=[]) (fr:=⟨((2+1:Nat):Int),m2.vars,.fn A0 [],.fn A1 [],none⟩) hs9 hf9
  refine OutM.step a9 ce (r:=_) (show Mm.leave _=some (.go (Mm.push { m9 with steps:=m9.steps+1,at_:=((2+1:Nat):Int),stack:=[],sg:=.pair (.num j) (.num j)::m9.sg,frames:=[],fg:=⟨((2+1:Nat):Int),m2.vars,.fn A0 [],.fn A1 [],none⟩::m9.fg,vars:=m2.vars } (.pair (.num j) (.num j)))) by
   rw [hle]
   rfl) (fun h=>h.elim) ?_
  exact OutM.now ⟨rfl,rfl,rfl,hW.imp id (fun h=>by show 256≤m9.steps+1;omega)⟩
 rcases key with ⟨e,h1,h2,-⟩|⟨m',g,ha,hs,hf,hw⟩
 ·exact .inl ⟨e,h1,h2⟩
 ·by_cases hl:m'.steps=l
  ·refine .inl ⟨5,g.runs (.err ?_),.inr rfl⟩
   unfold Mm.step
   rw [if_pos hl]
  ·have hstep:m'.step c l (1000+m'.steps)=some (.stop (Mm.push { m' with steps:=m'.steps+1,stack:=[],sg:=.pair (.num j) (.num j)::m'.sg,at_:=((3+1:Nat):Int) } (.pair (.num j) (.num j)))):=by
    unfold Mm.step
    rw [if_neg hl,if_neg (by omega),ha,Int.toNat_natCast,c3]
    have hp:=popM_eq (m:={ m' with steps:=m'.steps+1,at_:=((3:Nat):Int)+1 }) (s:=[]) (x:=.pair (.num j) (.num j)) (by simpa using hs)
    have he:Mm.exec { m' with steps:=m'.steps+1,at_:=((3:Nat):Int)+1 } (1000+m'.steps) 14 0=Mm.leave { m' with steps:=m'.steps+1,at_:=((3:Nat):Int)+1 }:=rfl
    simp only
    rw [he]
    unfold Mm.leave
    rw [hp]
    simp only [Mm.popF,hf,List.getLast?_nil]
    rfl
   exact .inr ⟨_,g.runs (.stop hstep),rfl,hw.imp id (fun h=>by show 256≤m'.steps+1;omega)⟩
end
open Go.Lg
set_option maxHeartbeats 4000000
theorem rep_two {H:Hp} {a a' b b':List PV} (hl:a.length=a'.length) (h1:∀ vs,RepL H a vs→RepL H a' vs) (h2:∀ vs,RepL H b vs→RepL H b' vs):∀ v,RepP H (.slice [a,b]) v→RepP H (.slice [a',b']) v:=by
 intro v hr
 simp only [RepP] at hr ⊢
 obtain⟨p,cap,e1,e2,e3,e4⟩:=hr
 refine⟨p,cap,e1,e2,e3,?_⟩
 rcases e4 with e4|⟨b0,off,e5,e6⟩
 ·cases e4
 ·exact .inr ⟨b0,off,e5,h1 _ e6.1,by rw [← hl];exact h2 _ e6.2.1,by simp only [RepE]⟩
theorem repL_nn {H:Hp} {k n a:PV} : ∀ vs,RepL H [k,n,a,.nils,.nils] vs→RepL H [k,n,a,.slice [],.slice []] vs :=
 repL_cons (fun _ h=>h) (repL_cons (fun _ h=>h) (repL_cons (fun _ h=>h) (repL_cons (fun _ h=>rep_nils h) (repL_cons (fun _ h=>rep_nils h) (fun _ h=>h)))))
theorem Vit_two (a b:Nat) (ha:a≤60000) (hb:b≤60000):AC Tryz.prog gl 34 [.pv (.agg (itCell (.pair (.num a) (.num b))))] [] (.ret (.pv (.tuple [.agg (valW (.pair (.num a) (.num b))),.bool true]))) []:=by
 have h:=Value38_ok (B:=60000) (by omega) (r:=.pair (.num a) (.num b)) (t:=.pair .nat .nat) (.pair (.num ha) (.num hb)) (.inr (.inr rfl))
 refine AC.le1 h ?_
 intro H
 refine repP_agg rfl (repL_cons (fun _ h=>h) (repL_cons (fun _ h=>h) (repL_cons (fun _ h=>h) (repL_cons (fun _ h=>rep_nils h) (repL_cons ?_ (fun _ h=>h))))))
 exact rep_two rfl repL_nn repL_nn
def twoT (n:Nat) (b:Tm):Tm:=.app (.lam (.fn .nat .nat) (.pair (.app (.var 0) (numT n)) (.app (.var 0) (numT n)))) (.lam .nat b)
theorem numT_ty (g:List Ty):∀ n,HasTy g (numT n) .nat
 | 0 => .zero
 | n+1 => .succ (numT_ty g n)
theorem numT_wf:∀ n,(numT n).wf=true
 | 0=>rfl
 | n+1=>numT_wf n
theorem numT_size:∀ n,(numT n).size=n+1
 | 0=>rfl
 | n+1=>by
  have:=numT_size n
  simp only [numT,Tm.size] at *
  omega
theorem two_datum {n:Nat} {b:Tm} (hn:n≤4) (hg:Good [.nat] .nat 2 b):Datum (twoT n b) (.pair .nat .nat):=by
 have hs:=hg.size
 have e:Sz 2=241:=rfl
 have hz:=numT_size n
 refine⟨?_,?_,?_,.inr (.inr rfl)⟩
 ·exact .app (.lam (.pair (.app (.var rfl) (numT_ty _ n)) (.app (.var rfl) (numT_ty _ n)))) (.lam hg.ty)
 ·have h1:=numT_wf n
  have h2:=hg.wf
  simp only [twoT,Tm.wf,h1,h2]
  decide
 ·simp only [twoT,Tm.size,hz]
  omega
theorem ev_num:∀ {n:Nat} {e:List Rs} {x:Rs},Ev (.ev e (numT n)) x→x = .num n
 | 0,_,_,h=>by cases h;rfl
 | n+1,_,_,h=>by
  cases h with
  | succ h =>
   have:=ev_num h
   cases this
   rfl
theorem ev_two {n:Nat} {b:Tm} {q:Rs} (h:Ev (.ev [] (twoT n b)) q):∃ x y,q = .pair x y∧Ev (.ap (.clo b []) (.num n)) x∧Ev (.ap (.clo b []) (.num n)) y:=by
 cases h with
 | app h1 h2 h3 =>
  cases h1
  cases h2
  cases h3 with
  | ap h3 =>
   cases h3 with
   | pair h4 h5 =>
    cases h4 with
    | app a1 a2 a3 =>
     cases h5 with
     | app b1 b2 b3 =>
      cases a1 with
      | var ha =>
       cases b1 with
       | var hb =>
        simp only [List.getElem?_cons_zero,Option.some.injEq] at ha hb
        subst ha hb
        obtain rfl:=ev_num a2
        obtain rfl:=ev_num b2
        exact⟨_,_,rfl,a3,b3⟩
def End33 (tm:Tm) (q:Rs):Prop :=
 (∃ e:Nat,(e=4∨e=5)∧AC Tryz.prog gl 33 [.pv (.slice ((finC tm).code.map insP)),.pv (.int (20000:Nat))] [] (.ret (.pv (.tuple [.agg [.int 0,.int 0,.int 0,.nils,.nils],.int 0,.int 0,.int e]))) []) ∨
 ∃ j m h:Nat,q = .pair (.num j) (.num j)∧j≤60000∧(1≤h∨256≤m)∧AC Tryz.prog gl 33 [.pv (.slice ((finC tm).code.map insP)),.pv (.int (20000:Nat))] [] (.ret (.pv (.tuple [.agg (itCell (.pair (.num j) (.num j))),.int m,.int h,.int 0]))) []
theorem end33 {n:Nat} {b:Tm} {q:Rs} (hd:Datum (twoT n b) (.pair .nat .nat)) (hc:(finC (twoT n b)).code.length≤4096) (hv:Ev (.ev [] (twoT n b)) q) (hr:RsT 60000 q (.pair .nat .nat)):End33 (twoT n b) q:=by
 have hz:=hd.size
 have hG:=goodC hd.ty hc (by omega)
 have hO:=fin_okc hd.ty hc (by omega)
 obtain⟨t1,t2⟩:=fin_TA (twoT n b)
 obtain⟨x,y,rfl,e1,e2⟩:=ev_two hv
 cases hr with
 | pair hx hy =>
 cases hx with
 | @num j hj =>
 cases hy with
 | @num j' hj' =>
 have hK:=runcheck_ok _ 20000 (by omega) (codecheck_ok _ _ rfl (starts_ok _ hG))
 unfold End33
 generalize finC (twoT n b)=M at *
 obtain⟨p1,p2,⟨⟨A0,e0,a1,a2,a3⟩,rfl⟩,⟨⟨A1,ee1,b1,b2,b3⟩,rfl⟩,c1,c2⟩:=t1
 rw [c2] at t2
 have hF:VR M.code (.fn A1 []) (.clo b []):=.fn b2 b3 rfl (by simp)
 obtain⟨y1,v1,k1,d1,z1,B1⟩:=meansB e1 (.fn A1 []) (.num n) hF (.num n)
 obtain⟨y2,v2,k2,d2,z2,B2⟩:=meansB e2 (.fn A1 []) (.num n) hF (.num n)
 cases v1
 cases v2
 obtain⟨ej,-,-,-⟩:=B1.det B2
 cases ej
 rcases twiceM (l:=20000) a1 b1 c1 t2 a2 a3 B1 with ⟨e,h1,h2⟩|⟨m,h1,h2,h3⟩
 ·have hg:=go_args_err M.code 20000 10 e hO [] (by simp) (by simp) (by simp) (.inl h1)
  exact .inl ⟨e,h2,mrun_err _ 20000 e (by omega) hK (mresult_err _ 20000 e (by omega) hg)⟩
 ·have hg:=go_args M.code 20000 10 hO [] (by simp) (by simp) (by simp) m m _ _ h1 .nil (popM_eq (s:=[]) (by simpa using h2))
  have hdat:Dat (.pair (.num j) (.num j)):=.pair (.num _) (.num _)
  have hbd:Bd 60000 (.pair (.num j) (.num j)):=by simp [Bd,It.more];omega
  have ho:=outside_ok hdat hbd
  exact .inr ⟨j,m.steps,m.tab.hits,rfl,hj,h3,mrun_fine _ 20000 _ _ _ hK (mresult_fine _ 20000 _ _ _ hg ho)⟩
open Go.Lg
set_option maxRecDepth 10000
set_option maxHeartbeats 4000000
theorem nat60_ok:AC Tryz.prog gl 60 [] [] (.ret (.pv (.agg Ty.nat.cells))) []:=by
 simp only [Ty.cells,Ty.kind,Ty.args,List.map_nil]
 refine body [] Tryz.func60 Tryz.ntmps60 ?_
 refine gg ?_
 exact enC29
theorem nat24_ok:AC Tryz.prog gl 24 [] [] (.ret (.pv (.agg Ty.nat.cells))) []:=by
 have h:=nat60_ok
 simp only [Ty.cells,Ty.kind,Ty.args,List.map_nil] at *
 refine body [] Tryz.func24 Tryz.ntmps24 ?_
 refine gg ?_
 refine call h ?_
 refine gg ?_
 exact enC29
theorem step_two (L:List Int) (hL:L.length≤500) (at_:Nat):∃ b at',Good [.nat] .nat 2 b∧AC Tryz.prog gl 25 [.loc 900 0] (deck L at_) (.ret (.pv (.agg (Tm.lam .nat b).cells))) (deck L at'):=by
 obtain⟨b,a4,hg,h4⟩:=term_ok L hL 7 [.nat] .nat 2 at_ (by unfold nb;split<;>simp) (by simp [Ty.plain,Ty.base]) (.inl (by simp [Ty.base])) (by omega) (by omega) (by simp)
 have h1:=nat24_ok
 have h5:=lam24_ok .nat b
 refine⟨b,a4,hg,?_⟩
 clear hg
 unfold deck at *
 rw [Tm.cells_eq (.lam .nat b)] at *
 simp only [Tm.kind,Tm.idx,Tm.ty,Tm.args,List.map_cons,List.map_nil,Ty.cells,Ty.kind,Ty.args] at *
 rw [b.cells_eq] at *
 generalize b.ty.args.map Ty.cells=bta at *
 generalize b.args.map Tm.cells=ba at *
 refine body [] Tryz.func25 Tryz.ntmps25 ?_
 refine gg ?_
 refine call h1 ?_
 refine gg ?_
 refine call h1 ?_
 refine gg ?_
 refine call h1 ?_
 refine gg ?_
 refine call h4 ?_
 refine gg ?_
 refine call h5 ?_
 refine gg ?_
 exact enC29
theorem tlong (h1:AC Tryz.prog gl 20 [] [] (.ret (.pv (.bool true))) []) (L:List Int) (hL:L.length≤500) (n:Nat) (hn:n≤4) (b:Tm) (a1 a2:Nat) (hS:AC Tryz.prog gl 25 [.loc 900 0] (deck L 0) (.ret (.pv (.agg (Tm.lam .nat b).cells))) (deck L a1)) (hN:AC Tryz.prog gl 27 [.loc 900 0,.pv (.int 5)] (deck L a1) (.ret (.pv (.int n))) (deck L a2)) (h5:AC Tryz.prog gl 11 [.pv (.agg (twoT n b).cells)] [] (.ret (.pv (.tuple [.slice [],.int 4]))) [])
  (v:List PV) (u e:Int) (sv:∃ k m s q,v=[.int k,.int m,s,q]∧s.one=true∧q.one=true) (h6:AC Tryz.prog gl 12 [.pv (.agg (twoT n b).cells),.pv (.int 20000)] [] (.ret (.pv (.tuple [.agg v,.int u,.int e]))) []):AC Tryz.prog gl 6 [.pv (.slice (ints L))] [] (.ret (.pv (.bool true))) []:=by
 have l4:=limits39_4
 have h2:=few_ok L
 have h3:=new_ok L
 have ed:decide (L.length≤500)=true:=by simp [hL]
 rw [ed] at h2
 have hU:=num_ok n (by omega)
 have hz:=nat24_ok
 have v0:=var24_ok 0
 have k1:=app24_ok (.var 0) (numT n)
 have k2:=node_ok (.app (.var 0) (numT n)) (.app (.var 0) (numT n))
 have k3:=fun23_ok .nat .nat
 have k4:=lam24_ok (.fn .nat .nat) (.pair (.app (.var 0) (numT n)) (.app (.var 0) (numT n)))
 have k5:=app24_ok (.lam (.fn .nat .nat) (.pair (.app (.var 0) (numT n)) (.app (.var 0) (numT n)))) (.lam .nat b)
 obtain⟨k,m,s,q,rfl,o1,o2⟩:=sv
 have w1:=vcells_one o1
 have w2:=vcells_one o2
 have v1:=onC29 o1
 have v2:=onC29 o2
 obtain⟨nk,ni,nt,ns,na,e3⟩:∃ (k i t:Int) (s a:List (List PV)),(numT n).cells=[.int k,.int i,.int t,.slice s,.slice a]:=⟨_,_,_,_,_,Tm.cells_eq _⟩
 obtain⟨bk,bi,bt,bs,ba,e4⟩:∃ (k i t:Int) (s a:List (List PV)),b.cells=[.int k,.int i,.int t,.slice s,.slice a]:=⟨_,_,_,_,_,Tm.cells_eq _⟩
 unfold deck at *
 simp only [twoT,Tm.cells,Tm.node,Tm.kind,Tm.idx,Tm.ty,Tm.args,Ty.cells,Ty.kind,Ty.args,List.map_cons,List.map_nil,Int.cast_ofNat_Int,Int.natCast_zero,e3,e4] at *
 clear e3 e4 hn
 generalize ints L=cc at *
 refine body [] Tryz.func6 Tryz.ntmps6 ?_
 refine gg ?_
 refine call h1 ?_
 refine gg ?_
 refine call h2 ?_
 refine gg ?_
 refine call h3 ?_
 refine gg ?_
 refine call hz ?_
 refine gg ?_
 refine call hS ?_
 refine gg ?_
 refine call hN ?_
 refine gg ?_
 refine call hU ?_
 refine gg ?_
 refine call v0 ?_
 refine gg ?_
 refine call k1 ?_
 refine gg ?_
 refine call v0 ?_
 refine gg ?_
 refine call k1 ?_
 refine gg ?_
 refine call k2 ?_
 refine gg ?_
 refine⟨by rfl,?_⟩
 refine gg ?_
 refine call k3 ?_
 refine gg ?_
 refine call k4 ?_
 refine gg ?_
 refine call k5 ?_
 refine gg ?_
 refine⟨by rfl,?_⟩
 refine gg ?_
 refine call h5 ?_
 refine gg ?_
 refine call h6 ?_
 refine gg ?_
 refine call l4 ?_
 refine gg ?_
 exact enC29
theorem tfails (h1:AC Tryz.prog gl 20 [] [] (.ret (.pv (.bool true))) []) (L:List Int) (hL:L.length≤500) (n:Nat) (hn:n≤4) (b:Tm) (a1 a2:Nat) (hS:AC Tryz.prog gl 25 [.loc 900 0] (deck L 0) (.ret (.pv (.agg (Tm.lam .nat b).cells))) (deck L a1)) (hN:AC Tryz.prog gl 27 [.loc 900 0,.pv (.int 5)] (deck L a1) (.ret (.pv (.int n))) (deck L a2)) (pc:List (List PV)) (h5:AC Tryz.prog gl 11 [.pv (.agg (twoT n b).cells)] [] (.ret (.pv (.tuple [.slice pc,.int 0]))) [])
  (e:Int) (he:e=4∨e=5) (h6:AC Tryz.prog gl 12 [.pv (.agg (twoT n b).cells),.pv (.int 20000)] [] (.ret (.pv (.tuple [.agg [.int 0,.int 0,.nils,.nils],.int 0,.int e]))) []):AC Tryz.prog gl 6 [.pv (.slice (ints L))] [] (.ret (.pv (.bool true))) []:=by
 have l0:=limits39_0
 have l4:AC Tryz.prog gl 21 [.pv (.int e)] [] (.ret (.pv (.bool true))) []:=by
  rcases he with rfl|rfl
  ·exact limits39_4
  ·exact limits39_5
 have e0:¬ e=0:=by omega
 have h2:=few_ok L
 have h3:=new_ok L
 have ed:decide (L.length≤500)=true:=by simp [hL]
 rw [ed] at h2
 have hU:=num_ok n (by omega)
 have hz:=nat24_ok
 have v0:=var24_ok 0
 have k1:=app24_ok (.var 0) (numT n)
 have k2:=node_ok (.app (.var 0) (numT n)) (.app (.var 0) (numT n))
 have k3:=fun23_ok .nat .nat
 have k4:=lam24_ok (.fn .nat .nat) (.pair (.app (.var 0) (numT n)) (.app (.var 0) (numT n)))
 have k5:=app24_ok (.lam (.fn .nat .nat) (.pair (.app (.var 0) (numT n)) (.app (.var 0) (numT n)))) (.lam .nat b)
 obtain⟨nk,ni,nt,ns,na,e3⟩:∃ (k i t:Int) (s a:List (List PV)),(numT n).cells=[.int k,.int i,.int t,.slice s,.slice a]:=⟨_,_,_,_,_,Tm.cells_eq _⟩
 obtain⟨bk,bi,bt,bs,ba,e4⟩:∃ (k i t:Int) (s a:List (List PV)),b.cells=[.int k,.int i,.int t,.slice s,.slice a]:=⟨_,_,_,_,_,Tm.cells_eq _⟩
 unfold deck at *
 simp only [twoT,Tm.cells,Tm.node,Tm.kind,Tm.idx,Tm.ty,Tm.args,Ty.cells,Ty.kind,Ty.args,List.map_cons,List.map_nil,Int.cast_ofNat_Int,Int.natCast_zero,e3,e4] at *
 clear e3 e4 hn
 generalize ints L=cc at *
 clear he
 refine body [] Tryz.func6 Tryz.ntmps6 ?_
 refine gg ?_
 refine call h1 ?_
 refine gg ?_
 refine call h2 ?_
 refine gg ?_
 refine call h3 ?_
 refine gg ?_
 refine call hz ?_
 refine gg ?_
 refine call hS ?_
 refine gg ?_
 refine call hN ?_
 refine gg ?_
 refine call hU ?_
 refine gg ?_
 refine call v0 ?_
 refine gg ?_
 refine call k1 ?_
 refine gg ?_
 refine call v0 ?_
 refine gg ?_
 refine call k1 ?_
 refine gg ?_
 refine call k2 ?_
 refine gg ?_
 refine⟨by rfl,?_⟩
 refine gg ?_
 refine call k3 ?_
 refine gg ?_
 refine call k4 ?_
 refine gg ?_
 refine call k5 ?_
 refine gg ?_
 refine⟨by rfl,?_⟩
 refine gg ?_
 refine call h5 ?_
 refine gg ?_
 refine call h6 ?_
 refine gg ?_
 refine call l0 ?_
 refine gg ?_
 refine call l4 ?_
 refine gg ?_
 exact enC29
theorem trfails (h1:AC Tryz.prog gl 20 [] [] (.ret (.pv (.bool true))) []) (L:List Int) (hL:L.length≤500) (n:Nat) (hn:n≤4) (b:Tm) (a1 a2:Nat) (hS:AC Tryz.prog gl 25 [.loc 900 0] (deck L 0) (.ret (.pv (.agg (Tm.lam .nat b).cells))) (deck L a1)) (hN:AC Tryz.prog gl 27 [.loc 900 0,.pv (.int 5)] (deck L a1) (.ret (.pv (.int n))) (deck L a2)) (pc:List (List PV)) (h5:AC Tryz.prog gl 11 [.pv (.agg (twoT n b).cells)] [] (.ret (.pv (.tuple [.slice pc,.int 0]))) [])
  (v:List PV) (u:Int) (sv:∃ k m s q,v=[.int k,.int m,s,q]∧s.one=true∧q.one=true) (h6:AC Tryz.prog gl 12 [.pv (.agg (twoT n b).cells),.pv (.int 20000)] [] (.ret (.pv (.tuple [.agg v,.int u,.int 0]))) [])
  (e:Int) (he:e=4∨e=5) (h7:AC Tryz.prog gl 33 [.pv (.slice pc),.pv (.int 20000)] [] (.ret (.pv (.tuple [.agg [.int 0,.int 0,.int 0,.nils,.nils],.int 0,.int 0,.int e]))) []):AC Tryz.prog gl 6 [.pv (.slice (ints L))] [] (.ret (.pv (.bool true))) []:=by
 have l4:AC Tryz.prog gl 21 [.pv (.int e)] [] (.ret (.pv (.bool true))) []:=by
  rcases he with rfl|rfl
  ·exact limits39_4
  ·exact limits39_5
 have e0:¬ e=0:=by omega
 have h2:=few_ok L
 have h3:=new_ok L
 have ed:decide (L.length≤500)=true:=by simp [hL]
 rw [ed] at h2
 have hU:=num_ok n (by omega)
 have hz:=nat24_ok
 have v0:=var24_ok 0
 have k1:=app24_ok (.var 0) (numT n)
 have k2:=node_ok (.app (.var 0) (numT n)) (.app (.var 0) (numT n))
 have k3:=fun23_ok .nat .nat
 have k4:=lam24_ok (.fn .nat .nat) (.pair (.app (.var 0) (numT n)) (.app (.var 0) (numT n)))
 have k5:=app24_ok (.lam (.fn .nat .nat) (.pair (.app (.var 0) (numT n)) (.app (.var 0) (numT n)))) (.lam .nat b)
 obtain⟨k,m,s,q,rfl,o1,o2⟩:=sv
 have w1:=vcells_one o1
 have w2:=vcells_one o2
 have v1:=onC29 o1
 have v2:=onC29 o2
 obtain⟨nk,ni,nt,ns,na,e3⟩:∃ (k i t:Int) (s a:List (List PV)),(numT n).cells=[.int k,.int i,.int t,.slice s,.slice a]:=⟨_,_,_,_,_,Tm.cells_eq _⟩
 obtain⟨bk,bi,bt,bs,ba,e4⟩:∃ (k i t:Int) (s a:List (List PV)),b.cells=[.int k,.int i,.int t,.slice s,.slice a]:=⟨_,_,_,_,_,Tm.cells_eq _⟩
 unfold deck at *
 simp only [twoT,Tm.cells,Tm.node,Tm.kind,Tm.idx,Tm.ty,Tm.args,Ty.cells,Ty.kind,Ty.args,List.map_cons,List.map_nil,Int.cast_ofNat_Int,Int.natCast_zero,e3,e4] at *
 clear e3 e4 hn
 generalize ints L=cc at *
 clear he
 refine body [] Tryz.func6 Tryz.ntmps6 ?_
 refine gg ?_
 refine call h1 ?_
 refine gg ?_
 refine call h2 ?_
 refine gg ?_
 refine call h3 ?_
 refine gg ?_
 refine call hz ?_
 refine gg ?_
 refine call hS ?_
 refine gg ?_
 refine call hN ?_
 refine gg ?_
 refine call hU ?_
 refine gg ?_
 refine call v0 ?_
 refine gg ?_
 refine call k1 ?_
 refine gg ?_
 refine call v0 ?_
 refine gg ?_
 refine call k1 ?_
 refine gg ?_
 refine call k2 ?_
 refine gg ?_
 refine⟨by rfl,?_⟩
 refine gg ?_
 refine call k3 ?_
 refine gg ?_
 refine call k4 ?_
 refine gg ?_
 refine call k5 ?_
 refine gg ?_
 refine⟨by rfl,?_⟩
 refine gg ?_
 refine call h5 ?_
 refine gg ?_
 refine call h6 ?_
 refine gg ?_
 refine call h7 ?_
 refine gg ?_
 refine call l4 ?_
 refine gg ?_
 exact enC29
theorem tfine (h1:AC Tryz.prog gl 20 [] [] (.ret (.pv (.bool true))) []) (L:List Int) (hL:L.length≤500) (n:Nat) (hn:n≤4) (b:Tm) (a1 a2:Nat) (hS:AC Tryz.prog gl 25 [.loc 900 0] (deck L 0) (.ret (.pv (.agg (Tm.lam .nat b).cells))) (deck L a1)) (hN:AC Tryz.prog gl 27 [.loc 900 0,.pv (.int 5)] (deck L a1) (.ret (.pv (.int n))) (deck L a2)) (pc:List (List PV)) (h5:AC Tryz.prog gl 11 [.pv (.agg (twoT n b).cells)] [] (.ret (.pv (.tuple [.slice pc,.int 0]))) [])
  (u j:Nat) (hj:j≤60000) (h6:AC Tryz.prog gl 12 [.pv (.agg (twoT n b).cells),.pv (.int 20000)] [] (.ret (.pv (.tuple [.agg (valC (.pair (.num j) (.num j))),.int u,.int 0]))) [])
  (m h:Nat) (hmh:1≤h∨256≤m) (h7:AC Tryz.prog gl 33 [.pv (.slice pc),.pv (.int 20000)] [] (.ret (.pv (.tuple [.agg (itCell (.pair (.num j) (.num j))),.int m,.int h,.int 0]))) []):AC Tryz.prog gl 6 [.pv (.slice (ints L))] [] (.ret (.pv (.bool true))) []:=by
 have h8:=Vit_two j j hj hj
 have h9:=vsame_ok (B:=60000) (by omega) (r:=.pair (.num j) (.num j)) (t:=.pair .nat .nat) (.pair (.num hj) (.num hj)) (.inr (.inr rfl))
 have h10:=vsameW_ok (B:=60000) (by omega) (r:=.num j) (t:=.nat) (.num hj) (.inl (by simp [Ty.base]))
 have h2:=few_ok L
 have h3:=new_ok L
 have ed:decide (L.length≤500)=true:=by simp [hL]
 rw [ed] at h2
 have hU:=num_ok n (by omega)
 have hz:=nat24_ok
 have v0:=var24_ok 0
 have k1:=app24_ok (.var 0) (numT n)
 have k2:=node_ok (.app (.var 0) (numT n)) (.app (.var 0) (numT n))
 have k3:=fun23_ok .nat .nat
 have k4:=lam24_ok (.fn .nat .nat) (.pair (.app (.var 0) (numT n)) (.app (.var 0) (numT n)))
 have k5:=app24_ok (.lam (.fn .nat .nat) (.pair (.app (.var 0) (numT n)) (.app (.var 0) (numT n)))) (.lam .nat b)
 obtain⟨nk,ni,nt,ns,na,e3⟩:∃ (k i t:Int) (s a:List (List PV)),(numT n).cells=[.int k,.int i,.int t,.slice s,.slice a]:=⟨_,_,_,_,_,Tm.cells_eq _⟩
 obtain⟨bk,bi,bt,bs,ba,e4⟩:∃ (k i t:Int) (s a:List (List PV)),b.cells=[.int k,.int i,.int t,.slice s,.slice a]:=⟨_,_,_,_,_,Tm.cells_eq _⟩
 unfold deck at *
 simp only [twoT,Tm.cells,Tm.node,Tm.kind,Tm.idx,Tm.ty,Tm.args,Ty.cells,Ty.kind,Ty.args,List.map_cons,List.map_nil,Int.cast_ofNat_Int,Int.natCast_zero,e3,e4,itCell,valC,valW] at *
 clear e3 e4 hn
 generalize ints L=cc at *
 clear hj
 by_cases hh:1≤h
 ·have x1:(1:Int)≤(h:Int):=by omega
  clear hmh hh
  refine body [] Tryz.func6 Tryz.ntmps6 ?_
  refine gg ?_
  refine call h1 ?_
  refine gg ?_
  refine call h2 ?_
  refine gg ?_
  refine call h3 ?_
  refine gg ?_
  refine call hz ?_
  refine gg ?_
  refine call hS ?_
  refine gg ?_
  refine call hN ?_
  refine gg ?_
  refine call hU ?_
  refine gg ?_
  refine call v0 ?_
  refine gg ?_
  refine call k1 ?_
  refine gg ?_
  refine call v0 ?_
  refine gg ?_
  refine call k1 ?_
  refine gg ?_
  refine call k2 ?_
  refine gg ?_
  refine⟨by rfl,?_⟩
  refine gg ?_
  refine call k3 ?_
  refine gg ?_
  refine call k4 ?_
  refine gg ?_
  refine call k5 ?_
  refine gg ?_
  refine⟨by rfl,?_⟩
  refine gg ?_
  refine call h5 ?_
  refine gg ?_
  refine call h6 ?_
  refine gg ?_
  refine call h7 ?_
  refine gg ?_
  refine call h8 ?_
  refine gg ?_
  refine call h9 ?_
  refine gg ?_
  refine call h10 ?_
  refine gg ?_
  refine⟨by rfl,?_⟩
  refine gg ?_
  exact enC29
 ·have x1:¬ (1:Int)≤(h:Int):=by omega
  have x2:(256:Int)≤(m:Int):=by omega
  clear hmh hh
  refine body [] Tryz.func6 Tryz.ntmps6 ?_
  refine gg ?_
  refine call h1 ?_
  refine gg ?_
  refine call h2 ?_
  refine gg ?_
  refine call h3 ?_
  refine gg ?_
  refine call hz ?_
  refine gg ?_
  refine call hS ?_
  refine gg ?_
  refine call hN ?_
  refine gg ?_
  refine call hU ?_
  refine gg ?_
  refine call v0 ?_
  refine gg ?_
  refine call k1 ?_
  refine gg ?_
  refine call v0 ?_
  refine gg ?_
  refine call k1 ?_
  refine gg ?_
  refine call k2 ?_
  refine gg ?_
  refine⟨by rfl,?_⟩
  refine gg ?_
  refine call k3 ?_
  refine gg ?_
  refine call k4 ?_
  refine gg ?_
  refine call k5 ?_
  refine gg ?_
  refine⟨by rfl,?_⟩
  refine gg ?_
  refine call h5 ?_
  refine gg ?_
  refine call h6 ?_
  refine gg ?_
  refine call h7 ?_
  refine gg ?_
  refine call h8 ?_
  refine gg ?_
  refine call h9 ?_
  refine gg ?_
  refine call h10 ?_
  refine gg ?_
  refine⟨by rfl,?_⟩
  refine gg ?_
  exact enC29
end Go.Proofs.YtodjpfpmhjdhbaaGreatDoor
