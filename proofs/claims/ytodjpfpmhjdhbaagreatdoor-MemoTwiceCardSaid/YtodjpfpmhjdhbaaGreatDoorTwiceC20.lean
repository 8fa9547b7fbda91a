/- Contracts of functions; no conditions. -/
import Derived.Test.YtodjpfpmhjdhbaaGreatDoorTwiceC19
import Derived.Test.YtodjpfpmhjdhbaaGreatDoorTwiceC5
import Derived.Test.YtodjpfpmhjdhbaaGreatDoorTwiceC1
import Derived.Test.YtodjpfpmhjdhbaaGreatDoorTwiceA13
import Derived.Test.YtodjpfpmhjdhbaaGreatDoorTwiceC4
import Derived.Test.YtodjpfpmhjdhbaaGreatDoorTwiceA14
set_option linter.all false
namespace Go.Proofs.YtodjpfpmhjdhbaaGreatDoor
open Go.Lg
theorem enC20 {P Q : Prop} (h : P := by simp [retIs,resV,resL,resOne,mkTup,getS,getO,rdV,mkAgg,unL,V.un,TI.isAgg,XX_T,tt47,Tryz.f141,tt3,Tryz.f122,Tryz.f151,Tryz.f140,Tryz.f123,Tryz.f93]) (k : Q := by simp [subO,getO,tt47,Tryz.f141,tt3,Tryz.f122,Tryz.f151,Tryz.f140,Tryz.f123,Tryz.f93]) : P ∧ Q := ⟨h,k⟩
end Go.Proofs.YtodjpfpmhjdhbaaGreatDoor
namespace Go.Proofs.YtodjpfpmhjdhbaaGreatDoor
open Go.Lg
def Fit (l:Nat) (m:Mm) (k d:Nat) (z:Bool):Prop:=z=true∧m.steps+k≤l∧m.frames.length+d≤1024
def AtR (c:List Ins) (m:Mm) (fs:List Fr) (lo:List It) (x:It) (k:Nat) (m':Mm):Prop:=∃ e k',k=k'+1∧m'.at_=((e:Nat):Int)∧c[e]? = some (14,0)∧m'.stack=lo++[x]∧m'.frames=fs∧Gm c k' m m'
def BackM (c:List Ins) (m:Mm) (x:It) (k:Nat) (m':Mm):Prop:=m'.stack=m.stack++[x]∧m'.at_=m.at_∧m'.vars=m.vars∧m'.frames=m.frames∧Gm c k m m'
def MeansM (c:List Ins) (l:Nat):Jb→It→Nat→Nat→Bool→Prop
 | .blk p vs rs,x,k,d,z => ∀ (m:Mm) (lo:List It),m.at_=((p:Nat):Int)→m.vars=vs→m.stack=lo++rs.reverse→TI c m.tab→OutM c l (Fit l m k d z) m (AtR c m m.frames lo x k)
 | .cal f a,x,k,d,z => ∀ (m:Mm) (rd:Option (Nat × Rd)),TI c m.tab→lookM m f a=none→∃ q ws,f = .fn q ws∧OutRM c l (Fit l m k d z) ((missM m f a).into f a q ws rd) (AtR c m (m.frames++[⟨m.at_,m.vars,f,a,rd⟩]) m.stack x k)
 | .rds f a r,x,k,d,z => ∀ (m:Mm) (nm fuel:Nat),(∃ p:Nat,m.at_=((p:Nat):Int))→TI c m.tab→r.next<r.count→rdFuel (some (nm,r))≤fuel→∃ res,Mm.enterN fuel m f a (some (nm,r))=some res∧OutRM c l (Fit l m k d z) res (BackM c m x k)
theorem Gm.to {c:List Ins} {k:Nat} {m m1 m' m1':Mm} (h:Gm c k m m') (a1:m1.steps=m.steps) (a2:m1.tab=m.tab) (b1:m1'.steps=m'.steps) (b2:m1'.tab=m'.tab):Gm c k m1 m1' :=
 ⟨by rw [a1,b1];exact h.lo,by rw [a1,b1];exact h.hi,by rw [a1,a2,b1,b2];exact h.eq,by rw [b2];exact h.ti,by rw [a2,b2];exact h.grow,by rw [a1,a2,b1,b2];exact h.few⟩
theorem BB.fn {c:List Ins} {f a x:It} {k d:Nat} {z:Bool} (h:BB c (.cal f a) x k d z):∃ q ws,f = .fn q ws:=by
 cases h with
 | cal _=>exact⟨_,_,rfl⟩
theorem stopIfM_go {m:Mm} (h:0≤m.at_):stopIfM m = .go m:=if_pos h
theorem ret_step {c:List Ins} {l:Nat} {fit:Prop} {m m':Mm} {f a x:It} {rd:Option (Nat × Rd)} {k d:Nat} {z:Bool} {P:Mm→Prop} (hb:BB c (.cal f a) x k d z) (h:AtR c m (m.frames++[⟨m.at_,m.vars,f,a,rd⟩]) m.stack x k m') (hfit:fit→m.steps+k≤l)
  (k1:∀ m2:Mm,m2.stack=m.stack→m2.at_=m.at_→m2.vars=m.vars→m2.frames=m.frames→Gm c k m m2→(plainC f a=true→Has m2.tab f a∨256≤m2.tab.res.length) →
   ∃ r,afterM m2 x rd=some r∧OutRM c l fit r P):OutM c l fit m' P:=by
 obtain⟨e,k',rfl,ha,hc,hs,hf,hg⟩:=h
 have hlo:=hg.hi
 obtain⟨g1,g2⟩:=Gm.out (m:=m') (s:=m.stack) (x:=x) (fs:=m.frames) (fr:=⟨m.at_,m.vars,f,a,rd⟩) hg.ti hb ((e+1:Nat):Int)
 obtain⟨s1,s2,s3,s4,s5⟩:=outF_same { m' with steps:=m'.steps+1,at_:=((e+1:Nat):Int) } m.stack x m.frames ⟨m.at_,m.vars,f,a,rd⟩
 obtain⟨r,hr,ho⟩:=k1 _ s2 s4 s5 s3 (hg.trans g1) g2
 have hl:=leave_eq (m:={ m' with steps:=m'.steps+1,at_:=((e+1:Nat):Int) }) (s:=m.stack) (x:=x) (fs:=m.frames) (fr:=⟨m.at_,m.vars,f,a,rd⟩) hs hf
 refine OutM.step (p:=e) ha hc (r:=r) ?_ (fun h=>by have:=hfit h;omega) ho
 show Mm.leave _=_
 rw [hl]
 exact hr
theorem call_step {c:List Ins} {l:Nat} {f a y:It} {k1 d1:Nat} {z1:Bool} (hb:BB c (.cal f a) y k1 d1 z1) (ih:MeansM c l (.cal f a) y k1 d1 z1) (m:Mm) {p:Nat} (hat:m.at_=((p:Nat):Int)) (ht:TI c m.tab) :
  ∃ res,m.enter f a none=some res∧OutRM c l (Fit l m k1 d1 z1) res (fun m'=>BackM c m y k1 m'∧(plainC f a=true→m.tab.hits<m'.tab.hits∨Has m'.tab f a∨256≤m'.tab.res.length)):=by
 obtain⟨q,ws,rfl⟩:=hb.fn
 cases hl:lookM m (.fn q ws) a with
 | some y' =>
  obtain rfl:=lookM_ti hl ht hb
  refine⟨_,enterN_hit0 hl 0,OutM.now ⟨⟨rfl,rfl,rfl,rfl,(Gm.hit ht k1 (.fn q ws) a).to rfl rfl rfl rfl⟩,fun _ => .inl ?_⟩⟩
  simp only [Mm.push,hitM,Tab.hit]
  omega
 | none =>
  obtain⟨q',ws',e,ho⟩:=ih m none ht hl
  cases e
  refine⟨_,enterN_miss hl 0 none,ho.bind id ?_⟩
  intro m' hm'
  refine ret_step hb hm' (fun h=>h.2.1) ?_
  intro m2 e1 e2 e3 e4 g1 g2
  refine⟨_,rfl,?_⟩
  rw [stopIfM_go (by simp only [Mm.push,e2,hat];omega)]
  exact OutM.now ⟨⟨by simp only [Mm.push,e1],e2,e3,e4,g1.to rfl rfl rfl rfl⟩,fun h => .inr (g2 h)⟩
theorem rdFuel_dec {r r':Rd} {y f a:It} {nm:Nat} (h:r.returned y=some (some (f,a),r')) (hlt:r.next<r.count):rdFuel (some (nm,r'))+1≤rdFuel (some (nm,r))∧r'.next<r'.count:=by
 unfold Rd.returned at h
 split at h
 ·rename_i e
  cases h
  simp only [rdFuel,e,List.length_cons]
  exact⟨by omega,hlt⟩
 ·rename_i e0
  split at h
  ·cases h
  ·rename_i hne
   split at h
   ·rename_i hbeg
    cases h
    unfold Rd.begin at hbeg
    split at hbeg
    ·cases hbeg
     simp only [rdFuel,e0,List.length_cons,List.length_nil]
     omega
    ·split at hbeg
     ·cases hbeg
      simp only [rdFuel,e0,List.length_cons,List.length_nil]
      omega
     ·cases hbeg
   ·cases h
theorem means_last {c:List Ins} {l:Nat} {f a y:It} {r r':Rd} {k d:Nat} {z:Bool} (hb:BB c (.cal f a) y k d z) (ih:MeansM c l (.cal f a) y k d z) (hr:r.returned y=some (none,r')):MeansM c l (.rds f a r) y k d z:=by
 intro m nm fuel hat ht hlt hfu
 obtain⟨p,hp⟩:=hat
 obtain⟨q,ws,rfl⟩:=hb.fn
 obtain⟨j,rfl⟩:∃ j,fuel=j+1:=⟨fuel-1,by simp only [rdFuel] at hfu;omega⟩
 cases hl:lookM m (.fn q ws) a with
 | some y' =>
  obtain rfl:=lookM_ti hl ht hb
  have hn:OutM c l (Fit l m k d z) ((hitM m (.fn q ws) a).push y') (BackM c m y' k):=OutM.now ⟨rfl,rfl,rfl,rfl,(Gm.hit ht k (.fn q ws) a).to rfl rfl rfl rfl⟩
  exact⟨.go ((hitM m (.fn q ws) a).push y'),by rw [enterN_hit1 hl,hr],hn⟩
 | none =>
  obtain⟨q',ws',e,ho⟩:=ih m (some (nm,r)) ht hl
  cases e
  refine⟨_,enterN_miss hl j _,ho.bind id ?_⟩
  intro m' hm'
  refine ret_step hb hm' (fun h=>h.2.1) ?_
  intro m2 e1 e2 e3 e4 g1 g2
  refine⟨stopIfM (m2.push y),by simp only [afterM,hr],?_⟩
  rw [stopIfM_go (by simp only [Mm.push,e2,hp];omega)]
  exact OutM.now ⟨by simp only [Mm.push,e1],e2,e3,e4,g1.to rfl rfl rfl rfl⟩
theorem means_more {c:List Ins} {l:Nat} {f a y f' a' x:It} {r r':Rd} {k1 d1 k2 d2:Nat} {z1 z2:Bool} (hb:BB c (.cal f a) y k1 d1 z1) (ih:MeansM c l (.cal f a) y k1 d1 z1) (hr:r.returned y=some (some (f',a'),r'))
  (ih2:MeansM c l (.rds f' a' r') x k2 d2 z2):MeansM c l (.rds f a r) x (k1+k2) (max d1 d2) (z1 && z2):=by
 intro m nm fuel hat ht hlt hfu
 obtain⟨q,ws,rfl⟩:=hb.fn
 obtain⟨hd1,hd2⟩:=rdFuel_dec (nm:=nm) hr hlt
 obtain⟨j,rfl⟩:∃ j,fuel=j+1:=⟨fuel-1,by omega⟩
 obtain⟨p,hp⟩:=hat
 cases hl:lookM m (.fn q ws) a with
 | some y' =>
  obtain rfl:=lookM_ti hl ht hb
  have hg:=Gm.hit ht k1 (.fn q ws) a
  obtain⟨res,h1,h2⟩:=ih2 (hitM m (.fn q ws) a) nm j ⟨p,hp⟩ hg.ti hd2 (by omega)
  refine⟨res,by rw [enterN_hit1 hl,hr];exact h1,h2.bind ?_ ?_⟩
  ·rintro⟨f1,f2,f3⟩
   simp only [Bool.and_eq_true] at f1
   have:(hitM m (.fn q ws) a).steps=m.steps:=rfl
   have:(hitM m (.fn q ws) a).frames=m.frames:=rfl
   exact⟨f1.2,by omega,by rw [this];omega⟩
  ·rintro m' ⟨b1,b2,b3,b4,b5⟩
   exact OutM.now ⟨b1,b2,b3,b4,hg.trans b5⟩
 | none =>
  obtain⟨q',ws',e,ho⟩:=ih m (some (nm,r)) ht hl
  cases e
  refine⟨_,enterN_miss hl j _,ho.bind ?_ ?_⟩
  ·rintro⟨f1,f2,f3⟩
   simp only [Bool.and_eq_true] at f1
   exact⟨f1.1,by omega,by omega⟩
  intro m' hm'
  refine ret_step hb hm' (fun h=>by have:=h.2.1;omega) ?_
  intro m2 e1 e2 e3 e4 g1 g2
  obtain⟨res,h1,h2⟩:=ih2 m2 nm (rdFuel (some (nm,r'))) ⟨p,by rw [e2,hp]⟩ g1.ti hd2 (Nat.le_refl _)
  refine⟨res,by simp only [afterM,hr];exact h1,h2.bind ?_ ?_⟩
  ·rintro⟨f1,f2,f3⟩
   simp only [Bool.and_eq_true] at f1
   have:=g1.hi
   exact⟨f1.2,by omega,by rw [e4];omega⟩
  ·rintro m3 ⟨b1,b2,b3,b4,b5⟩
   exact OutM.now ⟨by rw [b1,e1],by rw [b2,e2],by rw [b3,e3],by rw [b4,e4],g1.trans b5⟩
theorem rdOf_0 {f b n:It} {list:Bool} {r:Rd} (h:rdOf f b list n=some r):r.next=0∧r.left=[]∧r.result=b:=by
 unfold rdOf at h
 split at h<;>cases h<;>exact⟨rfl,rfl,rfl⟩
theorem begin_lt {r r':Rd} {f a:It} (h:r.begin=some (f,a,r')) (hlt:r.next<r.count):r'.next<r'.count:=by
 unfold Rd.begin at h
 split at h
 ·cases h;exact hlt
 ·split at h
  ·cases h;exact hlt
  ·cases h
theorem meansM {c:List Ins} (l:Nat) {j:Jb} {x:It} {k d:Nat} {z:Bool} (h:BB c j x k d z):MeansM c l j x k d z:=by
 induction h with
 | @ret p vs x hc =>
  intro m lo ha hv hs ht
  exact OutM.now ⟨p,0,rfl,ha,hc,by simpa using hs,rfl,Gm.none ht rfl rfl⟩
 | @op p op a vs rs rs' z x k d z' hc hop hbb ih =>
  intro m lo ha hv hs ht
  obtain⟨r,hr,hz⟩:=exec_s hop { m with steps:=m.steps+1,at_:=((p+1:Nat):Int) } lo (1000+m.steps) hv hs
  have hpos:=hbb.pos
  refine OutM.step ha hc hr (fun h=>by have:=h.2.1;omega) ?_
  rcases hz with ⟨rfl,m',rfl,h1,h2,h3,h4,h5,h6⟩|⟨rfl,rfl⟩
  ·have hg:Gm c 1 m m':=Gm.one ht h6 h5
   refine OutM.bind (ih m' lo h2 (h3.trans hv) h1 hg.ti) ?_ ?_
   ·rintro⟨f1,f2,f3⟩
    simp only [Bool.and_eq_true] at f1
    have h6':m'.steps=m.steps+1:=h6
    have h4':m'.frames=m.frames:=h4
    exact⟨f1.2,by omega,by rw [h4'];exact f3⟩
   ·rintro m2 ⟨e,k',rfl,a1,a2,a3,a4,a5⟩
    exact OutM.now ⟨e,k'+1,rfl,a1,a2,a3,a4.trans h4,(hg.trans a5).cast (by omega)⟩
  ·exact⟨.inl rfl,fun h=>by have:=h.1;simp at this⟩
 | @app p f a vs rs y k1 d1 z1 x k2 d2 z2 hc hb1 hb2 i1 i2 =>
  intro m lo ha hv hs ht
  have hp1:=popM_eq (m:={ m with steps:=m.steps+1,at_:=((p+1:Nat):Int) }) (s:=lo++rs.reverse++[f]) (x:=a) (by simpa using hs)
  have hp2:=popM_eq (m:={ m with steps:=m.steps+1,at_:=((p+1:Nat):Int),stack:=lo++rs.reverse++[f],sg:=a::m.sg }) (s:=lo++rs.reverse) (x:=f) rfl
  obtain⟨res,h1,h2⟩:=call_step hb1 i1 { m with steps:=m.steps+1,at_:=((p+1:Nat):Int),stack:=lo++rs.reverse,sg:=f::a::m.sg } (p:=p+1) rfl ht
  refine OutM.step ha hc (r:=res) (by simp only [Mm.exec,hp1,hp2];exact h1) (fun h=>by have:=h.2.1;omega) ?_
  refine h2.bind ?_ ?_
  ·rintro⟨f1,f2,f3⟩
   simp only [Bool.and_eq_true] at f1
   exact⟨f1.1,by simp only;omega,by simp only;omega⟩
  rintro m3 ⟨⟨b1,b2,b3,b4,b5⟩,-⟩
  simp only at b1 b2 b3 b4
  have hg:Gm c (1+k1) m m3:=(Gm.one (m':={ m with steps:=m.steps+1,at_:=((p+1:Nat):Int),stack:=lo++rs.reverse,sg:=f::a::m.sg }) ht rfl rfl).trans b5
  refine OutM.bind (i2 m3 lo b2 (b3.trans hv) (by rw [b1];simp) hg.ti) ?_ ?_
  ·rintro⟨f1,f2,f3⟩
   simp only [Bool.and_eq_true] at f1
   have:=hg.hi
   exact⟨f1.2,by omega,by rw [b4];omega⟩
  ·rintro m4 ⟨e,k',rfl,a1,a2,a3,a4,a5⟩
   exact OutM.now ⟨e,1+k1+k',by omega,a1,a2,a3,a4.trans b4,hg.trans a5⟩
 | @rec0 p vs rs b n q ws r x k d z list hc hrd h0 hb ih =>
  intro m lo ha hv hs ht
  have hp1:=popM_eq (m:={ m with steps:=m.steps+1,at_:=((p+1:Nat):Int) }) (s:=lo++rs.reverse++[b]++[.fn q ws]) (x:=n) (by simpa using hs)
  have hp2:=popM_eq (m:={ m with steps:=m.steps+1,at_:=((p+1:Nat):Int),stack:=lo++rs.reverse++[b]++[.fn q ws],sg:=n::m.sg }) (s:=lo++rs.reverse++[b]) (x:=.fn q ws) rfl
  have hp3:=popM_eq (m:={ m with steps:=m.steps+1,at_:=((p+1:Nat):Int),stack:=lo++rs.reverse++[b],sg:=.fn q ws::n::m.sg }) (s:=lo++rs.reverse) (x:=b) rfl
  have hex:Mm.exec { m with steps:=m.steps+1,at_:=((p+1:Nat):Int) } (1000+m.steps) (bif list then 9 else 6) 0=some (.go (Mm.push { m with steps:=m.steps+1,at_:=((p+1:Nat):Int),stack:=lo++rs.reverse,sg:=b :: .fn q ws::n::m.sg } b)):=by
   have:Mm.exec { m with steps:=m.steps+1,at_:=((p+1:Nat):Int) } (1000+m.steps) (bif list then 9 else 6) 0=Mm.recursion { m with steps:=m.steps+1,at_:=((p+1:Nat):Int) } (1000+m.steps) list:=by cases list<;>rfl
   rw [this]
   simp only [Mm.recursion,hp1,hp2,hp3,hrd,h0,if_true]
  refine OutM.step ha hc hex (fun h=>by have:=h.2.1;omega) ?_
  have hg:Gm c 1 m (Mm.push { m with steps:=m.steps+1,at_:=((p+1:Nat):Int),stack:=lo++rs.reverse,sg:=b :: .fn q ws::n::m.sg } b):=Gm.one ht rfl rfl
  refine OutM.bind (ih (Mm.push { m with steps:=m.steps+1,at_:=((p+1:Nat):Int),stack:=lo++rs.reverse,sg:=b :: .fn q ws::n::m.sg } b) lo rfl hv (by simp [Mm.push]) hg.ti) ?_ ?_
  ·rintro⟨f1,f2,f3⟩
   exact⟨f1,by simp only [Mm.push];omega,f3⟩
  ·rintro m2 ⟨e,k',rfl,a1,a2,a3,a4,a5⟩
   exact OutM.now ⟨e,k'+1,rfl,a1,a2,a3,a4,(hg.trans a5).cast (by omega)⟩
 | @recS p vs rs b n q ws r g a r' y k1 d1 z1 x k2 d2 z2 list hc hrd h0 hbeg hb1 hb2 i1 i2 =>
  intro m lo ha hv hs ht
  have hp1:=popM_eq (m:={ m with steps:=m.steps+1,at_:=((p+1:Nat):Int) }) (s:=lo++rs.reverse++[b]++[.fn q ws]) (x:=n) (by simpa using hs)
  have hp2:=popM_eq (m:={ m with steps:=m.steps+1,at_:=((p+1:Nat):Int),stack:=lo++rs.reverse++[b]++[.fn q ws],sg:=n::m.sg }) (s:=lo++rs.reverse++[b]) (x:=.fn q ws) rfl
  have hp3:=popM_eq (m:={ m with steps:=m.steps+1,at_:=((p+1:Nat):Int),stack:=lo++rs.reverse++[b],sg:=.fn q ws::n::m.sg }) (s:=lo++rs.reverse) (x:=b) rfl
  have h00:=(rdOf_0 hrd).1
  have hlt:=begin_lt hbeg (by omega)
  obtain⟨res,h1,h2⟩:=i1 { m with steps:=m.steps+1,at_:=((p+1:Nat):Int),stack:=lo++rs.reverse,sg:=b :: .fn q ws::n::m.sg } (1000+m.steps) (rdFuel (some (1000+m.steps,r'))) ⟨p+1,rfl⟩ ht hlt (Nat.le_refl _)
  have hex:Mm.exec { m with steps:=m.steps+1,at_:=((p+1:Nat):Int) } (1000+m.steps) (bif list then 9 else 6) 0=some res:=by
   have:Mm.exec { m with steps:=m.steps+1,at_:=((p+1:Nat):Int) } (1000+m.steps) (bif list then 9 else 6) 0=Mm.recursion { m with steps:=m.steps+1,at_:=((p+1:Nat):Int) } (1000+m.steps) list:=by cases list<;>rfl
   rw [this]
   simp only [Mm.recursion,hp1,hp2,hp3,hrd,h0,if_false,hbeg]
   exact h1
  refine OutM.step ha hc hex (fun h=>by have:=h.2.1;omega) ?_
  refine h2.bind ?_ ?_
  ·rintro⟨f1,f2,f3⟩
   simp only [Bool.and_eq_true] at f1
   exact⟨f1.1,by simp only;omega,by simp only;omega⟩
  rintro m3 ⟨b1,b2,b3,b4,b5⟩
  simp only at b1 b2 b3 b4
  have hg:Gm c (1+k1) m m3:=(Gm.one (m':={ m with steps:=m.steps+1,at_:=((p+1:Nat):Int),stack:=lo++rs.reverse,sg:=b :: .fn q ws::n::m.sg }) ht rfl rfl).trans b5
  refine OutM.bind (i2 m3 lo b2 (b3.trans hv) (by rw [b1];simp) hg.ti) ?_ ?_
  ·rintro⟨f1,f2,f3⟩
   simp only [Bool.and_eq_true] at f1
   have:=hg.hi
   exact⟨f1.2,by omega,by rw [b4];omega⟩
  ·rintro m4 ⟨e,k',rfl,a1,a2,a3,a4,a5⟩
   exact OutM.now ⟨e,1+k1+k',by omega,a1,a2,a3,a4.trans b4,hg.trans a5⟩
 | @cal q ws a x k d z hb ih =>
  intro m rd ht hl
  refine⟨q,ws,rfl,?_⟩
  obtain⟨s1,s2,s3,s4,s5⟩:=miss_same m (.fn q ws) a
  have hg:=Gm.miss ht (.fn q ws) a
  simp only [Mm.into]
  rw [s3]
  split
  ·rename_i hfull
   refine⟨.inl rfl,?_⟩
   rintro⟨f1,f2,f3⟩
   omega
  ·rename_i hfull
   refine OutM.bind (ih { missM m (.fn q ws) a with frames:=m.frames++[⟨(missM m (.fn q ws) a).at_,(missM m (.fn q ws) a).vars,.fn q ws,a,rd⟩],fg:=[],fv:=(missM m (.fn q ws) a).fv+1,at_:=q,vars:=a::ws } m.stack rfl rfl (by simp [s2]) hg.ti) ?_ ?_
   ·rintro⟨f1,f2,f3⟩
    exact⟨f1,by simp only;omega,by simp only [List.length_append,List.length_cons,List.length_nil];omega⟩
   ·rintro m2 ⟨e,k',rfl,a1,a2,a3,a4,a5⟩
    refine OutM.now ⟨e,k',rfl,a1,a2,a3,?_,?_⟩
    ·rw [a4,s4,s5]
    ·have:Gm c (0+k') m m2:=hg.trans (a5.to rfl rfl rfl rfl)
     exact this.cast (by omega)
 | last hb hr ih=>exact means_last hb ih hr
 | more hb hr _ i1 i2=>exact means_more hb i1 hr i2
end Go.Proofs.YtodjpfpmhjdhbaaGreatDoor
namespace Go.Proofs.YtodjpfpmhjdhbaaGreatDoor
open Go.Lg
set_option maxRecDepth 10000
set_option maxHeartbeats 4000000
def nuC (l:List Nat):List (List PV):=l.map fun (n:Nat)=>[.int n]
mutual
def rcC:It→List PV
 | .num n=>[.int 1,.int n,.int 0,.slice [],.slice []]
 | .list l=>[.int 2,.int 0,.int 0,.slice (nuC l),.slice []]
 | .pair a b=>[.int 3,.int 0,.int 0,.slice [],.slice [rcC a,rcC b]]
 | .unit=>[.int 4,.int 0,.int 0,.slice [],.slice []]
 | .fn p vs=>[.int 5,.int 0,.int p,.slice [],.slice (rcL vs)]
def rcL:List It→List (List PV)
 | []=>[]
 | x::r=>rcL r++[rcC x]
end
theorem rcL_map (vs:List It):rcL vs=vs.reverse.map rcC:=by
 induction vs with
 | nil=>rfl
 | cons x r ih=>simp [rcL,ih]
theorem rcC_shape (x:It):∃ (k n a:Nat) (s t:List (List PV)),rcC x=[.int k,.int n,.int a,.slice s,.slice t]:=by
 cases x with
 | num n=>exact⟨1,n,0,[],[],rfl⟩
 | list l=>exact⟨2,0,0,_,[],rfl⟩
 | pair a b=>exact⟨3,0,0,[],_,rfl⟩
 | unit=>exact⟨4,0,0,[],[],rfl⟩
 | fn p vs=>exact⟨5,0,p,[],_,rfl⟩
theorem rep_nn {H:Hp} {k n a:PV} : ∀ v,RepP H (.agg [k,n,a,.nils,.nils]) v→RepP H (.agg [k,n,a,.slice [],.slice []]) v :=
 repP_agg rfl (repL_cons (fun _ h=>h) (repL_cons (fun _ h=>h) (repL_cons (fun _ h=>h) (repL_cons (fun _ h=>rep_nils h) (repL_cons (fun _ h=>rep_nils h) (fun _ h=>h))))))
theorem rep_ns {H:Hp} {k n a t:PV} : ∀ v,RepP H (.agg [k,n,a,.nils,t]) v→RepP H (.agg [k,n,a,.slice [],t]) v :=
 repP_agg rfl (repL_cons (fun _ h=>h) (repL_cons (fun _ h=>h) (repL_cons (fun _ h=>h) (repL_cons (fun _ h=>rep_nils h) (repL_cons (fun _ h=>h) (fun _ h=>h))))))
theorem num38_ok (n:Nat):AC Tryz.prog gl 141 [.pv (.int n)] [] (.ret (.pv (.agg (rcC (.num n))))) []:=by
 refine AC.leO (p:=.agg [.int 1,.int n,.int 0,.nils,.nils]) ?_ (fun H v h=>rep_nn v h)
 refine body [] Tryz.func141 Tryz.ntmps141 ?_
 refine gg ?_
 exact enC20
def takesP (op:Nat):Nat:=if op=3∨op=8∨op=10 then 2 else if op=6∨op=9 then 3 else if op=5∨op=11∨op=12 then 1 else 0
theorem takes_ok (op:Nat) (h1:1≤op) (h2:op≤13):AC Tryz.prog gl 122 [.pv (.int op)] [] (.ret (.pv (.int (takesP op)))) []:=by
 have:op=1∨op=2∨op=3∨op=4∨op=5∨op=6∨op=7∨op=8∨op=9∨op=10∨op=11∨op=12∨op=13:=by omega
 rcases this with rfl|rfl|rfl|rfl|rfl|rfl|rfl|rfl|rfl|rfl|rfl|rfl|rfl
 all_goals
  simp only [takesP,Nat.reduceEqDiff,false_or,or_false,or_self,true_or,or_true,if_true,if_false,Int.cast_ofNat_Int]
  refine body [] Tryz.func122 Tryz.ntmps122 ?_
  refine gg ?_
  exact enC20
def cntS (n:Nat):List It→Nat
 | []=>n
 | x::r=>if n≤1024 then cntS (n+(x.more+1)) r else n
theorem cntS_of (L:List It):∀ n,(1024<n+insideL L→1024<cntS n L)∧(n+insideL L≤1024→cntS n L=n+insideL L):=by
 induction L with
 | nil=>intro n;simp [cntS,insideL]
 | cons x r ih =>
  intro n
  simp only [cntS,insideL]
  by_cases h:n≤1024
  ·rw [if_pos h]
   have:=ih (n+(x.more+1))
   refine⟨fun h=>this.1 (by omega),fun h => ?_⟩
   rw [this.2 (by omega)];omega
  ·rw [if_neg h]
   exact⟨fun _=>by omega,fun h=>by omega⟩
theorem inside_app (a b:List It):insideL (a++b)=insideL a+insideL b:=by
 induction a with
 | nil=>simp [insideL]
 | cons x a ih=>simp only [List.cons_append,insideL,ih];omega
theorem inside_rev (a:List It):insideL a.reverse=insideL a:=by
 induction a with
 | nil=>rfl
 | cons x a ih=>rw [List.reverse_cons,inside_app,ih];simp only [insideL];omega
def Cl (x:It):Prop:=AC Tryz.prog gl 151 [.pv (.agg (rcC x))] [] (.ret (.pv (.int ((x.more+1:Nat):Int)))) []∧x.more<1024
noncomputable def cntI (k n a:Int) (s t:List (List PV)) (i m:Nat):St:=⟨[(1,.pv (.ptr [.int k,.int n,.int a,.slice s,.slice t])),(3,.pv (.int m)),(4,.pv (.int i))],[],[]⟩
theorem cells_gen (k n a:Int) (s:List (List PV)) (L:List It) (hL:∀ x∈L,Cl x) (hl:L.length≤100000):AC Tryz.prog gl 151 [.pv (.agg [.int k,.int n,.int a,.slice s,.slice (L.map rcC)])] [] (.ret (.pv (.int (cntS 1 L)))) []:=by
 have hlen:(L.map rcC).length=L.length:=by simp
 have hal:∀ q∈L.map rcC,q.length=5:=by
  intro e he
  obtain⟨x,-,rfl⟩:=List.mem_map.1 he
  obtain⟨k,n,a,s,t,e⟩:=rcC_shape x
  rw [e];rfl
 refine body [] Tryz.func151 Tryz.ntmps151 ?_
 have hg:∀ j (hj:j<L.length),(L.map rcC).getD j []=rcC L[j]:=by
  intro j hj
  simp [List.getD,hj]
 have hcl':(L.map rcC).length≤100000:=by simpa using hl
 generalize L.map rcC=cc at *
 refine gg ?_
 refine AWP.loop (ι:={ p:Nat × Nat // p.1≤L.length∧cntS p.2 (L.drop p.1)=cntS 1 L∧p.2≤2048 }) (fun p=>cntI k n a s cc p.1.1 p.1.2) (fun p=>L.length-p.1.1) ⟨(0,1),Nat.zero_le _,rfl,by decide⟩ ?_ ?_
 ·refine⟨by simp [cntI,slotsLe,getS],by simp [cntI,subO,getO],by simp [cntI,subL,namesSl,V.names,namesOb,Ob.names,namesL,XX_given]⟩
 rintro⟨⟨j,m⟩,hj,hc,hm⟩
 simp only at hj hc hm ⊢
 by_cases hlt:j<L.length
 ·have hd:L.drop j=L[j]::L.drop (j+1):=List.drop_eq_getElem_cons hlt
  rw [hd] at hc
  simp only [cntS] at hc
  have k1:(j:Int)<cc.length:=by omega
  have k2:(0:Int)≤(j:Int):=by omega
  by_cases hm2:m≤1024
  ·have k3:(m:Int)≤1024:=by omega
   rw [if_pos hm2] at hc
   obtain⟨hcl,hmo⟩:=hL L[j] (List.getElem_mem hlt)
   have hgj:=hg j hlt
   obtain⟨kx,nx,ax,sx,tx,ex⟩:=rcC_shape L[j]
   rw [ex] at hcl hgj
   have hn:=fun (σ':St) (hw:Weak (XX [] 25 []) σ' (cntI k n a s cc (j+1) (m+(L[j].more+1))))=>(⟨⟨(j+1,m+(L[j].more+1)),by simp only;omega,hc,by simp only;omega⟩,by simp only;omega,hw⟩:∃ q : { p:Nat × Nat // p.1≤L.length∧cntS p.2 (L.drop p.1)=cntS 1 L∧p.2≤2048 },L.length-q.1.1<L.length-j∧Weak (XX [] 25 []) σ' (cntI k n a s cc q.1.1 q.1.2))
   generalize hPP:(fun σ' => ∃ q : { p:Nat × Nat // p.1≤L.length∧cntS p.2 (L.drop p.1)=cntS 1 L∧p.2≤2048 },L.length-q.1.1<L.length-j∧Weak (XX [] 25 []) σ' (cntI k n a s cc q.1.1 q.1.2))=PP
   have hn':∀ σ',Weak (XX [] 25 []) σ' (cntI k n a s cc (j+1) (m+(L[j].more+1)))→PP σ':=by
    intro σ' h
    rw [← hPP]
    exact hn σ' h
   clear hn hPP hL hc hd hg ex hlen hl hj hm
   generalize L[j].more=mo at *
   have e1:((mo+1:Nat):Int)=(mo:Int)+1:=by omega
   have e2:((m+(mo+1):Nat):Int)=(m:Int)+((mo:Int)+1):=by omega
   have e3:((j+1:Nat):Int)=(j:Int)+1:=by omega
   clear hlt
   unfold cntI at hn' ⊢
   rw [e2,e3] at hn'
   rw [e1] at hcl
   refine gg ?_
   refine call hcl ?_
   refine gg ?_
   refine hn' _ ?_
   exact⟨by simp [slotsLe,getS],by simp [subO,getO],by simp [subL,namesSl,V.names,namesOb,Ob.names,namesL,XX_given]⟩
  ·have k3:¬ (m:Int)≤1024:=by omega
   rw [if_neg hm2] at hc
   rw [← hc]
   unfold cntI
   clear hL hc hd hg hlen hl hj hm hlt
   refine gg ?_
   exact enC20
 ·obtain rfl:j=L.length:=by omega
  rw [List.drop_length] at hc
  simp only [cntS] at hc
  rw [← hc]
  have k1:¬ (L.length:Int)<cc.length:=by omega
  unfold cntI
  clear hL hc hg hlen hl
  refine gg ?_
  exact enC20
theorem cl_flat (k n a:Int) (s:List (List PV)):AC Tryz.prog gl 151 [.pv (.agg [.int k,.int n,.int a,.slice s,.slice []])] [] (.ret (.pv (.int 1))) []:=cells_gen k n a s [] (by simp) (by simp)
mutual
theorem cells_it {b:Nat} : ∀ (x:It),Bd b x→Cl x
 | .num _,_=>⟨cl_flat _ _ _ _,by simp [It.more]⟩
 | .list _,_=>⟨cl_flat _ _ _ _,by simp [It.more]⟩
 | .unit,_=>⟨cl_flat _ _ _ _,by simp [It.more]⟩
 | .pair x y,h=>by
  have hm:=h.more
  simp only [Bd] at h
  refine⟨?_,hm⟩
  have h1:=cells_gen 3 0 0 [] [x,y] (by
   intro z hz
   simp only [List.mem_cons,List.not_mem_nil,or_false] at hz
   rcases hz with e|e
   ·rw [e];exact cells_it x h.1
   ·rw [e];exact cells_it y h.2.1) (by simp)
  simp only [It.more] at hm
  have h2:=(cntS_of [x,y] 1).2 (by simp only [insideL];omega)
  rw [h2] at h1
  have e:1+insideL [x,y]=(It.pair x y).more+1:=by simp only [insideL,It.more];omega
  rw [e] at h1
  exact h1
 | .fn p vs,h=>by
  have hm:=h.more
  simp only [Bd] at h
  refine⟨?_,hm⟩
  have hv:=inside_len vs
  have h1:=cells_gen 5 0 p [] vs.reverse (by
   intro z hz
   exact cells_itL vs h.1 z (List.mem_reverse.1 hz)) (by simp;omega)
  simp only [It.more] at hm
  have h2:=(cntS_of vs.reverse 1).2 (by rw [inside_rev];omega)
  rw [h2,inside_rev] at h1
  have e:1+insideL vs=(It.fn p vs).more+1:=by simp only [It.more];omega
  rw [e] at h1
  simp only [rcC,rcL_map]
  exact h1
theorem cells_itL {b:Nat} : ∀ (L:List It),BdL b L→∀ z∈L,Cl z
 | [],_,z,hz=>by cases hz
 | x::r,h,z,hz=>by
  simp only [BdL] at h
  rcases List.mem_cons.1 hz with e|hz
  ·rw [e];exact cells_it x h.1
  ·exact cells_itL r h.2 z hz
end
theorem sized_go (k n a:Int) (s t:List (List PV)) (c:Nat) (h:AC Tryz.prog gl 151 [.pv (.agg [.int k,.int n,.int a,.slice s,.slice t])] [] (.ret (.pv (.int c))) []) (hc:c≤1024) :
  AC Tryz.prog gl 140 [.pv (.agg [.int k,.int n,.int a,.slice s,.slice t])] [] (.ret (.pv (.tuple [.agg [.int k,.int n,.int a,.slice s,.slice t],.int 0]))) []:=by
 have k1:¬ (1024:Int)<c:=by omega
 refine body [] Tryz.func140 Tryz.ntmps140 ?_
 refine gg ?_
 refine call h ?_
 refine gg ?_
 exact enC20
open Go.Lg
set_option maxRecDepth 10000
set_option maxHeartbeats 4000000
def mR (c:List Ins) (l s d:Nat):Ob:=.box [.pv (.slice (c.map insP)),.pv (.int l),.pv (.int s),.pv (.int d),.pv (.bool false),.pv .nils,.pv (.int 0)]
inductive Oc where
 | ok (x:It) (s:Nat)
 | err (e s:Nat)
def zC:List PV:=[.int 0,.int 0,.int 0,.nils,.nils]
def ocV:Oc→PV
 | .ok x _ => .tuple [.agg (rcC x),.int 0]
 | .err e _ => .tuple [.agg zC,.int e]
def ocM (c:List Ins) (l d:Nat):Oc→Ob
 | .ok _ s=>mR c l s d
 | .err _ s=>mR c l s d
def DoC (c:List Ins) (l op a:Nat) (args vs:List It) (s d:Nat) (o:Oc):Prop :=
 AC Tryz.prog gl 123 [.loc 970 0,.pv (.agg [.int op,.int a]),.pv (.slice (args.map rcC)),.pv (.slice (rcL vs))] [(970,mR c l s d)] (.ret (.pv (ocV o))) [(970,ocM c l d o)]
section
variable (c:List Ins) (l s d:Nat) (vs:List It)
theorem do_var (a:Nat) (x:It) (h:vs[a]? = some x) (hl:vs.length≤100000) (ha:a≤1000000):DoC c l 1 a [] vs s d (.ok x s):=by
 obtain⟨kx,nx,ax,sx,tx,ex⟩:=rcC_shape x
 have hal:∀ q∈rcL vs,q.length=5:=by
  intro e he
  rw [rcL_map] at he
  obtain⟨x,-,rfl⟩:=List.mem_map.1 he
  obtain⟨k,n,a,s,t,e⟩:=rcC_shape x
  rw [e];rfl
 have hlt:a<vs.length:=(List.getElem?_eq_some_iff.1 h).1
 have hlen:(rcL vs).length=vs.length:=by rw [rcL_map];simp
 have hg:(rcL vs).getD ((((rcL vs).length:Int)-1-(a:Int)).toNat) []=[.int kx,.int nx,.int ax,.slice sx,.slice tx]:=by
  have e:(((rcL vs).length:Int)-1-(a:Int)).toNat=vs.length-1-a:=by omega
  rw [e,rcL_map,← ex]
  have hr:vs.reverse[vs.length-1-a]? = some x:=by
   rw [List.getElem?_reverse (by omega)]
   rw [show vs.length-1-(vs.length-1-a)=a by omega]
   exact h
  simp only [List.getD_eq_getElem?_getD,List.getElem?_map,hr,Option.map_some,Option.getD_some]
 simp only [DoC,ocV,ocM]
 rw [ex]
 rw [← hlen] at hl hlt
 simp only [mR,List.map_nil]
 generalize rcL vs=cc at *
 generalize c.map insP=cd
 clear hlen h ex
 have k1:¬ (cc.length:Int)≤(a:Int):=by omega
 have k2:(0:Int)≤(cc.length:Int)-1-(a:Int):=by omega
 have k3:(cc.length:Int)-1-(a:Int)<(cc.length:Int):=by omega
 clear hlt
 refine body [] Tryz.func123 Tryz.ntmps123 ?_
 refine gg ?_
 exact enC20
theorem do_zero:DoC c l 4 0 [] vs s d (.ok (.num 0) s):=by
 have h1:=num38_ok 0
 simp only [DoC,ocV,ocM]
 simp only [mR,List.map_nil,rcC,Int.cast_ofNat_Int] at *
 generalize rcL vs=cc at *
 generalize c.map insP=cd
 refine body [] Tryz.func123 Tryz.ntmps123 ?_
 refine gg ?_
 refine call h1 ?_
 refine gg ?_
 exact enC20
theorem do_succ (n:Nat) (hn:n≤1000000):DoC c l 5 0 [.num n] vs s d (.ok (.num (n+1)) s):=by
 have h1:=num38_ok (n+1)
 have e1:((n+1:Nat):Int)=(n:Int)+1:=by omega
 simp only [rcC,e1] at h1
 simp only [DoC,ocV,ocM,zC]
 simp only [mR,e1,List.map_cons,List.map_nil,rcC,Int.cast_ofNat_Int] at *
 generalize rcL vs=cc at *
 generalize c.map insP=cd
 refine body [] Tryz.func123 Tryz.ntmps123 ?_
 refine gg ?_
 refine call h1 ?_
 refine gg ?_
 exact enC20
theorem do_pair {b:Nat} (x y:It) (hx:Bd b x) (hy:Bd b y) (hm:2+x.more+y.more<1024):DoC c l 10 0 [x,y] vs s d (.ok (.pair x y) s):=by
 obtain⟨kx,nx,ax,sx,tx,ex⟩:=rcC_shape x
 obtain⟨ky,ny,ay,sy,ty,ey⟩:=rcC_shape y
 have h0:=cells_gen 3 0 0 [] [x,y] (by
  intro z hz
  simp only [List.mem_cons,List.not_mem_nil,or_false] at hz
  rcases hz with e|e
  ·rw [e];exact cells_it x hx
  ·rw [e];exact cells_it y hy) (by simp)
 have hc:=cntS_of [x,y] 1
 simp only [insideL] at hc
 have h1:=AC.le1 (sized_go 3 0 0 [] _ _ h0 (by rw [hc.2 (by omega)];omega)) (fun H v h=>rep_ns (k:=.int 3) (n:=.int 0) (a:=.int 0) v h)
 simp only [List.map_cons,List.map_nil,ex,ey] at h1
 clear h0 hc
 simp only [DoC,ocV,ocM,zC]
 simp only [mR,List.map_cons,List.map_nil,rcC,ex,ey,Int.cast_ofNat_Int] at *
 generalize rcL vs=cc at *
 generalize c.map insP=cd
 refine body [] Tryz.func123 Tryz.ntmps123 ?_
 refine gg ?_
 refine call h1 ?_
 refine gg ?_
 refine⟨by rfl,?_⟩
 refine gg ?_
 exact enC20
theorem do_fun {b:Nat} (a:Nat) (hv:BdL b vs) (hl:vs.length≤100000) (hm:insideL vs<1024):DoC c l 2 a [] vs s d (.ok (.fn a vs) s):=by
 have h0:=cells_gen 5 0 a [] vs.reverse (by
  intro z hz
  exact cells_itL vs hv z (List.mem_reverse.1 hz)) (by simp;omega)
 have hc:=cntS_of vs.reverse 1
 rw [inside_rev] at hc
 rw [← rcL_map] at h0
 have h1:=AC.le1 (sized_go 5 0 a [] _ _ h0 (by rw [hc.2 (by omega)];omega)) (fun H v h=>rep_ns (k:=.int 5) (n:=.int 0) (a:=.int a) v h)
 clear h0 hc
 simp only [DoC,ocV,ocM,zC]
 simp only [mR,List.map_cons,List.map_nil,rcC,Int.cast_ofNat_Int] at *
 generalize rcL vs=cc at *
 generalize c.map insP=cd
 refine body [] Tryz.func123 Tryz.ntmps123 ?_
 refine gg ?_
 refine call h1 ?_
 refine gg ?_
 exact enC20
end
def EnC (c:List Ins) (l:Nat) (f x:It) (s d:Nat) (o:Oc):Prop :=
 AC Tryz.prog gl 93 [.loc 970 0,.pv (.agg (rcC f)),.pv (.agg (rcC x))] [(970,mR c l s d)] (.ret (.pv (ocV o))) [(970,ocM c l d o)]
def BlC (c:List Ins) (l p:Nat) (vs:List It) (s d:Nat) (o:Oc):Prop :=
 AC Tryz.prog gl 92 [.loc 970 0,.pv (.int p),.pv (.slice (rcL vs))] [(970,mR c l s d)] (.ret (.pv (ocV o))) [(970,ocM c l d o)]
theorem rcC_len (x:It):(rcC x).length=5:=by
 obtain⟨k,n,a,s,t,e⟩:=rcC_shape x
 rw [e];rfl
theorem rcC_one (x:It):(rcC x).all PV.one=true:=by
 obtain⟨k,n,a,s,t,e⟩:=rcC_shape x
 rw [e];rfl
theorem rcL_all (vs:List It):∀ q∈rcL vs,q.length=5:=by
 intro e he
 rw [rcL_map] at he
 obtain⟨x,-,rfl⟩:=List.mem_map.1 he
 exact rcC_len x
theorem rcL_one (vs:List It):∀ q∈rcL vs,q.all PV.one=true:=by
 intro e he
 rw [rcL_map] at he
 obtain⟨x,-,rfl⟩:=List.mem_map.1 he
 exact rcC_one x
theorem pvE_app2 (a b:List (List PV)):pvE (a++b)=pvE a++pvE b:=by simp [pvE]
section
variable (c:List Ins) (l:Nat)
theorem enter_ok (p:Nat) (ws:List It) (x y:It) (s s' d:Nat) (hd:d<1024) (hl:ws.length≤100000) (h:BlC c l p (x::ws) s (d+1) (.ok y s')):EnC c l (.fn p ws) x s d (.ok y s'):=by
 obtain⟨kx,nx,ax,sx,tx,ex⟩:=rcC_shape x
 obtain⟨ky,ny,ay,sy,ty,ey⟩:=rcC_shape y
 have k1:¬ (1024:Int)≤(d:Int):=by omega
 have e1:((d+1:Nat):Int)=(d:Int)+1:=by omega
 have hall:=rcL_all ws
 have hone:=rcL_one ws
 have hlen:(rcL ws).length=ws.length:=by rw [rcL_map];simp
 simp only [EnC,BlC,ocV,ocM,zC] at *
 simp only [mR,rcC,rcL,ex,ey,e1,Int.cast_ofNat_Int] at *
 rw [← hlen] at hl
 generalize rcL ws=cc at *
 generalize c.map insP=cd at *
 clear ex ey hlen e1
 have h1:=AC.frz (pre:=[.loc 970 0,.pv (.int p)]) (post:=[]) (n:=976) (ver:=2) (sz:=5) (ty:=47) h (by simp [keysO]) (by simp [keysO])
 have e2:(cc++[[PV.int kx,.int nx,.int ax,.slice sx,.slice tx]]).length=cc.length+1:=by simp
 have htk:List.take cc.length cc=cc:=List.take_length
 rw [e2] at h1
 simp only [List.nil_append,List.cons_append,pvE_app2] at h1
 clear e2 h
 refine body [(91,.arr 976 5 47)] Tryz.func93 Tryz.ntmps93 ?_
 refine gg ?_
 refine go ?_ (hc:=by simp only [buildC,and_true,true_and,implies_true,true_implies,and_self];exact⟨⟨hall,hone,by unfold maxLen;omega,by omega⟩,Nat.le_refl _,by unfold maxLen;omega,by omega⟩)
 refine gg ?_
 refine call h1 ?_
 refine gg ?_
 refine⟨by rfl,?_⟩
 refine gg ?_
 exact enC20
end
end Go.Proofs.YtodjpfpmhjdhbaaGreatDoor
