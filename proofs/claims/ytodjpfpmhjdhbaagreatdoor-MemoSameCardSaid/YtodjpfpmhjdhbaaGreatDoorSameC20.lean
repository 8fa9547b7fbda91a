/- Part of the proof: contracts of the types, terms, the generator and the compiler; no conditions. -/
import Derived.Test.YtodjpfpmhjdhbaaGreatDoorSameC19
import Derived.Test.YtodjpfpmhjdhbaaGreatDoorSameC5
import Derived.Test.YtodjpfpmhjdhbaaGreatDoorSameC1
import Derived.Test.YtodjpfpmhjdhbaaGreatDoorSameA13
set_option linter.unusedVariables false
set_option linter.unusedSimpArgs false
set_option linter.unusedSectionVars false
namespace Go.Proofs.YtodjpfpmhjdhbaaGreatDoor
open Go.Lg
theorem enC20 {P Q : Prop} (h : P := by simp [retIs,resV,resL,resOne,mkTup,getS,getO,rdV,mkAgg,unL,V.un,TI.isAgg,XX_T,tt47,Tryz.f141,Tryz.f142,tt3,Tryz.f122,Tryz.f151,Tryz.f140]) (k : Q := by simp [subO,getO,tt47,Tryz.f141,Tryz.f142,tt3,Tryz.f122,Tryz.f151,Tryz.f140]) : P ∧ Q := ⟨h,k⟩
end Go.Proofs.YtodjpfpmhjdhbaaGreatDoor
/- The machine with a table comes to what the big steps say. -/
namespace Go.Proofs.YtodjpfpmhjdhbaaGreatDoor
open Go.Lg
def Fit (l:Nat) (m:Mm) (k d:Nat) (z:Bool):Prop:=z=true∧m.steps+k≤l∧m.frames.length+d≤1024
def AtR (c:List Ins) (m:Mm) (fs:List Fr) (lo:List It) (x:It) (k:Nat) (m':Mm):Prop:=∃ e k',k=k'+1∧m'.at_=((e:Nat):Int)∧c[e]? = some (14,0)∧m'.stack=lo++[x]∧m'.frames=fs∧Gm c k' m m'
def BackM (c:List Ins) (m:Mm) (x:It) (k:Nat) (m':Mm):Prop:=m'.stack=m.stack++[x]∧m'.at_=m.at_∧m'.vars=m.vars∧m'.frames=m.frames∧Gm c k m m'
def MeansM (c:List Ins) (l:Nat):Jb→It→Nat→Nat→Bool→Prop
 | .blk p vs rs,x,k,d,z => ∀ (m:Mm) (lo:List It),m.at_=((p:Nat):Int)→m.vars=vs→m.stack=lo++rs.reverse→TI c m.tab→OutM c l (Fit l m k d z) m (AtR c m m.frames lo x k)
 | .cal f a,x,k,d,z => ∀ (m:Mm) (rd:Option (Nat × Rd)),TI c m.tab→lookM m f a=none→∃ q ws,f = .fn q ws∧OutRM c l (Fit l m k d z) ((missM m f a).into f a q ws rd) (AtR c m (m.frames++[⟨m.at_,m.vars,f,a,rd⟩]) m.stack x k)
 | .rds f a r,x,k,d,z => ∀ (m:Mm) (nm fuel:Nat),(∃ p:Nat,m.at_=((p:Nat):Int))→TI c m.tab→r.next<r.count→rdFuel (some (nm,r))≤fuel→∃ res,Mm.enterN fuel m f a (some (nm,r))=some res∧OutRM c l (Fit l m k d z) res (BackM c m x k)
theorem Gm.to {c:List Ins} {k:Nat} {m m1 m' m1':Mm} (h:Gm c k m m') (a1:m1.steps=m.steps) (a2:m1.tab=m.tab) (b1:m1'.steps=m'.steps) (b2:m1'.tab=m'.tab):Gm c k m1 m1' :=
 ⟨by rw [a1,b1];exact h.lo,by rw [a1,b1];exact h.hi,by rw [a1,a2,b1,b2];exact h.eq,by rw [b2];exact h.ti,by rw [a2,b2];exact h.grow,by rw [a1,a2,b1,b2];exact h.few⟩
theorem BB.fn {c:List Ins} {f a x:It} {k d:Nat} {z:Bool} (h:BB c (.cal f a) x k d z):∃ q ws,f = .fn q ws:=by
 cases h with
 | cal _=>exact ⟨_,_,rfl⟩
theorem stopIfM_go {m:Mm} (h:0≤m.at_):stopIfM m = .go m:=if_pos h
theorem ret_step {c:List Ins} {l:Nat} {fit:Prop} {m m':Mm} {f a x:It} {rd:Option (Nat × Rd)} {k d:Nat} {z:Bool} {P:Mm→Prop} (hb:BB c (.cal f a) x k d z) (h:AtR c m (m.frames++[⟨m.at_,m.vars,f,a,rd⟩]) m.stack x k m') (hfit:fit→m.steps+k≤l)
  (k1:∀ m2:Mm,m2.stack=m.stack→m2.at_=m.at_→m2.vars=m.vars→m2.frames=m.frames→Gm c k m m2→(plainC f a=true→Has m2.tab f a∨256≤m2.tab.res.length) →
   ∃ r,afterM m2 x rd=some r∧OutRM c l fit r P):OutM c l fit m' P:=by
 obtain ⟨e,k',rfl,ha,hc,hs,hf,hg⟩:=h
 have hlo:=hg.hi
 obtain ⟨g1,g2⟩:=Gm.out (m:=m') (s:=m.stack) (x:=x) (fs:=m.frames) (fr:=⟨m.at_,m.vars,f,a,rd⟩) hg.ti hb ((e+1:Nat):Int)
 obtain ⟨s1,s2,s3,s4,s5⟩:=outF_same { m' with steps:=m'.steps+1,at_:=((e+1:Nat):Int) } m.stack x m.frames ⟨m.at_,m.vars,f,a,rd⟩
 obtain ⟨r,hr,ho⟩:=k1 _ s2 s4 s5 s3 (hg.trans g1) g2
 have hl:=leave_eq (m:={ m' with steps:=m'.steps+1,at_:=((e+1:Nat):Int) }) (s:=m.stack) (x:=x) (fs:=m.frames) (fr:=⟨m.at_,m.vars,f,a,rd⟩) hs hf
 refine OutM.step (p:=e) ha hc (r:=r) ?_ (fun h=>by have:=hfit h;omega) ho
 show Mm.leave _=_
 rw [hl]
 exact hr
theorem call_step {c:List Ins} {l:Nat} {f a y:It} {k1 d1:Nat} {z1:Bool} (hb:BB c (.cal f a) y k1 d1 z1) (ih:MeansM c l (.cal f a) y k1 d1 z1) (m:Mm) {p:Nat} (hat:m.at_=((p:Nat):Int)) (ht:TI c m.tab) :
  ∃ res,m.enter f a none=some res∧OutRM c l (Fit l m k1 d1 z1) res (fun m'=>BackM c m y k1 m'∧(plainC f a=true→m.tab.hits<m'.tab.hits∨Has m'.tab f a∨256≤m'.tab.res.length)):=by
 obtain ⟨q,ws,rfl⟩:=hb.fn
 cases hl:lookM m (.fn q ws) a with
 | some y' =>
  obtain rfl:=lookM_ti hl ht hb
  refine ⟨_,enterN_hit0 hl 0,OutM.now ⟨⟨rfl,rfl,rfl,rfl,(Gm.hit ht k1 (.fn q ws) a).to rfl rfl rfl rfl⟩,fun _ => .inl ?_⟩⟩
  simp only [Mm.push,hitM,Tab.hit]
  omega
 | none =>
  obtain ⟨q',ws',e,ho⟩:=ih m none ht hl
  cases e
  refine ⟨_,enterN_miss hl 0 none,ho.bind id ?_⟩
  intro m' hm'
  refine ret_step hb hm' (fun h=>h.2.1) ?_
  intro m2 e1 e2 e3 e4 g1 g2
  refine ⟨_,rfl,?_⟩
  rw [stopIfM_go (by simp only [Mm.push,e2,hat];omega)]
  exact OutM.now ⟨⟨by simp only [Mm.push,e1],e2,e3,e4,g1.to rfl rfl rfl rfl⟩,fun h => .inr (g2 h)⟩
theorem rdFuel_dec {r r':Rd} {y f a:It} {nm:Nat} (h:r.returned y=some (some (f,a),r')) (hlt:r.next<r.count):rdFuel (some (nm,r'))+1≤rdFuel (some (nm,r))∧r'.next<r'.count:=by
 unfold Rd.returned at h
 split at h
 ·rename_i e
  cases h
  simp only [rdFuel,e,List.length_cons]
  exact ⟨by omega,hlt⟩
 ·rename_i e0
  split at h
  ·cases h
  ·rename_i hne
   split at h
   ·rename_i hbeg
    cases h
    unfold Rd.begin at hbeg
    split at hbeg
    ·cases hbeg
     simp only [rdFuel,e0,List.length_cons,List.length_nil]
     omega
    ·split at hbeg
     ·cases hbeg
      simp only [rdFuel,e0,List.length_cons,List.length_nil]
      omega
     ·cases hbeg
   ·cases h
theorem means_last {c:List Ins} {l:Nat} {f a y:It} {r r':Rd} {k d:Nat} {z:Bool} (hb:BB c (.cal f a) y k d z) (ih:MeansM c l (.cal f a) y k d z) (hr:r.returned y=some (none,r')):MeansM c l (.rds f a r) y k d z:=by
 intro m nm fuel hat ht hlt hfu
 obtain ⟨p,hp⟩:=hat
 obtain ⟨q,ws,rfl⟩:=hb.fn
 obtain ⟨j,rfl⟩:∃ j,fuel=j+1:=⟨fuel-1,by simp only [rdFuel] at hfu;omega⟩
 cases hl:lookM m (.fn q ws) a with
 | some y' =>
  obtain rfl:=lookM_ti hl ht hb
  have hn:OutM c l (Fit l m k d z) ((hitM m (.fn q ws) a).push y') (BackM c m y' k):=OutM.now ⟨rfl,rfl,rfl,rfl,(Gm.hit ht k (.fn q ws) a).to rfl rfl rfl rfl⟩
  exact ⟨.go ((hitM m (.fn q ws) a).push y'),by rw [enterN_hit1 hl,hr],hn⟩
 | none =>
  obtain ⟨q',ws',e,ho⟩:=ih m (some (nm,r)) ht hl
  cases e
  refine ⟨_,enterN_miss hl j _,ho.bind id ?_⟩
  intro m' hm'
  refine ret_step hb hm' (fun h=>h.2.1) ?_
  intro m2 e1 e2 e3 e4 g1 g2
  refine ⟨stopIfM (m2.push y),by simp only [afterM,hr],?_⟩
  rw [stopIfM_go (by simp only [Mm.push,e2,hp];omega)]
  exact OutM.now ⟨by simp only [Mm.push,e1],e2,e3,e4,g1.to rfl rfl rfl rfl⟩
theorem means_more {c:List Ins} {l:Nat} {f a y f' a' x:It} {r r':Rd} {k1 d1 k2 d2:Nat} {z1 z2:Bool} (hb:BB c (.cal f a) y k1 d1 z1) (ih:MeansM c l (.cal f a) y k1 d1 z1) (hr:r.returned y=some (some (f',a'),r'))
  (ih2:MeansM c l (.rds f' a' r') x k2 d2 z2):MeansM c l (.rds f a r) x (k1+k2) (max d1 d2) (z1 && z2):=by
 intro m nm fuel hat ht hlt hfu
 obtain ⟨q,ws,rfl⟩:=hb.fn
 obtain ⟨hd1,hd2⟩:=rdFuel_dec (nm:=nm) hr hlt
 obtain ⟨j,rfl⟩:∃ j,fuel=j+1:=⟨fuel-1,by omega⟩
 obtain ⟨p,hp⟩:=hat
 cases hl:lookM m (.fn q ws) a with
 | some y' =>
  obtain rfl:=lookM_ti hl ht hb
  have hg:=Gm.hit ht k1 (.fn q ws) a
  obtain ⟨res,h1,h2⟩:=ih2 (hitM m (.fn q ws) a) nm j ⟨p,hp⟩ hg.ti hd2 (by omega)
  refine ⟨res,by rw [enterN_hit1 hl,hr];exact h1,h2.bind ?_ ?_⟩
  ·rintro ⟨f1,f2,f3⟩
   simp only [Bool.and_eq_true] at f1
   have:(hitM m (.fn q ws) a).steps=m.steps:=rfl
   have:(hitM m (.fn q ws) a).frames=m.frames:=rfl
   exact ⟨f1.2,by omega,by rw [this];omega⟩
  ·rintro m' ⟨b1,b2,b3,b4,b5⟩
   exact OutM.now ⟨b1,b2,b3,b4,hg.trans b5⟩
 | none =>
  obtain ⟨q',ws',e,ho⟩:=ih m (some (nm,r)) ht hl
  cases e
  refine ⟨_,enterN_miss hl j _,ho.bind ?_ ?_⟩
  ·rintro ⟨f1,f2,f3⟩
   simp only [Bool.and_eq_true] at f1
   exact ⟨f1.1,by omega,by omega⟩
  intro m' hm'
  refine ret_step hb hm' (fun h=>by have:=h.2.1;omega) ?_
  intro m2 e1 e2 e3 e4 g1 g2
  obtain ⟨res,h1,h2⟩:=ih2 m2 nm (rdFuel (some (nm,r'))) ⟨p,by rw [e2,hp]⟩ g1.ti hd2 (Nat.le_refl _)
  refine ⟨res,by simp only [afterM,hr];exact h1,h2.bind ?_ ?_⟩
  ·rintro ⟨f1,f2,f3⟩
   simp only [Bool.and_eq_true] at f1
   have:=g1.hi
   exact ⟨f1.2,by omega,by rw [e4];omega⟩
  ·rintro m3 ⟨b1,b2,b3,b4,b5⟩
   exact OutM.now ⟨by rw [b1,e1],by rw [b2,e2],by rw [b3,e3],by rw [b4,e4],g1.trans b5⟩
theorem rdOf_0 {f b n:It} {list:Bool} {r:Rd} (h:rdOf f b list n=some r):r.next=0∧r.left=[]∧r.result=b:=by
 unfold rdOf at h
 split at h <;> cases h <;> exact ⟨rfl,rfl,rfl⟩
theorem begin_lt {r r':Rd} {f a:It} (h:r.begin=some (f,a,r')) (hlt:r.next<r.count):r'.next<r'.count:=by
 unfold Rd.begin at h
 split at h
 ·cases h;exact hlt
 ·split at h
  ·cases h;exact hlt
  ·cases h
theorem meansM {c:List Ins} (l:Nat) {j:Jb} {x:It} {k d:Nat} {z:Bool} (h:BB c j x k d z):MeansM c l j x k d z:=by
 induction h with
 | @ret p vs x hc =>
  intro m lo ha hv hs ht
  exact OutM.now ⟨p,0,rfl,ha,hc,by simpa using hs,rfl,Gm.none ht rfl rfl⟩
 | @op p op a vs rs rs' z x k d z' hc hop hbb ih =>
  intro m lo ha hv hs ht
  obtain ⟨r,hr,hz⟩:=exec_s hop { m with steps:=m.steps+1,at_:=((p+1:Nat):Int) } lo (1000+m.steps) hv hs
  have hpos:=hbb.pos
  refine OutM.step ha hc hr (fun h=>by have:=h.2.1;omega) ?_
  rcases hz with ⟨rfl,m',rfl,h1,h2,h3,h4,h5,h6⟩ | ⟨rfl,rfl⟩
  ·have hg:Gm c 1 m m':=Gm.one ht h6 h5
   refine OutM.bind (ih m' lo h2 (h3.trans hv) h1 hg.ti) ?_ ?_
   ·rintro ⟨f1,f2,f3⟩
    simp only [Bool.and_eq_true] at f1
    have h6':m'.steps=m.steps+1:=h6
    have h4':m'.frames=m.frames:=h4
    exact ⟨f1.2,by omega,by rw [h4'];exact f3⟩
   ·rintro m2 ⟨e,k',rfl,a1,a2,a3,a4,a5⟩
    exact OutM.now ⟨e,k'+1,rfl,a1,a2,a3,a4.trans h4,(hg.trans a5).cast (by omega)⟩
  ·exact ⟨.inl rfl,fun h=>by have:=h.1;simp at this⟩
 | @app p f a vs rs y k1 d1 z1 x k2 d2 z2 hc hb1 hb2 i1 i2 =>
  intro m lo ha hv hs ht
  have hp1:=popM_eq (m:={ m with steps:=m.steps+1,at_:=((p+1:Nat):Int) }) (s:=lo++rs.reverse++[f]) (x:=a) (by simpa using hs)
  have hp2:=popM_eq (m:={ m with steps:=m.steps+1,at_:=((p+1:Nat):Int),stack:=lo++rs.reverse++[f],sg:=a::m.sg }) (s:=lo++rs.reverse) (x:=f) rfl
  obtain ⟨res,h1,h2⟩:=call_step hb1 i1 { m with steps:=m.steps+1,at_:=((p+1:Nat):Int),stack:=lo++rs.reverse,sg:=f::a::m.sg } (p:=p+1) rfl ht
  refine OutM.step ha hc (r:=res) (by simp only [Mm.exec,hp1,hp2];exact h1) (fun h=>by have:=h.2.1;omega) ?_
  refine h2.bind ?_ ?_
  ·rintro ⟨f1,f2,f3⟩
   simp only [Bool.and_eq_true] at f1
   exact ⟨f1.1,by simp only;omega,by simp only;omega⟩
  rintro m3 ⟨⟨b1,b2,b3,b4,b5⟩,-⟩
  simp only at b1 b2 b3 b4
  have hg:Gm c (1+k1) m m3:=(Gm.one (m':={ m with steps:=m.steps+1,at_:=((p+1:Nat):Int),stack:=lo++rs.reverse,sg:=f::a::m.sg }) ht rfl rfl).trans b5
  refine OutM.bind (i2 m3 lo b2 (b3.trans hv) (by rw [b1];simp) hg.ti) ?_ ?_
  ·rintro ⟨f1,f2,f3⟩
   simp only [Bool.and_eq_true] at f1
   have:=hg.hi
   exact ⟨f1.2,by omega,by rw [b4];omega⟩
  ·rintro m4 ⟨e,k',rfl,a1,a2,a3,a4,a5⟩
   exact OutM.now ⟨e,1+k1+k',by omega,a1,a2,a3,a4.trans b4,hg.trans a5⟩
 | @rec0 p vs rs b n q ws r x k d z list hc hrd h0 hb ih =>
  intro m lo ha hv hs ht
  have hp1:=popM_eq (m:={ m with steps:=m.steps+1,at_:=((p+1:Nat):Int) }) (s:=lo++rs.reverse++[b]++[.fn q ws]) (x:=n) (by simpa using hs)
  have hp2:=popM_eq (m:={ m with steps:=m.steps+1,at_:=((p+1:Nat):Int),stack:=lo++rs.reverse++[b]++[.fn q ws],sg:=n::m.sg }) (s:=lo++rs.reverse++[b]) (x:=.fn q ws) rfl
  have hp3:=popM_eq (m:={ m with steps:=m.steps+1,at_:=((p+1:Nat):Int),stack:=lo++rs.reverse++[b],sg:=.fn q ws::n::m.sg }) (s:=lo++rs.reverse) (x:=b) rfl
  have hex:Mm.exec { m with steps:=m.steps+1,at_:=((p+1:Nat):Int) } (1000+m.steps) (bif list then 9 else 6) 0=some (.go (Mm.push { m with steps:=m.steps+1,at_:=((p+1:Nat):Int),stack:=lo++rs.reverse,sg:=b :: .fn q ws::n::m.sg } b)):=by
   have:Mm.exec { m with steps:=m.steps+1,at_:=((p+1:Nat):Int) } (1000+m.steps) (bif list then 9 else 6) 0=Mm.recursion { m with steps:=m.steps+1,at_:=((p+1:Nat):Int) } (1000+m.steps) list:=by cases list <;> rfl
   rw [this]
   simp only [Mm.recursion,hp1,hp2,hp3,hrd,h0,if_true]
  refine OutM.step ha hc hex (fun h=>by have:=h.2.1;omega) ?_
  have hg:Gm c 1 m (Mm.push { m with steps:=m.steps+1,at_:=((p+1:Nat):Int),stack:=lo++rs.reverse,sg:=b :: .fn q ws::n::m.sg } b):=Gm.one ht rfl rfl
  refine OutM.bind (ih (Mm.push { m with steps:=m.steps+1,at_:=((p+1:Nat):Int),stack:=lo++rs.reverse,sg:=b :: .fn q ws::n::m.sg } b) lo rfl hv (by simp [Mm.push]) hg.ti) ?_ ?_
  ·rintro ⟨f1,f2,f3⟩
   exact ⟨f1,by simp only [Mm.push];omega,f3⟩
  ·rintro m2 ⟨e,k',rfl,a1,a2,a3,a4,a5⟩
   exact OutM.now ⟨e,k'+1,rfl,a1,a2,a3,a4,(hg.trans a5).cast (by omega)⟩
 | @recS p vs rs b n q ws r g a r' y k1 d1 z1 x k2 d2 z2 list hc hrd h0 hbeg hb1 hb2 i1 i2 =>
  intro m lo ha hv hs ht
  have hp1:=popM_eq (m:={ m with steps:=m.steps+1,at_:=((p+1:Nat):Int) }) (s:=lo++rs.reverse++[b]++[.fn q ws]) (x:=n) (by simpa using hs)
  have hp2:=popM_eq (m:={ m with steps:=m.steps+1,at_:=((p+1:Nat):Int),stack:=lo++rs.reverse++[b]++[.fn q ws],sg:=n::m.sg }) (s:=lo++rs.reverse++[b]) (x:=.fn q ws) rfl
  have hp3:=popM_eq (m:={ m with steps:=m.steps+1,at_:=((p+1:Nat):Int),stack:=lo++rs.reverse++[b],sg:=.fn q ws::n::m.sg }) (s:=lo++rs.reverse) (x:=b) rfl
  have h00:=(rdOf_0 hrd).1
  have hlt:=begin_lt hbeg (by omega)
  obtain ⟨res,h1,h2⟩:=i1 { m with steps:=m.steps+1,at_:=((p+1:Nat):Int),stack:=lo++rs.reverse,sg:=b :: .fn q ws::n::m.sg } (1000+m.steps) (rdFuel (some (1000+m.steps,r'))) ⟨p+1,rfl⟩ ht hlt (Nat.le_refl _)
  have hex:Mm.exec { m with steps:=m.steps+1,at_:=((p+1:Nat):Int) } (1000+m.steps) (bif list then 9 else 6) 0=some res:=by
   have:Mm.exec { m with steps:=m.steps+1,at_:=((p+1:Nat):Int) } (1000+m.steps) (bif list then 9 else 6) 0=Mm.recursion { m with steps:=m.steps+1,at_:=((p+1:Nat):Int) } (1000+m.steps) list:=by cases list <;> rfl
   rw [this]
   simp only [Mm.recursion,hp1,hp2,hp3,hrd,h0,if_false,hbeg]
   exact h1
  refine OutM.step ha hc hex (fun h=>by have:=h.2.1;omega) ?_
  refine h2.bind ?_ ?_
  ·rintro ⟨f1,f2,f3⟩
   simp only [Bool.and_eq_true] at f1
   exact ⟨f1.1,by simp only;omega,by simp only;omega⟩
  rintro m3 ⟨b1,b2,b3,b4,b5⟩
  simp only at b1 b2 b3 b4
  have hg:Gm c (1+k1) m m3:=(Gm.one (m':={ m with steps:=m.steps+1,at_:=((p+1:Nat):Int),stack:=lo++rs.reverse,sg:=b :: .fn q ws::n::m.sg }) ht rfl rfl).trans b5
  refine OutM.bind (i2 m3 lo b2 (b3.trans hv) (by rw [b1];simp) hg.ti) ?_ ?_
  ·rintro ⟨f1,f2,f3⟩
   simp only [Bool.and_eq_true] at f1
   have:=hg.hi
   exact ⟨f1.2,by omega,by rw [b4];omega⟩
  ·rintro m4 ⟨e,k',rfl,a1,a2,a3,a4,a5⟩
   exact OutM.now ⟨e,1+k1+k',by omega,a1,a2,a3,a4.trans b4,hg.trans a5⟩
 | @cal q ws a x k d z hb ih =>
  intro m rd ht hl
  refine ⟨q,ws,rfl,?_⟩
  obtain ⟨s1,s2,s3,s4,s5⟩:=miss_same m (.fn q ws) a
  have hg:=Gm.miss ht (.fn q ws) a
  simp only [Mm.into]
  rw [s3]
  split
  ·rename_i hfull
   refine ⟨.inl rfl,?_⟩
   rintro ⟨f1,f2,f3⟩
   omega
  ·rename_i hfull
   refine OutM.bind (ih { missM m (.fn q ws) a with frames:=m.frames++[⟨(missM m (.fn q ws) a).at_,(missM m (.fn q ws) a).vars,.fn q ws,a,rd⟩],fg:=[],fv:=(missM m (.fn q ws) a).fv+1,at_:=q,vars:=a::ws } m.stack rfl rfl (by simp [s2]) hg.ti) ?_ ?_
   ·rintro ⟨f1,f2,f3⟩
    exact ⟨f1,by simp only;omega,by simp only [List.length_append,List.length_cons,List.length_nil];omega⟩
   ·rintro m2 ⟨e,k',rfl,a1,a2,a3,a4,a5⟩
    refine OutM.now ⟨e,k',rfl,a1,a2,a3,?_,?_⟩
    ·rw [a4,s4,s5]
    ·have:Gm c (0+k') m m2:=hg.trans (a5.to rfl rfl rfl rfl)
     exact this.cast (by omega)
 | last hb hr ih=>exact means_last hb ih hr
 | more hb hr _ i1 i2=>exact means_more hb i1 hr i2
def BotM (m:Mm):Prop:=∃ fr fs,m.frames=fr::fs∧fr.at_ = -1∧fr.rd=none
def BotR:Rm→Prop
 | .go m=>BotM m
 | _=>True
theorem BotM.pop {m m':Mm} {x:It} (hb:BotM m) (h:m.pop=some (x,m')):BotM m':=by
 obtain ⟨s,-,rfl⟩:=popM_inv h
 exact hb
theorem BotM.into {m:Mm} (hb:BotM m) (f a:It) (p:Nat) (vs:List It) (rd:Option (Nat × Rd)):BotR (m.into f a p vs rd):=by
 obtain ⟨fr,fs,h1,h2,h3⟩:=hb
 unfold Mm.into
 split
 ·trivial
 ·exact ⟨fr,fs++[_],by simp only [h1];rfl,h2,h3⟩
theorem BotM.enterN:∀ (k:Nat) {m:Mm} {f a:It} {rd:Option (Nat × Rd)} {r:Rm},BotM m→Mm.enterN k m f a rd=some r→BotR r
 | 0,m,f,a,rd,r,_,h=>by simp [Mm.enterN] at h
 | k+1,m,f,a,rd,r,hb,h=>by
  cases f with
  | fn p vs =>
   simp only [Mm.enterN] at h
   have hb1:BotM { m with tab:=m.tab.hit (.fn p vs) a }:=hb
   have hb2:∀ x,BotM (Mm.push { m with tab:=m.tab.hit (.fn p vs) a } x):=fun _=>hb
   split at h
   ·split at h
    ·split at h
     ·cases h;exact hb2 _
     ·split at h
      ·cases h
      ·cases h;exact hb2 _
      ·exact BotM.enterN k hb1 h
    ·cases h;exact BotM.into (m:={ m with tab:=m.tab.miss (.fn p vs) a }) hb _ _ _ _ _
   ·cases h;exact hb.into _ _ _ _ _
  | _=>cases h;trivial
theorem BotM.stopIf {m:Mm} (hb:BotM m):BotR (stopIfM m):=by
 unfold Go.Lg.stopIfM
 split
 ·exact hb
 ·trivial
theorem BotM.leave {m:Mm} {r:Rm} (hb:BotM m) (h:m.leave=some r):BotR r:=by
 unfold Mm.leave at h
 split at h
 ·cases h
 ·rename_i x m1 h1
  have hb1:=hb.pop h1
  split at h
  ·cases h;trivial
  ·rename_i fr m2 h2
   unfold Mm.popF at h2
   split at h2
   ·rename_i y hy
    cases h2
    obtain ⟨f0,fs,e1,e2,e3⟩:=hb1
    have hk:=keep_facts { m1 with frames:=m1.frames.dropLast,fg:=fr::m1.fg,at_:=fr.at_,vars:=fr.vars } fr.f fr.a x
    obtain ⟨k1,k2,k3,k4,k5⟩:=hk
    cases fs with
    | nil =>
     rw [e1] at hy
     simp at hy
     subst hy
     rw [e3] at h
     simp only [Option.some.injEq] at h
     subst h
     unfold Go.Lg.stopIfM
     rw [if_neg]
     ·trivial
     ·have:∀ (q:Mm) (x:It),(q.push x).at_=q.at_:=fun _ _=>rfl
      rw [this,k5]
      show ¬ (0:Int)≤f0.at_
      rw [e2]
      decide
    | cons f1 fs =>
     have hb3:BotM (Mm.keep { m1 with frames:=m1.frames.dropLast,fg:=fr::m1.fg,at_:=fr.at_,vars:=fr.vars } fr.f fr.a x):=⟨f0,(f1::fs).dropLast,by rw [k1];simp only [e1];rfl,e2,e3⟩
     have hb2:BotM (Mm.push (Mm.keep { m1 with frames:=m1.frames.dropLast,fg:=fr::m1.fg,at_:=fr.at_,vars:=fr.vars } fr.f fr.a x) x):=hb3
     split at h
     ·cases h;exact hb2.stopIf
     ·split at h
      ·cases h
      ·cases h;exact hb2.stopIf
      ·exact BotM.enterN _ hb3 h
   ·cases h2
theorem BotM.recursion {m:Mm} {n:Nat} {b:Bool} {r:Rm} (hb:BotM m) (h:m.recursion n b=some r):BotR r:=by
 unfold Mm.recursion at h
 split at h
 ·cases h
 ·rename_i x m1 h1
  split at h
  ·cases h
  ·rename_i f m2 h2
   split at h
   ·cases h
   ·rename_i b m3 h3
    have hb3:=((hb.pop h1).pop h2).pop h3
    split at h
    ·split at h
     ·cases h;trivial
     ·split at h
      ·cases h;exact hb3
      ·split at h
       ·exact BotM.enterN _ hb3 h
       ·cases h
    ·cases h;trivial
theorem BotM.made {m:Mm} (hb:BotM m) (x:It):BotR (madeM m x):=by
 unfold Go.Lg.madeM
 split
 ·trivial
 ·exact hb
theorem BotM.exec {m:Mm} {n op a:Nat} {r:Rm} (hb:BotM m) (h:m.exec n op a=some r):BotR r:=by
 unfold Mm.exec at h
 split at h
 ·split at h <;> cases h
  ·exact hb
  ·trivial
 ·cases h;exact hb.made _
 ·split at h
  ·cases h
  ·rename_i x m1 h1
   split at h
   ·cases h
   ·rename_i f m2 h2
    exact BotM.enterN _ ((hb.pop h1).pop h2) h
 ·cases h;exact hb
 ·split at h
  ·cases h
  ·rename_i k m1 h1
   cases h;have h3:=hb.pop h1;exact h3
  ·cases h;trivial
 ·exact hb.recursion h
 ·exact hb.recursion h
 ·cases h;exact hb
 ·split at h
  ·cases h
  ·rename_i x m1 h1
   split at h
   ·cases h
   ·rename_i f m2 h2
    split at h
    ·split at h <;> cases h
     ·trivial
     ·have h3:=(hb.pop h1).pop h2;exact h3
    ·cases h;trivial
 ·split at h
  ·cases h
  ·rename_i x m1 h1
   split at h
   ·cases h
   ·rename_i f m2 h2
    cases h
    exact ((hb.pop h1).pop h2).made _
 ·split at h
  ·cases h
  ·rename_i k _ m1 h1
   cases h;have h3:=hb.pop h1;exact h3
  ·cases h;trivial
 ·split at h
  ·cases h
  ·rename_i k _ m1 h1
   cases h;have h3:=hb.pop h1;exact h3
  ·cases h;trivial
 ·cases h;exact hb
 ·exact hb.leave h
theorem BotM.step {m:Mm} {c:List Ins} {l n:Nat} {r:Rm} (hb:BotM m) (h:m.step c l n=some r):BotR r:=by
 unfold Mm.step at h
 split at h
 ·cases h;trivial
 ·split at h
  ·cases h
  ·split at h
   ·cases h
   ·exact BotM.exec (m:={ m with steps:=m.steps+1,at_:=m.at_+1 }) hb h
theorem BotM.ne {m:Mm} (hb:BotM m):m.frames≠[]:=by
 obtain ⟨fr,fs,h,-,-⟩:=hb
 rw [h]
 exact List.cons_ne_nil _ _
theorem drains_gosM {c:List Ins} {l:Nat} {m m':Mm} {r:Rm} (h:GosM c l m m'):BotM m→(BotM m'→DrainsM c l m' r)→DrainsM c l m r:=by
 induction h with
 | refl=>intro hb h;exact h hb
 | step hs _ ih=>intro hb h;exact .go hb.ne hs (ih (hb.step hs) h)
theorem start_M {c:List Ins} {l:Nat} {x:It} {k d:Nat} {z:Bool} (h:BB c (.blk 0 [] []) x k d z):(∃ e,RunsM c l mm0 (.err e)∧(e=4∨e=5) ∧ ¬ (z=true∧k≤l∧d≤1024)) ∨ ∃ m,RunsM c l mm0 (.stop m)∧m.stack=[x]∧m.frames=[]∧Gm c k mm0 m:=by
 have hti:TI c mm0.tab:=by intro k y h;simp [mm0,rGet] at h
 rcases meansM l h mm0 [] rfl rfl rfl hti with ⟨e,h1,h2,h3⟩ | ⟨m',g,e,k',rfl,ha,hc,hs,hf,hg⟩
 ·refine .inl ⟨e,h1,h2,fun hh=>h3 ⟨hh.1,?_,?_⟩⟩
  ·show 0+k≤l;omega
  ·show 0+d≤1024;omega
 ·have hf':m'.frames=[]:=hf
  have hhi:=hg.hi
  have h0:mm0.steps=0:=rfl
  by_cases hl:m'.steps=l
  ·refine .inl ⟨5,g.runs (.err ?_),.inr rfl,fun hh=>by omega⟩
   unfold Mm.step
   rw [if_pos hl]
  ·have hstep:m'.step c l (1000+m'.steps)=some (.stop (Mm.push { m' with steps:=m'.steps+1,stack:=[],sg:=x::m'.sg,at_:=((e+1:Nat):Int) } x)):=by
    unfold Mm.step
    rw [if_neg hl,if_neg (by omega),ha,Int.toNat_natCast,hc]
    have hp:=popM_eq (m:={ m' with steps:=m'.steps+1,at_:=((e:Nat):Int)+1 }) (s:=[]) (x:=x) (by simpa using hs)
    have he:Mm.exec { m' with steps:=m'.steps+1,at_:=((e:Nat):Int)+1 } (1000+m'.steps) 14 0=Mm.leave { m' with steps:=m'.steps+1,at_:=((e:Nat):Int)+1 }:=rfl
    simp only
    rw [he]
    unfold Mm.leave
    rw [hp]
    simp only [Mm.popF,hf',List.getLast?_nil]
    rfl
   refine .inr ⟨_,g.runs (.stop hstep),rfl,hf',?_⟩
   exact hg.trans (Gm.one hg.ti rfl rfl)
theorem ent_M {c:List Ins} {l:Nat} {F X y:It} {k d:Nat} (hb:BB c (.cal F X) y k d true) (m:Mm) (hs:m.stack=[F]) (hf:m.frames=[]) (ht:TI c m.tab) (hk:m.steps+k≤l) (hd:d≤1024) :
  ∃ m1 m2 m3,m.pop=some (F,m1)∧({ m1 with at_:=-1 } : Mm).enter F X none=some (.go m2)∧DrainsM c l m2 (.stop m3)∧m3.stack=[y]∧m3.frames=[]∧Gm c k m m3:=by
 obtain ⟨q,ws,rfl⟩:=hb.fn
 have hp:=popM_eq (m:=m) (s:=[]) (x:=.fn q ws) (by simpa using hs)
 cases hl:lookM ({ m with stack:=[],sg:=.fn q ws::m.sg,at_:=-1 } : Mm) (.fn q ws) X with
 | some y' =>
  obtain rfl:=lookM_ti hl ht hb
  refine ⟨_,_,_,hp,enterN_hit0 hl 0,.done hf,rfl,hf,?_⟩
  exact (Gm.hit (m:={ m with stack:=[],sg:=.fn q ws::m.sg,at_:=-1 }) ht k (.fn q ws) X).to rfl rfl rfl rfl
 | none =>
  obtain ⟨q',ws',e,ho⟩:=meansM l hb ({ m with stack:=[],sg:=.fn q ws::m.sg,at_:=-1 } : Mm) none ht hl
  cases e
  obtain ⟨s1,s2,s3,s4,s5⟩:=miss_same ({ m with stack:=[],sg:=.fn q ws::m.sg,at_:=-1 } : Mm) (.fn q ws) X
  have hen:=enterN_miss hl 0 none
  have hfit:Fit l ({ m with stack:=[],sg:=.fn q ws::m.sg,at_:=-1 } : Mm) k d true:=⟨rfl,hk,by simp only [hf,List.length_nil];omega⟩
  have hin:(missM ({ m with stack:=[],sg:=.fn q ws::m.sg,at_:=-1 } : Mm) (.fn q ws) X).into (.fn q ws) X q ws none = .go { missM ({ m with stack:=[],sg:=.fn q ws::m.sg,at_:=-1 } : Mm) (.fn q ws) X with frames:=(missM ({ m with stack:=[],sg:=.fn q ws::m.sg,at_:=-1 } : Mm) (.fn q ws) X).frames++[⟨(missM ({ m with stack:=[],sg:=.fn q ws::m.sg,at_:=-1 } : Mm) (.fn q ws) X).at_,(missM ({ m with stack:=[],sg:=.fn q ws::m.sg,at_:=-1 } : Mm) (.fn q ws) X).vars,.fn q ws,X,none⟩],fg:=[],fv:=(missM ({ m with stack:=[],sg:=.fn q ws::m.sg,at_:=-1 } : Mm) (.fn q ws) X).fv+1,at_:=q,vars:=X::ws }:=by
   unfold Mm.into
   rw [if_neg]
   rw [s3]
   simp [hf]
  rw [hin] at ho hen
  have hbot:BotM { missM ({ m with stack:=[],sg:=.fn q ws::m.sg,at_:=-1 } : Mm) (.fn q ws) X with frames:=(missM ({ m with stack:=[],sg:=.fn q ws::m.sg,at_:=-1 } : Mm) (.fn q ws) X).frames++[⟨(missM ({ m with stack:=[],sg:=.fn q ws::m.sg,at_:=-1 } : Mm) (.fn q ws) X).at_,(missM ({ m with stack:=[],sg:=.fn q ws::m.sg,at_:=-1 } : Mm) (.fn q ws) X).vars,.fn q ws,X,none⟩],fg:=[],fv:=(missM ({ m with stack:=[],sg:=.fn q ws::m.sg,at_:=-1 } : Mm) (.fn q ws) X).fv+1,at_:=q,vars:=X::ws }:=by
   refine ⟨⟨-1,m.vars,.fn q ws,X,none⟩,[],?_,rfl,rfl⟩
   show (missM ({ m with stack:=[],sg:=.fn q ws::m.sg,at_:=-1 } : Mm) (.fn q ws) X).frames++_=_
   rw [s3,s4,s5]
   simp only [hf,List.nil_append]
  rcases ho with ⟨e,-,-,hn⟩ | ⟨m',g,e,k',rfl,ha,hce,hs',hf',hg⟩
  ·exact absurd hfit hn
  ·have hhi:=hg.hi
   have hf2:m'.frames=[]++[⟨-1,m.vars,.fn q ws,X,none⟩]:=by rw [hf',hf]
   have hs2:m'.stack=[]++[y]:=hs'
   have hle:=leave_eq (m:={ m' with steps:=m'.steps+1,at_:=((e+1:Nat):Int) }) (s:=[]) (x:=y) (fs:=[]) (fr:=⟨-1,m.vars,.fn q ws,X,none⟩) hs2 hf2
   obtain ⟨g1,g2⟩:=Gm.out (m:=m') (s:=[]) (x:=y) (fs:=[]) (fr:=⟨-1,m.vars,.fn q ws,X,none⟩) hg.ti hb ((e+1:Nat):Int)
   obtain ⟨r1,r2,r3,r4,r5⟩:=outF_same { m' with steps:=m'.steps+1,at_:=((e+1:Nat):Int) } [] y [] ⟨-1,m.vars,.fn q ws,X,none⟩
   have hsl:¬ m'.steps=l:=by
    have:m'.steps≤m.steps+k':=hhi
    omega
   have hstep:m'.step c l (1000+m'.steps)=some (.stop ((outF { m' with steps:=m'.steps+1,at_:=((e+1:Nat):Int) } [] y [] ⟨-1,m.vars,.fn q ws,X,none⟩).push y)):=by
    unfold Mm.step
    rw [if_neg hsl,if_neg (by omega),ha,Int.toNat_natCast,hce]
    have:Mm.exec { m' with steps:=m'.steps+1,at_:=((e:Nat):Int)+1 } (1000+m'.steps) 14 0=Mm.leave { m' with steps:=m'.steps+1,at_:=((e+1:Nat):Int) }:=rfl
    simp only
    rw [this,hle]
    simp only [afterM]
    unfold Go.Lg.stopIfM
    rw [if_neg]
    have:∀ (q:Mm) (x:It),(q.push x).at_=q.at_:=fun _ _=>rfl
    rw [this,r4]
    show ¬ (0:Int) ≤ -1
    decide
   refine ⟨_,_,_,hp,hen,drains_gosM g hbot (fun hb' => .stop hb'.ne hstep (.done ?_)),?_,?_,?_⟩
   ·have:∀ (q:Mm) (x:It),(q.push x).frames=q.frames:=fun _ _=>rfl
    rw [this,r3]
   ·have:∀ (q:Mm) (x:It),(q.push x).stack=q.stack++[x]:=fun _ _=>rfl
    rw [this,r2];rfl
   ·have:∀ (q:Mm) (x:It),(q.push x).frames=q.frames:=fun _ _=>rfl
    rw [this,r3]
   ·exact ((hg.trans g1).to rfl rfl rfl rfl)
open Go.Lg
set_option maxRecDepth 10000
set_option maxHeartbeats 4000000
def nuC (l:List Nat):List (List PV):=l.map fun (n:Nat)=>[.int n]
mutual
def rcC:It→List PV
 | .num n=>[.int 1,.int n,.int 0,.slice [],.slice []]
 | .list l=>[.int 2,.int 0,.int 0,.slice (nuC l),.slice []]
 | .pair a b=>[.int 3,.int 0,.int 0,.slice [],.slice [rcC a,rcC b]]
 | .unit=>[.int 4,.int 0,.int 0,.slice [],.slice []]
 | .fn p vs=>[.int 5,.int 0,.int p,.slice [],.slice (rcL vs)]
def rcL:List It→List (List PV)
 | []=>[]
 | x::r=>rcL r++[rcC x]
end
theorem rcL_map (vs:List It):rcL vs=vs.reverse.map rcC:=by
 induction vs with
 | nil=>rfl
 | cons x r ih=>simp [rcL,ih]
theorem rcC_shape (x:It):∃ (k n a:Nat) (s t:List (List PV)),rcC x=[.int k,.int n,.int a,.slice s,.slice t]:=by
 cases x with
 | num n=>exact ⟨1,n,0,[],[],rfl⟩
 | list l=>exact ⟨2,0,0,_,[],rfl⟩
 | pair a b=>exact ⟨3,0,0,[],_,rfl⟩
 | unit=>exact ⟨4,0,0,[],[],rfl⟩
 | fn p vs=>exact ⟨5,0,p,[],_,rfl⟩
theorem rep_nn {H:Hp} {k n a:PV} : ∀ v,RepP H (.agg [k,n,a,.nils,.nils]) v→RepP H (.agg [k,n,a,.slice [],.slice []]) v :=
 repP_agg rfl (repL_cons (fun _ h=>h) (repL_cons (fun _ h=>h) (repL_cons (fun _ h=>h) (repL_cons (fun _ h=>rep_nils h) (repL_cons (fun _ h=>rep_nils h) (fun _ h=>h))))))
theorem rep_ns {H:Hp} {k n a t:PV} : ∀ v,RepP H (.agg [k,n,a,.nils,t]) v→RepP H (.agg [k,n,a,.slice [],t]) v :=
 repP_agg rfl (repL_cons (fun _ h=>h) (repL_cons (fun _ h=>h) (repL_cons (fun _ h=>h) (repL_cons (fun _ h=>rep_nils h) (repL_cons (fun _ h=>h) (fun _ h=>h))))))
theorem rep_sn {H:Hp} {k n a s:PV} : ∀ v,RepP H (.agg [k,n,a,s,.nils]) v→RepP H (.agg [k,n,a,s,.slice []]) v :=
 repP_agg rfl (repL_cons (fun _ h=>h) (repL_cons (fun _ h=>h) (repL_cons (fun _ h=>h) (repL_cons (fun _ h=>h) (repL_cons (fun _ h=>rep_nils h) (fun _ h=>h))))))
theorem num38_ok (n:Nat):AC Tryz.prog gl 141 [.pv (.int n)] [] (.ret (.pv (.agg (rcC (.num n))))) []:=by
 refine AC.leO (p:=.agg [.int 1,.int n,.int 0,.nils,.nils]) ?_ (fun H v h=>rep_nn v h)
 refine body [] Tryz.func141 Tryz.ntmps141 ?_
 refine gg ?_
 exact enC20
theorem lst38_ok (l:List Nat):AC Tryz.prog gl 142 [.pv (.slice (nuC l))] [] (.ret (.pv (.agg (rcC (.list l))))) []:=by
 refine AC.leO (p:=.agg [.int 2,.int 0,.int 0,.slice (nuC l),.nils]) ?_ (fun H v h=>rep_sn v h)
 generalize nuC l=cc
 refine body [] Tryz.func142 Tryz.ntmps142 ?_
 refine gg ?_
 exact enC20
def takesP (op:Nat):Nat:=if op=3∨op=8∨op=10 then 2 else if op=6∨op=9 then 3 else if op=5∨op=11∨op=12 then 1 else 0
theorem takes_ok (op:Nat) (h1:1≤op) (h2:op≤13):AC Tryz.prog gl 122 [.pv (.int op)] [] (.ret (.pv (.int (takesP op)))) []:=by
 have:op=1∨op=2∨op=3∨op=4∨op=5∨op=6∨op=7∨op=8∨op=9∨op=10∨op=11∨op=12∨op=13:=by omega
 rcases this with rfl | rfl | rfl | rfl | rfl | rfl | rfl | rfl | rfl | rfl | rfl | rfl | rfl
 all_goals
  simp only [takesP,Nat.reduceEqDiff,false_or,or_false,or_self,true_or,or_true,if_true,if_false,Int.cast_ofNat_Int]
  refine body [] Tryz.func122 Tryz.ntmps122 ?_
  refine gg ?_
  exact enC20
def cntS (n:Nat):List It→Nat
 | []=>n
 | x::r=>if n≤1024 then cntS (n+(x.more+1)) r else n
theorem cntS_of (L:List It):∀ n,(1024<n+insideL L→1024<cntS n L)∧(n+insideL L≤1024→cntS n L=n+insideL L):=by
 induction L with
 | nil=>intro n;simp [cntS,insideL]
 | cons x r ih =>
  intro n
  simp only [cntS,insideL]
  by_cases h:n≤1024
  ·rw [if_pos h]
   have:=ih (n+(x.more+1))
   refine ⟨fun h=>this.1 (by omega),fun h => ?_⟩
   rw [this.2 (by omega)];omega
  ·rw [if_neg h]
   exact ⟨fun _=>by omega,fun h=>by omega⟩
theorem inside_app (a b:List It):insideL (a++b)=insideL a+insideL b:=by
 induction a with
 | nil=>simp [insideL]
 | cons x a ih=>simp only [List.cons_append,insideL,ih];omega
theorem inside_rev (a:List It):insideL a.reverse=insideL a:=by
 induction a with
 | nil=>rfl
 | cons x a ih=>rw [List.reverse_cons,inside_app,ih];simp only [insideL];omega
def Cl (x:It):Prop:=AC Tryz.prog gl 151 [.pv (.agg (rcC x))] [] (.ret (.pv (.int ((x.more+1:Nat):Int)))) []∧x.more<1024
noncomputable def cntI (k n a:Int) (s t:List (List PV)) (i m:Nat):St:=⟨[(1,.pv (.ptr [.int k,.int n,.int a,.slice s,.slice t])),(3,.pv (.int m)),(4,.pv (.int i))],[],[]⟩
theorem cells_gen (k n a:Int) (s:List (List PV)) (L:List It) (hL:∀ x∈L,Cl x) (hl:L.length≤100000):AC Tryz.prog gl 151 [.pv (.agg [.int k,.int n,.int a,.slice s,.slice (L.map rcC)])] [] (.ret (.pv (.int (cntS 1 L)))) []:=by
 have hlen:(L.map rcC).length=L.length:=by simp
 have hal:∀ q∈L.map rcC,q.length=5:=by
  intro e he
  obtain ⟨x,-,rfl⟩:=List.mem_map.1 he
  obtain ⟨k,n,a,s,t,e⟩:=rcC_shape x
  rw [e];rfl
 refine body [] Tryz.func151 Tryz.ntmps151 ?_
 have hg:∀ j (hj:j<L.length),(L.map rcC).getD j []=rcC L[j]:=by
  intro j hj
  simp [List.getD,hj]
 have hcl':(L.map rcC).length≤100000:=by simpa using hl
 generalize L.map rcC=cc at *
 refine gg ?_
 refine AWP.loop (ι:={ p:Nat × Nat // p.1≤L.length∧cntS p.2 (L.drop p.1)=cntS 1 L∧p.2≤2048 }) (fun p=>cntI k n a s cc p.1.1 p.1.2) (fun p=>L.length-p.1.1) ⟨(0,1),Nat.zero_le _,rfl,by decide⟩ ?_ ?_
 ·refine ⟨by simp [cntI,slotsLe,getS],by simp [cntI,subO,getO],by simp [cntI,subL,namesSl,V.names,namesOb,Ob.names,namesL,XX_given]⟩
 rintro ⟨⟨j,m⟩,hj,hc,hm⟩
 simp only at hj hc hm ⊢
 by_cases hlt:j<L.length
 ·have hd:L.drop j=L[j]::L.drop (j+1):=List.drop_eq_getElem_cons hlt
  rw [hd] at hc
  simp only [cntS] at hc
  have k1:(j:Int)<cc.length:=by omega
  have k2:(0:Int)≤(j:Int):=by omega
  by_cases hm2:m≤1024
  ·have k3:(m:Int)≤1024:=by omega
   rw [if_pos hm2] at hc
   obtain ⟨hcl,hmo⟩:=hL L[j] (List.getElem_mem hlt)
   have hgj:=hg j hlt
   obtain ⟨kx,nx,ax,sx,tx,ex⟩:=rcC_shape L[j]
   rw [ex] at hcl hgj
   have hn:=fun (σ':St) (hw:Weak (XX [] 25 []) σ' (cntI k n a s cc (j+1) (m+(L[j].more+1))))=>(⟨⟨(j+1,m+(L[j].more+1)),by simp only;omega,hc,by simp only;omega⟩,by simp only;omega,hw⟩:∃ q : { p:Nat × Nat // p.1≤L.length∧cntS p.2 (L.drop p.1)=cntS 1 L∧p.2≤2048 },L.length-q.1.1<L.length-j∧Weak (XX [] 25 []) σ' (cntI k n a s cc q.1.1 q.1.2))
   generalize hPP:(fun σ' => ∃ q : { p:Nat × Nat // p.1≤L.length∧cntS p.2 (L.drop p.1)=cntS 1 L∧p.2≤2048 },L.length-q.1.1<L.length-j∧Weak (XX [] 25 []) σ' (cntI k n a s cc q.1.1 q.1.2))=PP
   have hn':∀ σ',Weak (XX [] 25 []) σ' (cntI k n a s cc (j+1) (m+(L[j].more+1)))→PP σ':=by
    intro σ' h
    rw [← hPP]
    exact hn σ' h
   clear hn hPP hL hc hd hg ex hlen hl hj hm
   generalize L[j].more=mo at *
   have e1:((mo+1:Nat):Int)=(mo:Int)+1:=by omega
   have e2:((m+(mo+1):Nat):Int)=(m:Int)+((mo:Int)+1):=by omega
   have e3:((j+1:Nat):Int)=(j:Int)+1:=by omega
   clear hlt
   unfold cntI at hn' ⊢
   rw [e2,e3] at hn'
   rw [e1] at hcl
   refine gg ?_
   refine call hcl ?_
   refine gg ?_
   refine hn' _ ?_
   exact ⟨by simp [slotsLe,getS],by simp [subO,getO],by simp [subL,namesSl,V.names,namesOb,Ob.names,namesL,XX_given]⟩
  ·have k3:¬ (m:Int)≤1024:=by omega
   rw [if_neg hm2] at hc
   rw [← hc]
   unfold cntI
   clear hL hc hd hg hlen hl hj hm hlt
   refine gg ?_
   exact enC20
 ·obtain rfl:j=L.length:=by omega
  rw [List.drop_length] at hc
  simp only [cntS] at hc
  rw [← hc]
  have k1:¬ (L.length:Int)<cc.length:=by omega
  unfold cntI
  clear hL hc hg hlen hl
  refine gg ?_
  exact enC20
theorem cl_flat (k n a:Int) (s:List (List PV)):AC Tryz.prog gl 151 [.pv (.agg [.int k,.int n,.int a,.slice s,.slice []])] [] (.ret (.pv (.int 1))) []:=cells_gen k n a s [] (by simp) (by simp)
mutual
theorem cells_it {b:Nat} : ∀ (x:It),Bd b x→Cl x
 | .num _,_=>⟨cl_flat _ _ _ _,by simp [It.more]⟩
 | .list _,_=>⟨cl_flat _ _ _ _,by simp [It.more]⟩
 | .unit,_=>⟨cl_flat _ _ _ _,by simp [It.more]⟩
 | .pair x y,h=>by
  have hm:=h.more
  simp only [Bd] at h
  refine ⟨?_,hm⟩
  have h1:=cells_gen 3 0 0 [] [x,y] (by
   intro z hz
   simp only [List.mem_cons,List.not_mem_nil,or_false] at hz
   rcases hz with e | e
   ·rw [e];exact cells_it x h.1
   ·rw [e];exact cells_it y h.2.1) (by simp)
  simp only [It.more] at hm
  have h2:=(cntS_of [x,y] 1).2 (by simp only [insideL];omega)
  rw [h2] at h1
  have e:1+insideL [x,y]=(It.pair x y).more+1:=by simp only [insideL,It.more];omega
  rw [e] at h1
  exact h1
 | .fn p vs,h=>by
  have hm:=h.more
  simp only [Bd] at h
  refine ⟨?_,hm⟩
  have hv:=inside_len vs
  have h1:=cells_gen 5 0 p [] vs.reverse (by
   intro z hz
   exact cells_itL vs h.1 z (List.mem_reverse.1 hz)) (by simp;omega)
  simp only [It.more] at hm
  have h2:=(cntS_of vs.reverse 1).2 (by rw [inside_rev];omega)
  rw [h2,inside_rev] at h1
  have e:1+insideL vs=(It.fn p vs).more+1:=by simp only [It.more];omega
  rw [e] at h1
  simp only [rcC,rcL_map]
  exact h1
theorem cells_itL {b:Nat} : ∀ (L:List It),BdL b L→∀ z∈L,Cl z
 | [],_,z,hz=>by cases hz
 | x::r,h,z,hz=>by
  simp only [BdL] at h
  rcases List.mem_cons.1 hz with e | hz
  ·rw [e];exact cells_it x h.1
  ·exact cells_itL r h.2 z hz
end
theorem sized_go (k n a:Int) (s t:List (List PV)) (c:Nat) (h:AC Tryz.prog gl 151 [.pv (.agg [.int k,.int n,.int a,.slice s,.slice t])] [] (.ret (.pv (.int c))) []) (hc:c≤1024) :
  AC Tryz.prog gl 140 [.pv (.agg [.int k,.int n,.int a,.slice s,.slice t])] [] (.ret (.pv (.tuple [.agg [.int k,.int n,.int a,.slice s,.slice t],.int 0]))) []:=by
 have k1:¬ (1024:Int)<c:=by omega
 refine body [] Tryz.func140 Tryz.ntmps140 ?_
 refine gg ?_
 refine call h ?_
 refine gg ?_
 exact enC20
theorem sized_no (k n a:Int) (s t:List (List PV)) (c:Nat) (h:AC Tryz.prog gl 151 [.pv (.agg [.int k,.int n,.int a,.slice s,.slice t])] [] (.ret (.pv (.int c))) []) (hc:1024<c) :
  AC Tryz.prog gl 140 [.pv (.agg [.int k,.int n,.int a,.slice s,.slice t])] [] (.ret (.pv (.tuple [.agg [.int 0,.int 0,.int 0,.nils,.nils],.int 4]))) []:=by
 have k1:(1024:Int)<c:=by omega
 refine body [] Tryz.func140 Tryz.ntmps140 ?_
 refine gg ?_
 refine call h ?_
 refine gg ?_
 exact enC20
end Go.Proofs.YtodjpfpmhjdhbaaGreatDoor
