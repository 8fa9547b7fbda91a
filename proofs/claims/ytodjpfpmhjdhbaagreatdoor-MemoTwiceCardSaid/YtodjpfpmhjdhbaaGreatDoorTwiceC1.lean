/- Contracts of functions; no conditions. -/
import Derived.Test.YtodjpfpmhjdhbaaGreatDoorTwiceA13
import Derived.Test.YtodjpfpmhjdhbaaGreatDoorTwiceB1
set_option linter.all false
namespace Go.Proofs.YtodjpfpmhjdhbaaGreatDoor
open Go.Lg
theorem enC1 {P Q : Prop} (h : P := by simp [retIs,resV,resL,resOne,mkTup,getS,getO,rdV,mkAgg,unL,V.un,TI.isAgg,XX_T,tt27,Tryz.f119,Tryz.f89,Tryz.f49]) (k : Q := by simp [subO,getO,tt27,Tryz.f119,Tryz.f89,Tryz.f49]) : P ∧ Q := ⟨h,k⟩
end Go.Proofs.YtodjpfpmhjdhbaaGreatDoor
namespace Go.Lg
inductive It where
 | num (n:Nat)
 | list (l:List Nat)
 | pair (a b:It)
 | unit
 | fn (at_:Nat) (vars:List It)
mutual
def It.more:It→Nat
 | .num _=>0
 | .list _=>0
 | .unit=>0
 | .pair a b=>2+a.more+b.more
 | .fn _ vs=>insideL vs
def insideL:List It→Nat
 | []=>0
 | x::r=>insideL r+1+x.more
end
mutual
def It.func:It→Bool
 | .num _=>false
 | .list _=>false
 | .unit=>false
 | .pair a b=>a.func || b.func
 | .fn _ _=>true
end
def funcL:List It→Bool
 | []=>false
 | x::r=>funcL r || x.func
def It.kind:It→Int
 | .num _=>1
 | .list _=>2
 | .pair _ _=>3
 | .unit=>4
 | .fn _ _=>5
def linkP:List Nat→PV
 | [] => .nil
 | h::t => .ptr [.int h,.int ((t.length+1:Nat):Int),linkP t]
mutual
def itP:It→PV
 | .num n => .ptr [.int 1,.int n,.nil,.nil,.nil,.int 0,.nil,.int 0,.bool false]
 | .list l => .ptr [.int 2,.int 0,linkP l,.nil,.nil,.int 0,.nil,.int 0,.bool false]
 | .pair a b => .ptr [.int 3,.int 0,.nil,itP a,itP b,.int 0,.nil,.int ((2+a.more+b.more:Nat):Int),.bool (a.func || b.func)]
 | .unit => .ptr [.int 4,.int 0,.nil,.nil,.nil,.int 0,.nil,.int 0,.bool false]
 | .fn a vs => .ptr [.int 5,.int 0,.nil,.nil,.nil,.int a,varsP vs,.int (insideL vs),.bool true]
def varsP:List It→PV
 | [] => .nil
 | x::r => .ptr [itP x,.int ((r.length+1:Nat):Int),.int ((insideL r+1+x.more:Nat):Int),.bool (funcL r || x.func),varsP r]
end
def It.num0:It→Int
 | .num n=>n
 | _=>0
def It.list0:It→PV
 | .list l=>linkP l
 | _ => .nil
def It.fst0:It→PV
 | .pair a _=>itP a
 | _ => .nil
def It.snd0:It→PV
 | .pair _ b=>itP b
 | _ => .nil
def It.at0:It→Int
 | .fn a _=>a
 | _=>0
def It.vars0:It→PV
 | .fn _ vs=>varsP vs
 | _ => .nil
theorem itP_eq (x:It):itP x = .ptr [.int x.kind,.int x.num0,x.list0,x.fst0,x.snd0,.int x.at0,x.vars0,.int x.more,.bool x.func]:=by
 cases x<;>rfl
theorem linkP_one (l:List Nat):(linkP l).one=true:=by cases l<;>rfl
theorem itP_one (x:It):(itP x).one=true:=by cases x<;>rfl
theorem varsP_one (l:List It):(varsP l).one=true:=by cases l<;>rfl
theorem list0_one (x:It):x.list0.one=true:=by cases x<;>first|rfl|exact linkP_one _
theorem fst0_one (x:It):x.fst0.one=true:=by cases x<;>first|rfl|exact itP_one _
theorem snd0_one (x:It):x.snd0.one=true:=by cases x<;>first|rfl|exact itP_one _
theorem vars0_one (x:It):x.vars0.one=true:=by cases x<;>first|rfl|exact varsP_one _
structure Rd where
 f:It
 next:Nat
 args:Option (List (Nat × List Nat))
 count:Nat
 result:It
 left:List It
def Rd.begin (r:Rd):Option (It × It × Rd):=match r.args with
 | none=>some (r.f,.num r.next,{ r with left:=[r.result] })
 | some l=>match l[r.next]? with
  | some (h,t)=>some (r.f,.num h,{ r with left:=[.list t,r.result] })
  | none=>none
def Rd.returned (r:Rd) (x:It):Option (Option (It × It) × Rd):=match r.left with
 | a::rest=>some (some (x,a),{ r with left:=rest })
 | []=>if r.next+1=r.count then some (none,{ r with result:=x,next:=r.next+1 })
  else match Rd.begin { r with result:=x,next:=r.next+1 } with
   | some (f,a,r')=>some (some (f,a),r')
   | none=>none
structure Fr where
 at_:Int
 vars:List It
 f:It
 a:It
 rd:Option (Nat × Rd)
structure Ms where
 steps:Nat
 stack:List It
 sg:List It
 sv:Nat
 frames:List Fr
 fg:List Fr
 fv:Nat
 at_:Int
 vars:List It
def Ms.push (m:Ms) (x:It):Ms:={ m with stack:=m.stack++[x],sg:=[],sv:=m.sv+1 }
def Ms.pop (m:Ms):Option (It × Ms):=match m.stack.getLast? with
 | some x=>some (x,{ m with stack:=m.stack.dropLast,sg:=x::m.sg })
 | none=>none
inductive Res where
 | go (m:Ms)
 | stop (m:Ms)
 | err (e:Nat)
def Ms.enter (m:Ms) (f a:It) (rd:Option (Nat × Rd)):Res:=match f with
 | .fn p vs=>if 1024≤m.frames.length then .err 4
  else .go { m with frames:=m.frames++[⟨m.at_,m.vars,f,a,rd⟩],fg:=[],fv:=m.fv+1,at_:=p,vars:=a::vs }
 | _ => .err 44
def foldArgs:List Nat→List (Nat × List Nat)
 | []=>[]
 | h::t=>foldArgs t++[(h,t)]
theorem foldArgs_len (l:List Nat):(foldArgs l).length=l.length:=by
 induction l with
 | nil=>rfl
 | cons h t ih=>simp [foldArgs,ih]
def rdOf (f b:It) (list:Bool) (x:It):Option Rd:=match list,x with
 | true,.list l=>some ⟨f,0,some (foldArgs l),l.length,b,[]⟩
 | false,.num k=>some ⟨f,0,none,k,b,[]⟩
 | _,_=>none
def Ms.recursion (m:Ms) (n:Nat) (list:Bool):Option Res:=match m.pop with
 | none=>none
 | some (x,m)=>match m.pop with
  | none=>none
  | some (f,m)=>match m.pop with
   | none=>none
   | some (b,m)=>match f with
    | .fn _ _=>match rdOf f b list x with
     | none=>some (.err 44)
     | some r=>if r.count=0 then some (.go (m.push b))
      else match r.begin with
       | some (g,a,r')=>some (m.enter g a (some (n,r')))
       | none=>none
    | _=>some (.err 44)
def Ms.popF (m:Ms):Option (Fr × Ms):=match m.frames.getLast? with
 | some x=>some (x,{ m with frames:=m.frames.dropLast,fg:=x::m.fg,at_:=x.at_,vars:=x.vars })
 | none=>none
def stopIf (m:Ms):Res:=if 0≤m.at_ then .go m else .stop m
def Ms.leave (m:Ms):Option Res:=match m.pop with
 | none=>none
 | some (x,m)=>match m.popF with
  | none=>some (.stop (m.push x))
  | some (fr,m)=>match fr.rd with
   | none=>some (stopIf (m.push x))
   | some (n,r)=>match r.returned x with
    | none=>none
    | some (none,_)=>some (stopIf (m.push x))
    | some (some (f,a),r')=>some (m.enter f a (some (n,r')))
def made (m:Ms) (x:It):Res:=if 1024≤x.more then .err 4 else .go (m.push x)
def Ms.exec (m:Ms) (n:Nat) (op a:Nat):Option Res:=match op with
 | 1=>match m.vars[a]? with
  | some x=>some (.go (m.push x))
  | none=>some (.err 44)
 | 2=>some (made m (.fn a m.vars))
 | 3=>match m.pop with
  | none=>none
  | some (x,m)=>match m.pop with
   | none=>none
   | some (f,m)=>some (m.enter f x none)
 | 4=>some (.go (m.push (.num 0)))
 | 5=>match m.pop with
  | none=>none
  | some (.num k,m)=>some (.go (m.push (.num (k+1))))
  | some _=>some (.err 44)
 | 6=>m.recursion n false
 | 9=>m.recursion n true
 | 7=>some (.go (m.push (.list [])))
 | 8=>match m.pop with
  | none=>none
  | some (l,m)=>match m.pop with
   | none=>none
   | some (h,m)=>match h,l with
    | .num h,.list l=>if 1024≤l.length then some (.err 4) else some (.go (m.push (.list (h::l))))
    | _,_=>some (.err 44)
 | 10=>match m.pop with
  | none=>none
  | some (b,m)=>match m.pop with
   | none=>none
   | some (a,m)=>some (made m (.pair a b))
 | 11=>match m.pop with
  | none=>none
  | some (.pair a _,m)=>some (.go (m.push a))
  | some _=>some (.err 44)
 | 12=>match m.pop with
  | none=>none
  | some (.pair _ b,m)=>some (.go (m.push b))
  | some _=>some (.err 44)
 | 13=>some (.go (m.push .unit))
 | _=>m.leave
def Ms.step (c:List (Nat × Nat)) (limit:Nat) (n:Nat) (m:Ms):Option Res :=
 if m.steps=limit then some (.err 5)
 else if m.at_<0 then none
 else match c[m.at_.toNat]? with
  | none=>none
  | some (op,a)=>Ms.exec { m with steps:=m.steps+1,at_:=m.at_+1 } n op a
mutual
def Bd (b:Nat):It→Prop
 | .num n=>n≤b
 | .list l=>l.length≤1024 ∧ ∀ h∈l,h≤b
 | .pair x y=>Bd b x∧Bd b y∧2+x.more+y.more<1024
 | .unit=>True
 | .fn _ vs=>BdL b vs∧insideL vs<1024
def BdL (b:Nat):List It→Prop
 | []=>True
 | x::r=>Bd b x∧BdL b r
end
theorem BdL_iff {b:Nat} {l:List It} : BdL b l ↔ ∀ x∈l,Bd b x:=by
 induction l with
 | nil=>simp [BdL]
 | cons x l ih=>simp [BdL,ih]
theorem BdL_app {b:Nat} {l r:List It} : BdL b (l++r)↔BdL b l∧BdL b r:=by
 simp only [BdL_iff,List.mem_append]
 exact⟨fun h=>⟨fun x hx=>h x (.inl hx),fun x hx=>h x (.inr hx)⟩,fun h x hx=>hx.elim (h.1 x) (h.2 x)⟩
mutual
theorem Bd.mono {b b':Nat} (hb:b≤b'):∀ (x:It),Bd b x→Bd b' x
 | .num n,h=>by simp only [Bd] at h ⊢;omega
 | .list l,h=>by simp only [Bd] at h ⊢;exact⟨h.1,fun y hy=>Nat.le_trans (h.2 y hy) hb⟩
 | .pair x y,h=>by simp only [Bd] at h ⊢;exact⟨Bd.mono hb x h.1,Bd.mono hb y h.2.1,h.2.2⟩
 | .unit,_=>by simp only [Bd]
 | .fn a vs,h=>by simp only [Bd] at h ⊢;exact⟨BdL.mono hb vs h.1,h.2⟩
theorem BdL.mono {b b':Nat} (hb:b≤b'):∀ (l:List It),BdL b l→BdL b' l
 | [],_=>by simp only [BdL]
 | x::r,h=>by simp only [BdL] at h ⊢;exact⟨Bd.mono hb x h.1,BdL.mono hb r h.2⟩
end
theorem Bd.more {b:Nat} {x:It} (h:Bd b x):x.more<1024:=by
 cases x<;>simp_all [Bd,It.more]
theorem inside_len (l:List It):l.length≤insideL l:=by
 induction l with
 | nil=>simp
 | cons x l ih=>simp [insideL];omega
structure RdOk (b:Nat) (r:Rd):Prop where
 f:Bd b r.f
 result:Bd b r.result
 left:BdL b r.left
 count:r.count≤b+1024
 args:∀ l,r.args=some l→(∀ q∈l,q.1≤b∧Bd b (.list q.2))
 nat:r.args=none→r.count≤b
theorem RdOk.mono {b b':Nat} (hb:b≤b') {r:Rd} (h:RdOk b r):RdOk b' r :=
 ⟨h.f.mono hb,h.result.mono hb,h.left.mono hb,by have:=h.count;omega,fun l hl q hq=>⟨Nat.le_trans (h.args l hl q hq).1 hb,(h.args l hl q hq).2.mono hb⟩,fun e=>Nat.le_trans (h.nat e) hb⟩
theorem last_split {α:Type} {l:List α} {y:α} (e:l.getLast? = some y):l=l.dropLast++[y]:=by
 obtain⟨a,rfl⟩:=List.getLast?_eq_some_iff.1 e
 simp
theorem RdOk.begin {b:Nat} {r r':Rd} {f a:It} (h:RdOk b r) (hn:r.next<r.count) (hb:r.begin=some (f,a,r')):Bd b f∧Bd b a∧RdOk b r'∧r'.next<r'.count:=by
 unfold Rd.begin at hb
 split at hb
 ·rename_i e
  simp only [Option.some.injEq,Prod.mk.injEq] at hb
  obtain⟨rfl,rfl,rfl⟩:=hb
  have:=h.nat e
  exact⟨h.f,by simp only [Bd];omega,⟨h.f,h.result,⟨h.result,trivial⟩,h.count,h.args,h.nat⟩,hn⟩
 ·rename_i l e
  split at hb
  ·rename_i hd tl hq
   simp only [Option.some.injEq,Prod.mk.injEq] at hb
   obtain⟨rfl,rfl,rfl⟩:=hb
   have:=h.args l e _ (List.mem_of_getElem? hq)
   exact⟨h.f,by simp only [Bd];exact this.1,⟨h.f,h.result,⟨this.2,h.result,trivial⟩,h.count,h.args,h.nat⟩,hn⟩
  ·cases hb
theorem RdOk.returned {b:Nat} {r r':Rd} {x:It} {q:Option (It × It)} (h:RdOk b r) (hx:Bd b x) (hn:r.next<r.count) (hb:r.returned x=some (q,r')):(∀ f a,q=some (f,a)→Bd b f∧Bd b a∧RdOk b r'∧r'.next<r'.count):=by
 intro f a hq
 subst hq
 unfold Rd.returned at hb
 split at hb
 ·rename_i y rest e
  simp only [Option.some.injEq,Prod.mk.injEq] at hb
  obtain⟨⟨rfl,rfl⟩,rfl⟩:=hb
  have hl:=h.left
  rw [e] at hl
  exact⟨hx,hl.1,⟨h.f,h.result,hl.2,h.count,h.args,h.nat⟩,hn⟩
 ·split at hb
  ·simp at hb
  ·rename_i hne
   split at hb
   ·rename_i f' a' r'' hbeg
    simp only [Option.some.injEq,Prod.mk.injEq] at hb
    obtain⟨⟨rfl,rfl⟩,rfl⟩:=hb
    exact RdOk.begin (r:={ r with result:=x,next:=r.next+1 }) ⟨h.f,hx,h.left,h.count,h.args,h.nat⟩ (by simp only;omega) hbeg
   ·cases hb
theorem foldArgs_mem {l:List Nat} {q:Nat × List Nat} (h:q∈foldArgs l):q.1∈l∧q.2.length≤l.length ∧ ∀ y∈q.2,y∈l:=by
 induction l with
 | nil=>simp [foldArgs] at h
 | cons a t ih =>
  simp only [foldArgs,List.mem_append,List.mem_singleton] at h
  rcases h with h|rfl
  ·have:=ih h
   exact⟨List.mem_cons_of_mem _ this.1,by simp only [List.length_cons];omega,fun y hy=>List.mem_cons_of_mem _ (this.2.2 y hy)⟩
  ·exact⟨List.mem_cons_self,by simp,fun y hy=>List.mem_cons_of_mem _ hy⟩
theorem rdOf_ok {b:Nat} {f a x:It} {list:Bool} {r:Rd} (hf:Bd b f) (ha:Bd b a) (hx:Bd b x) (h:rdOf f a list x=some r):RdOk b r:=by
 unfold rdOf at h
 split at h
 ·rename_i l
  cases h
  simp only [Bd] at hx
  refine⟨hf,ha,trivial,by simp only;omega,?_,fun e=>by cases e⟩
  intro l' e q hq
  cases e
  have:=foldArgs_mem hq
  simp only [Bd]
  exact⟨hx.2 _ this.1,by omega,fun y hy=>hx.2 y (this.2.2 y hy)⟩
 ·cases h
  simp only [Bd] at hx
  exact⟨hf,ha,trivial,by simp only;omega,fun _ e=>by simp at e,fun _=>hx⟩
 ·cases h
inductive Dat:It→Prop
 | num (n:Nat):Dat (.num n)
 | list (l:List Nat):Dat (.list l)
 | unit:Dat .unit
 | pair {a b:It} : Dat a→Dat b→Dat (.pair a b)
theorem linkP_rep {H:Hp} : ∀ (l k:List Nat) (v:Value),RepP H (linkP l) v→RepP H (linkP k) v→l=k
 | [],[],_,_,_=>rfl
 | [],b::k,v,h1,h2=>by
  simp only [linkP,RepP] at h1 h2
  subst h1
  obtain⟨_,_,h,_⟩:=h2
  cases h
 | a::l,[],v,h1,h2=>by
  simp only [linkP,RepP] at h1 h2
  subst h2
  obtain⟨_,_,h,_⟩:=h1
  cases h
 | a::l,b::k,v,h1,h2=>by
  simp only [linkP,RepP] at h1 h2
  obtain⟨x,o,rfl,r1⟩:=h1
  obtain⟨x',o',e,r2⟩:=h2
  cases e
  cases hd:(H x).drop o with
  | nil=>rw [hd] at r1;simp [RepL] at r1
  | cons u us =>
   rw [hd] at r1 r2
   simp only [RepL,RepP] at r1 r2
   cases us with
   | nil=>simp [RepL] at r1
   | cons w ws =>
    simp only [RepL] at r1 r2
    cases ws with
    | nil=>simp [RepL] at r1
    | cons z zs =>
     simp only [RepL] at r1 r2
     have h1:a=b:=by
      have:=r1.1.symm.trans r2.1
      simp at this
      omega
     rw [h1,linkP_rep l k z r1.2.2.1 r2.2.2.1]
theorem rep_int2 {H:Hp} {a b:Int} {v:Value} (h1:RepP H (.int a) v) (h2:RepP H (.int b) v):a=b:=by
 simp only [RepP] at h1 h2
 have:=h1.symm.trans h2
 simpa using this
theorem itP_cells {H:Hp} {x y:It} {v:Value} (h1:RepP H (itP x) v) (h2:RepP H (itP y) v) :
  x.kind=y.kind∧x.num0=y.num0∧(∃ v,RepP H x.list0 v∧RepP H y.list0 v)∧(∃ v,RepP H x.fst0 v∧RepP H y.fst0 v)∧(∃ v,RepP H x.snd0 v∧RepP H y.snd0 v):=by
 rw [itP_eq] at h1 h2
 simp only [RepP] at h1 h2
 obtain⟨b,o,rfl,r1⟩:=h1
 obtain⟨b',o',e,r2⟩:=h2
 cases e
 generalize (H b).drop o=L at r1 r2
 match L,r1,r2 with
 | v1::v2::v3::v4::v5::r,r1,r2 =>
  simp only [RepL] at r1 r2
  exact⟨rep_int2 r1.1 r2.1,rep_int2 r1.2.1 r2.2.1,⟨_,r1.2.2.1,r2.2.2.1⟩,⟨_,r1.2.2.2.1,r2.2.2.2.1⟩,⟨_,r1.2.2.2.2.1,r2.2.2.2.2.1⟩⟩
 | [],r1,r2=>simp [RepL] at r1
 | [v1],r1,r2=>simp [RepL] at r1
 | [v1,v2],r1,r2=>simp [RepL] at r1
 | [v1,v2,v3],r1,r2=>simp [RepL] at r1
 | [v1,v2,v3,v4],r1,r2=>simp [RepL] at r1
theorem itP_rep {H:Hp} {x:It} (hx:Dat x):∀ {y:It} {v:Value},Dat y→RepP H (itP x) v→RepP H (itP y) v→x=y:=by
 induction hx with
 | num n =>
  intro y v hy h1 h2
  obtain⟨k,n0,-⟩:=itP_cells h1 h2
  cases hy<;>simp [It.kind,It.num0] at k n0 ⊢
  omega
 | list l =>
  intro y v hy h1 h2
  obtain⟨k,-,⟨u,l1,l2⟩,-⟩:=itP_cells h1 h2
  cases hy<;>simp [It.kind] at k ⊢
  exact linkP_rep _ _ _ l1 l2
 | unit =>
  intro y v hy h1 h2
  obtain⟨k,-⟩:=itP_cells h1 h2
  cases hy<;>simp [It.kind] at k ⊢
 | pair ha hb iha ihb =>
  intro y v hy h1 h2
  obtain⟨k,-,-,⟨u,f1,f2⟩,⟨w,s1,s2⟩⟩:=itP_cells h1 h2
  cases hy with
  | pair hc hd =>
   simp only [It.fst0,It.snd0] at f1 f2 s1 s2
   rw [iha hc f1 f2,ihb hd s1 s2]
  | _=>simp [It.kind] at k
theorem linkP_inj:∀ (l k:List Nat),linkP l=linkP k→l=k
 | [],[],_=>rfl
 | [],_::_,h=>by simp [linkP] at h
 | _::_,[],h=>by simp [linkP] at h
 | a::l,b::k,h=>by
  simp only [linkP,PV.ptr.injEq,List.cons.injEq,PV.int.injEq] at h
  rw [linkP_inj l k h.2.2.1]
  have:=h.1
  have:a=b:=by omega
  rw [this]
theorem itP_inj {x:It} (hx:Dat x):∀ {y:It},Dat y→itP x=itP y→x=y:=by
 induction hx with
 | num n =>
  intro y hy h
  cases hy<;>simp [itP] at h ⊢
  omega
 | list l =>
  intro y hy h
  cases hy<;>simp [itP] at h ⊢
  exact linkP_inj _ _ h
 | unit =>
  intro y hy h
  cases hy<;>simp [itP] at h ⊢
 | pair ha hb iha ihb =>
  intro y hy h
  cases hy with
  | pair hc hd =>
   simp [itP] at h
   rw [iha hc h.1,ihb hd h.2.1]
  | _=>simp [itP] at h
def numsP:List Nat→PV
 | [] => .nils
 | h::t => .slice ((h::t).map fun (n:Nat)=>[.int n])
def itCell:It→List PV
 | .num n=>[.int 1,.int n,.int 0,.nils,.nils]
 | .list l=>[.int 2,.int 0,.int 0,numsP l,.nils]
 | .pair a b=>[.int 3,.int 0,.int 0,.nils,.slice [itCell a,itCell b]]
 | .unit=>[.int 4,.int 0,.int 0,.nils,.nils]
 | .fn a _=>[.int 5,.int 0,.int a,.nils,.nils]
def DatP (p:PV):Prop:=∃ x,Dat x∧p=itP x
open Classical in
noncomputable def cellF (p:PV):PV:=if h:DatP p then .agg (itCell (Classical.choose h)) else .nil
theorem cellF_itP {x:It} (hx:Dat x):cellF (itP x) = .agg (itCell x):=by
 have h:DatP (itP x):=⟨x,hx,rfl⟩
 unfold cellF
 rw [dif_pos h]
 have hs:=Classical.choose_spec h
 exact congrArg (fun y=>PV.agg (itCell y)) (itP_inj hx hs.1 hs.2).symm
theorem coh_cell:Coh DatP cellF:=by
 rintro H p q v ⟨x,hx,rfl⟩ ⟨y,hy,rfl⟩ h1 h2
 rw [itP_rep hx hy h1 h2]
inductive Runs (c:List (Nat × Nat)) (l:Nat):Ms→Res→Prop
 | stop {m m':Ms} : m.step c l (1000+m.steps)=some (.stop m')→Runs c l m (.stop m')
 | err {m:Ms} {e:Nat} : m.step c l (1000+m.steps)=some (.err e)→Runs c l m (.err e)
 | go {m m':Ms} {r:Res} : m.step c l (1000+m.steps)=some (.go m')→Runs c l m' r→Runs c l m r
end Go.Lg
namespace Go.Proofs.YtodjpfpmhjdhbaaGreatDoor
open Go.Lg
inductive Ty where
 | zero|nat|list|unit
 | pair (a b:Ty)
 | fn (a b:Ty)
deriving DecidableEq
def Ty.kind:Ty→Int
 | .zero=>0 | .nat=>1 | .list=>2 | .unit=>5 | .pair _ _=>3 | .fn _ _=>4
def Ty.args:Ty→List Ty
 | .pair a b=>[a,b]
 | .fn a b=>[a,b]
 | _=>[]
def Ty.cells:Ty→List PV
 | .zero=>[.int 0,.slice []]
 | .nat=>[.int 1,.slice []]
 | .list=>[.int 2,.slice []]
 | .unit=>[.int 5,.slice []]
 | .pair a b=>[.int 3,.slice [a.cells,b.cells]]
 | .fn a b=>[.int 4,.slice [a.cells,b.cells]]
theorem Ty.cells_eq (t:Ty):t.cells=[.int t.kind,.slice (t.args.map Ty.cells)]:=by cases t<;>rfl
theorem Ty.ind {P:Ty→Prop} (h:∀ t,(∀ a∈t.args,P a)→P t) (t:Ty):P t:=by
 induction t with
 | pair a b ha hb=>exact h _ (by simp [Ty.args,ha,hb])
 | fn a b ha hb=>exact h _ (by simp [Ty.args,ha,hb])
 | _=>exact h _ (by simp [Ty.args])
theorem Ty.args_le (t:Ty):t.args.length≤2:=by cases t<;>simp [Ty.args]
theorem Ty.cells_len (t:Ty):t.cells.length=2:=by cases t<;>rfl
theorem Ty.all_len (l:List Ty):∀ y∈l.map Ty.cells,y.length=2:=by
 intro y hy
 obtain⟨t,_,rfl⟩:=List.mem_map.1 hy
 exact t.cells_len
set_option maxRecDepth 10000 in
theorem copy_ok (t:Ty):AC Tryz.prog gl 103 [.pv (.agg t.cells)] [] (.ret (.pv (.agg t.cells))) []:=by
 induction t using Ty.ind with
 | _ t ih =>
  refine body [(3,.arr 3 2 27)] Tryz.func103 Tryz.ntmps103 ?_
  rw [Ty.cells_eq]
  refine gg ?_
  refine AWP.loopN t.args.length (fun k=>⟨[(1,.pv (.ptr [.int t.kind,.slice (t.args.map Ty.cells)])),(2,.loc 2 0),(3,.arr 3 k k),(7,.pv (.slice (t.args.map Ty.cells))),(8,.pv (.int t.args.length)),(9,.pv (.int k))],
   [(2,.box [.pv (.int 0),.pv (.slice [])]),(3,.arr k 2 27 (pvE ((t.args.take k).map Ty.cells)))],[2,3]⟩) ⟨by simp [slotsLe,getS,pvE],by simp [subO,getO,pvE],by simp [subL,namesSl,V.names,namesOb,Ob.names,namesL,namesE,namesE_pvE,XX_given,pvE]⟩ ?_
  intro k hk
  have hl:=t.args_le
  refine gg ?_
  refine cd ?_
  refine caseB_dec (fun h => ?_) (fun h => ?_)
  ·have hk:k<t.args.length:=by omega
   have hget:(t.args.map Ty.cells).getD k []=(t.args[k]).cells:=by simp [List.getD,hk]
   have hmem:t.args[k]∈t.args:=List.getElem_mem hk
   have hsn:t.args.take (k+1)=t.args.take k++[t.args[k]]:=by simp
   generalize t.args[k]=a at hget hmem hsn
   rw [Ty.cells_eq] at hget
   refine gg ?_
   (refine runOps_ev rfl (by simp only [↓evalSeq,↓evalR_some,↓evalO_call,↓evalO_none,↓evalO_some,↓evalG_tt,↓evalG_ff,↓evalG_tf,↓evalG_ft,↓evalG_sk,isCall,↓cond_true,↓cond_false,gv,stepOp,stepMove,stepLoad,stepStore,stepIndex,stepLen,stepAppend,stepSlice,stepBin,stepInt,stepEq,srcOf,addrOff,TK.isIface,stepRow,stepUpdate,stepUpdateI,stepLookI,stepLenM,intsOf,oneZ,zeroPV,placesA,PV.nonint,List.any_cons,List.any_nil,Bool.or_true,Bool.true_or,Bool.or_false,Bool.false_or,rdP,rdV,TI.isAgg,boolR,mkAgg,mkSlice,unL,unE,V.un,vc_int,vo_int,po_int,vc_bool,vo_bool,po_bool,vc_nil,vo_nil,po_nil,vc_nils,vo_nils,po_nils,vc_nilfn,vo_nilfn,po_nilfn,vc_nilm,vo_nilm,po_nilm,vc_nilif,vo_nilif,po_nilif,vc_ptr,vo_ptr,po_ptr,vc_slice,vo_slice,po_slice,vc_iface,vo_iface,po_iface,vc_loc,vo_loc,vc_eloc,vo_eloc,vc_arr,vo_arr,vc_map,vo_map,vc_vsl,vo_vsl,vc_fn,vo_fn,vc_agg,vc_aggv,pc_int,pc_bool,pc_nil,pc_nils,pc_nilfn,pc_nilm,pc_nilif,pc_ptr,pc_slice,pc_iface,pc_agg,fillV,sliceParts,putL,St.val,getS,getO,setO,delO,updAll,updO,St.eff,R.eff,R.of,R.ofIf,Env1.note,cst,putS,dstOK,freshL,zipArgs,pvL,skipE,↓reduceIte,Nat.reduceEqDiff,Nat.reduceLT,Nat.reduceLeDiff,Nat.reduceAdd,Nat.reduceSub,Nat.reduceMul,Int.reduceToNat,Int.toNat_natCast,and_true,true_and,false_and,and_self,forall_const,true_implies,implies_true,not_false_eq_true,not_true_eq_false,List.mem_cons,List.not_mem_nil,or_false,or_self,false_or,List.length_cons,List.length_nil,List.map_cons,List.map_nil,List.nil_append,List.cons_append,List.append_nil,List.take_zero,List.take_succ_cons,List.drop_zero,List.drop_succ_cons,List.take_nil,List.drop_nil,List.getElem?_cons_zero,List.getElem?_cons_succ,List.getElem?_nil,Option.map_some,Option.map_none,Bool.not_true,Bool.not_false,List.all_cons,List.all_nil,Bool.and_self,Bool.true_and,Bool.and_true,reduceCtorEq,Option.some.injEq,List.getD_cons_zero,List.getD_cons_succ,decide_true,decide_false,Nat.succ_ne_self,Nat.zero_add,Nat.add_zero,pvE_take,pvE_get,pvE_app,pvE_len,pvE_all,pvE_one,unE_pvE,List.forall_mem_cons,List.mem_singleton,forall_eq,List.mem_nil_iff,false_implies,hget,XX_T,XX_gl,XX_nm,XX_nt,noteD,noteOf,tt27,tt25,tt3];rfl) ?_ ?_;simp only [buildC,and_true,true_and,implies_true,true_implies,and_self])
   ·exact⟨by omega,by simpa using h,Ty.all_len _⟩
   refine gg ?_
   have:=ih a hmem
   rw [Ty.cells_eq] at this
   refine call this ?_
   (refine ev ?_ ?_;simp only [buildC,and_true,true_and,implies_true,true_implies,and_self])
   ·simp [maxLen];omega
   refine gg ?_
   exact⟨hk,⟨by simp [slotsLe,getS,hsn,Ty.cells_eq,List.take_take],by simp [subO,getO,hsn,Ty.cells_eq,List.take_take],by simp [subL,namesSl,V.names,namesOb,Ob.names,namesL,namesE,namesE_pvE,XX_given,hsn,Ty.cells_eq,List.take_take]⟩⟩
  ·(repeat (first|refine ex_exit ?_|refine q_exit ?_|refine b_same ?_|refine q_normal ?_))
   refine frz 3 ?_
   refine gg ?_
   have hkk:k=t.args.length:=by omega
   subst hkk
   have e:(t.args.map Ty.cells).take t.args.length=t.args.map Ty.cells:=by rw [← List.map_take,List.take_length]
   exact⟨by simp [retIs,resV,resL,resOne,mkTup,getS,getO,rdV,mkAgg,unL,V.un,TI.isAgg,XX_T,tt27,Tryz.f103,e],by simp [subO,getO,tt27,Tryz.f103,e]⟩
set_option maxRecDepth 10000
theorem nat_ok:AC Tryz.prog gl 67 [] [] (.ret (.pv (.agg Ty.nat.cells))) []:=by
 refine body [] Tryz.func67 Tryz.ntmps67 ?_
 refine gg ?_
 exact⟨by simp [retIs,resV,resL,resOne,mkTup,getS,getO,rdV,mkAgg,unL,V.un,TI.isAgg,XX_T,tt27,Tryz.f67,Ty.cells],by simp [subO,getO,tt27,Tryz.f67,Ty.cells]⟩
theorem two_ok (a b:Ty):AC Tryz.prog gl 70 [.pv (.agg a.cells),.pv (.agg b.cells)] [] (.ret (.pv (.agg (Ty.pair a b).cells))) []:=by
 refine body [] Tryz.func70 Tryz.ntmps70 ?_
 have ha:=copy_ok a
 have hb:=copy_ok b
 simp only [Ty.cells]
 rw [a.cells_eq] at ha ⊢
 rw [b.cells_eq] at hb ⊢
 refine gg ?_
 refine call ha ?_
 refine gg ?_
 refine call hb ?_
 refine gg ?_
 refine⟨by rfl,?_⟩
 refine gg ?_
 exact⟨by simp [retIs,resV,resL,resOne,mkTup,getS,getO,rdV,mkAgg,unL,V.un,TI.isAgg,XX_T,tt27,Tryz.f70,Ty.cells,Ty.cells_eq],by simp [subO,getO,tt27,Tryz.f70,Ty.cells,Ty.cells_eq]⟩
theorem list_ok:AC Tryz.prog gl 68 [] [] (.ret (.pv (.agg Ty.list.cells))) []:=by
 refine body [] Tryz.func68 Tryz.ntmps68 ?_
 refine gg ?_
 exact⟨by simp [retIs,resV,resL,resOne,mkTup,getS,getO,rdV,mkAgg,unL,V.un,TI.isAgg,XX_T,tt27,Tryz.f68,Ty.cells],by simp [subO,getO,tt27,Tryz.f68,Ty.cells]⟩
theorem unit_ok:AC Tryz.prog gl 69 [] [] (.ret (.pv (.agg Ty.unit.cells))) []:=by
 refine body [] Tryz.func69 Tryz.ntmps69 ?_
 refine gg ?_
 exact⟨by simp [retIs,resV,resL,resOne,mkTup,getS,getO,rdV,mkAgg,unL,V.un,TI.isAgg,XX_T,tt27,Tryz.f69,Ty.cells],by simp [subO,getO,tt27,Tryz.f69,Ty.cells]⟩
theorem zero_ok (t:Ty):AC Tryz.prog gl 110 [.pv (.agg t.cells)] [] (.ret (.pv (.bool (decide (t = .zero))))) []:=by
 refine body [] Tryz.func110 Tryz.ntmps110 ?_
 rw [Ty.cells_eq]
 cases t<;>simp only [Ty.kind,Ty.args,List.map_cons,List.map_nil]
 all_goals refine gg ?_
 all_goals exact⟨by simp [retIs,resV,resL,resOne,mkTup,getS,getO,rdV,mkAgg,unL,V.un,TI.isAgg,XX_T,tt27,tt3,tt4,Tryz.f110,Ty.cells],by simp [subO,getO,tt27,tt3,tt4,Tryz.f110,Ty.cells]⟩
open Go.Lg
def Ty.ok:Ty→Bool
 | .zero=>false
 | .pair a b=>a.ok && b.ok
 | .fn a b=>a.ok && b.ok
 | _=>true
def Ty.size:Ty→Nat
 | .pair a b=>1+a.size+b.size
 | .fn a b=>1+a.size+b.size
 | _=>1
def Ty.sizes (l:List Ty):Nat:=(l.map Ty.size).sum
theorem Ty.size_eq (t:Ty):t.size=1+Ty.sizes t.args:=by cases t<;>simp [Ty.size,Ty.sizes,Ty.args]<;>omega
theorem getD_map {α β:Type} {l:List α} {f:α→β} {d:β} {k:Nat} {a:α} (h:l[k]? = some a):(l.map f).getD k d=f a:=by
 simp [List.getD,h]
theorem take_snoc {α:Type} {l:List α} {k:Nat} {a:α} (h:l[k]? = some a):l.take (k+1)=l.take k++[a]:=by
 rw [List.take_add_one,h];rfl
theorem sizes_le (l:List Ty) (k:Nat):Ty.sizes (l.take k)≤Ty.sizes l:=by
 conv=>rhs;rw [← List.take_append_drop k l]
 simp only [Ty.sizes,List.map_append,List.sum_append];omega
theorem size_ok (t:Ty) (hs:t.size≤1000):AC Tryz.prog gl 120 [.pv (.agg t.cells)] [] (.ret (.pv (.int t.size))) []:=by
 induction t using Ty.ind with
 | _ t ih =>
  refine body [] Tryz.func120 Tryz.ntmps120 ?_
  rw [Ty.cells_eq]
  refine gg ?_
  refine AWP.loopN t.args.length (fun k=>⟨[(3,.pv (.int (1+Ty.sizes (t.args.take k)))),(7,.pv (.slice (t.args.map Ty.cells))),(8,.pv (.int t.args.length)),(9,.pv (.int k))],
   [],[]⟩) ⟨by simp [slotsLe,getS,Ty.sizes],by simp [subO,getO,Ty.sizes],by simp [subL,namesSl,V.names,namesOb,Ob.names,namesL,namesE,namesE_pvE,XX_given,Ty.sizes]⟩ ?_
  intro k hk
  have hl:=t.args_le
  refine gg ?_
  refine cd ?_
  refine caseB_dec (fun h => ?_) (fun h => ?_)
  ·obtain⟨a,hka⟩:∃ a,t.args[k]? = some a:=⟨_,List.getElem?_eq_getElem (by omega)⟩
   have hget:=getD_map (f:=Ty.cells) (d:=[]) hka
   have hsn:=take_snoc hka
   have hmem:=List.mem_of_getElem? hka
   have hsz:Ty.sizes (t.args.take (k+1))=Ty.sizes (t.args.take k)+a.size:=by rw [hsn];simp [Ty.sizes]
   have hle:=sizes_le t.args (k+1)
   have hh:=t.size_eq
   have:=ih a hmem (by omega)
   rw [Ty.cells_eq] at this hget
   clear ih
   refine gg ?_
   (refine ev ?_ ?_;simp only [buildC,and_true,true_and,implies_true,true_implies,and_self])
   ·exact⟨by omega,by simpa using h,Ty.all_len _⟩
   refine gg ?_
   refine call this ?_
   refine gg ?_
   exact⟨by omega,⟨by simp [slotsLe,getS,hsz,Int.add_assoc],by simp [subO,getO,hsz,Int.add_assoc],by simp [subL,namesSl,V.names,namesOb,Ob.names,namesL,namesE,namesE_pvE,XX_given,hsz,Int.add_assoc]⟩⟩
  ·have hkk:k=t.args.length:=by omega
   subst hkk
   have hh:=t.size_eq
   refine gg ?_
   exact⟨by simp [retIs,resV,resL,resOne,mkTup,getS,getO,rdV,mkAgg,unL,V.un,TI.isAgg,XX_T,tt27,Tryz.f120,hh],by simp [subO,getO,tt27,Tryz.f120,hh]⟩
theorem shape_ok (t:Ty) (hs:t.ok=true):AC Tryz.prog gl 119 [.pv (.agg t.cells)] [] (.ret (.pv (.bool true))) []:=by
 induction t with
 | zero=>simp [Ty.ok] at hs
 | pair a b iha ihb|fn a b iha ihb =>
  simp only [Ty.ok,Bool.and_eq_true] at hs
  have ha:=iha hs.1
  have hb:=ihb hs.2
  clear iha ihb hs
  refine body [] Tryz.func119 Tryz.ntmps119 ?_
  simp only [Ty.cells]
  rw [a.cells_eq] at ha ⊢
  rw [b.cells_eq] at hb ⊢
  refine gg ?_
  refine ex_loop 3 (ex_round (kp [2,21,22,23] [] ?_))
  refine gg ?_
  refine call ha ?_
  refine gg ?_
  refine ex_round (kp [2,21,22,23] [] ?_)
  refine gg ?_
  refine call hb ?_
  refine gg ?_
  refine ex_round (kp [2,21,22,23] [] ?_)
  refine gg ?_
  exact enC1
 | _ =>
  refine body [] Tryz.func119 Tryz.ntmps119 ?_
  simp only [Ty.cells]
  refine gg ?_
  refine ex_loop 3 (ex_round ?_)
  refine gg ?_
  exact enC1
theorem tycheck_ok (t:Ty) (hs:t.ok=true) (hz:t.size≤64):AC Tryz.prog gl 89 [.pv (.agg t.cells)] [] (.ret (.pv (.int 0))) []:=by
 have h1:=shape_ok t hs
 have h2:=size_ok t (by omega)
 refine body [] Tryz.func89 Tryz.ntmps89 ?_
 rw [Ty.cells_eq] at h1 h2 ⊢
 refine gg ?_
 refine call h1 ?_
 refine gg ?_
 refine call h2 ?_
 have h3:¬ (64:Int)<t.size:=by omega
 refine gg ?_
 exact enC1
set_option maxRecDepth 10000
theorem same_base (k:Int):AC Tryz.prog gl 49 [.pv (.agg [.int k,.slice []]),.pv (.agg [.int k,.slice []])] [] (.ret (.pv (.bool true))) []:=by
 refine body [] Tryz.func49 Tryz.ntmps49 ?_
 refine gg ?_
 refine ex_loop 3 (ex_round ?_)
 refine gg ?_
 exact enC1
theorem same_kinds (k m:Int) (x y:List (List PV)) (h:¬ k=m):AC Tryz.prog gl 49 [.pv (.agg [.int k,.slice x]),.pv (.agg [.int m,.slice y])] [] (.ret (.pv (.bool false))) []:=by
 refine body [] Tryz.func49 Tryz.ntmps49 ?_
 refine gg ?_
 exact enC1
theorem same_two (k:Int) (a b c d:Ty) (h1:AC Tryz.prog gl 49 [.pv (.agg a.cells),.pv (.agg c.cells)] [] (.ret (.pv (.bool (decide (a=c))))) [])
  (h2:AC Tryz.prog gl 49 [.pv (.agg b.cells),.pv (.agg d.cells)] [] (.ret (.pv (.bool (decide (b=d))))) []) :
  AC Tryz.prog gl 49 [.pv (.agg [.int k,.slice [a.cells,b.cells]]),.pv (.agg [.int k,.slice [c.cells,d.cells]])] [] (.ret (.pv (.bool (decide (a=c∧b=d))))) []:=by
 refine body [] Tryz.func49 Tryz.ntmps49 ?_
 rw [a.cells_eq,c.cells_eq] at h1
 rw [b.cells_eq,d.cells_eq] at h2
 rw [a.cells_eq,b.cells_eq,c.cells_eq,d.cells_eq]
 refine gg ?_
 refine ex_loop 3 (ex_round (kp [2,3,4,22,23] [] ?_))
 refine gg ?_
 refine call h1 ?_
 by_cases e1:a=c
 ·simp only [e1,decide_true]
  refine gg ?_
  refine⟨by rfl,?_⟩
  refine gg ?_
  refine ex_round (kp [2,3,4,22,23] [] ?_)
  refine gg ?_
  refine call h2 ?_
  by_cases e2:b=d
  ·simp only [e2,decide_true]
   refine gg ?_
   refine⟨by rfl,?_⟩
   refine gg ?_
   refine ex_round (kp [2,3,4,22,23] [] ?_)
   refine gg ?_
   exact enC1
  ·simp only [e2,decide_false]
   refine gg ?_
   refine⟨by rfl,?_⟩
   refine gg ?_
   exact enC1
 ·simp only [e1,decide_false]
  refine gg ?_
  refine⟨by rfl,?_⟩
  refine gg ?_
  exact enC1
theorem same_ok (t:Ty):∀ (u:Ty),AC Tryz.prog gl 49 [.pv (.agg t.cells),.pv (.agg u.cells)] [] (.ret (.pv (.bool (decide (t=u))))) []:=by
 induction t with
 | pair a b iha ihb =>
  intro u
  cases u with
  | pair c d=>simpa [Ty.cells] using same_two 3 a b c d (iha c) (ihb d)
  | _=>simpa [Ty.cells] using same_kinds _ _ _ _ (by decide)
 | fn a b iha ihb =>
  intro u
  cases u with
  | fn c d=>simpa [Ty.cells] using same_two 4 a b c d (iha c) (ihb d)
  | _=>simpa [Ty.cells] using same_kinds _ _ _ _ (by decide)
 | _ =>
  intro u
  cases u<;>first|(simpa [Ty.cells] using same_base _)|(simpa [Ty.cells] using same_kinds _ _ _ _ (by decide))
end Go.Proofs.YtodjpfpmhjdhbaaGreatDoor
