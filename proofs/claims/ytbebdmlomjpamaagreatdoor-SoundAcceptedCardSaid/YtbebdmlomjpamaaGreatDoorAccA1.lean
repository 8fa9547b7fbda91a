/- The logic of contracts; no conditions. -/
import Derived.Laws.AppendOwn
import Derived.Laws.OwnMore
import Derived.Laws.AppendOwnNone
import Derived.Orders
import Derived.Tactics
import Derived.Laws.Strings2
import Derived.Laws.Build
import Derived.IntWalk
set_option linter.all false
namespace Go.Lg
inductive PV where|int (n:Int)|bool (b:Bool)|nil|nils|nilfn|nilm|nilif|ptr (cs:List PV)|slice (es:List (List PV))|agg (cs:List PV)|tuple (cs:List PV)|iface (t:Nat) (p:PV)|fnc (f:Nat)|num (k:IntKind) (n:Int)|flg (b:Bool)|nptr (cs:List PV)|str (l:List Nat)
def mark(b:Bool):Value:=.int .i16 (if b then 1 else 0)
inductive V where|undef|pv (p:PV)|loc (n off:Nat)|eloc (n ver i off:Nat)|arr (n ver len:Nat)|map (n:Nat)|vsl (es:List (List V))|fsl (es:List (List PV))|gsl (n ver:Nat) (es:List (List PV))|fn (f:Nat) (caps:List V)|bfn (f:Nat) (bs:List V)|agg (cs:List V)|tuple (cs:List V)
abbrev Hp:=Nat->List Value
mutual
def RepP(H:Hp):PV->Value->Prop
 |.int n,v=>v=.int .i64 n|.bool b,v=>v=.bool b|.nil,v=>v=.pointer none|.nils,v=>v=.slice none 0 0|.nilfn,v=>v=.nilFunc|.nilm,v=>v=.map none|.nilif,v=>v=.nilIface|.ptr d,v=>∃b off,v=.pointer (some ⟨b,off,none⟩)/\RepL H d ((H b).drop off)|.nptr d,v=>∃b off,v=.pointer (some ⟨b,off,none⟩)/\RepK H d ((H b).drop off)|.slice e,v=>∃a cap,v=.slice a e.length cap/\e.length<=cap/\e.length<=maxLen/\
   (e=[]\/∃b off,a=some ⟨b,off,none⟩/\RepE H e ((H b).drop off))
 |.agg d,v=>∃e:List Value,v=.agg e.toArray/\e.length=d.length/\RepL H d e|.tuple d,v=>∃e:List Value,v=.tuple e.toArray/\e.length=d.length/\RepL H d e|.iface t p,v=>∃u,v=.iface t u/\RepP H p u|.fnc f,v=>v=.func (.func f) #[] #[]|.num k n,v=>v=.int k n/\k≠.i16/\k≠.i8|.flg b,v=>∃c,v=.bool c/\(c=true->b=true)|.str l,v=>v=.string ⟨(l.map UInt8.ofNat).toArray⟩/\∀b∈l,b<256
def RepL(H:Hp):List PV->List Value->Prop|[],_=>True|_::_,[]=>False|c::a,v::b=>RepP H c v/\RepL H a b
def RepK(H:Hp):List PV->List Value->Prop|[],_=>True|_::_,[]=>False|.flg b::a,v::d=>v=mark b/\RepK H a d|c::a,v::d=>RepP H c v/\RepK H a d
def RepE(H:Hp):List (List PV)->List Value->Prop|[],_=>True|e::b,a=>RepL H e a/\RepE H b (a.drop e.length)
end
structure Env where
 H:Hp
 g:Nat->Value
 ver:Nat->Nat
 sz:Nat->Nat
mutual
def RepV(E:Env):V->Value->Prop
 |.undef,_=>True|.pv p,v=>RepP E.H p v|.loc n off,v=>∃b,E.g n=.pointer (some ⟨b,0,none⟩)/\v=.pointer (some ⟨b,off,none⟩)|.eloc n d i off,v=>d<=E.ver n/\(∃a:Addr,v=.pointer (some a))/\
   (d=E.ver n->∃b L cap,E.g n=.slice (some ⟨b,0,none⟩) L cap/\v=.pointer (some ⟨b,i*E.sz n+off,none⟩)/\i<L)
 |.arr n d len,v=>d<=E.ver n/\(∃a l c,v=.slice a l c)/\
   (d=E.ver n->∃a L cap,E.g n=.slice a L cap/\v=.slice a len cap/\len<=L)
 |.map n,v=>∃b,E.g n=.map (some b)/\v=.map (some b)|.gsl n d e,v=>RepP E.H (.slice e) v/\d<=E.ver n/\(d=E.ver n->E.g n=v)|.vsl e,v=>∃a cap,v=.slice a e.length cap/\e.length<=cap/\e.length<=maxLen/\
   (e=[]\/∃b off,a=some ⟨b,off,none⟩/\RepVE E e ((E.H b).drop off))
 |.fsl e,v=>∃a,v=.slice a e.length e.length/\e.length<=maxLen/\(e=[]\/∃b off,a=some ⟨b,off,none⟩/\RepE E.H e ((E.H b).drop off))|.fn f e,v=>∃d:List Value,v=.func (.func f) #[] d.toArray/\d.length=e.length/\RepVL E e d|.bfn f g,v=>∃d:List Value,v=.func (.func f) d.toArray #[]/\d.length=g.length/\RepVL E g d|.agg e,v=>∃d:List Value,v=.agg d.toArray/\d.length=e.length/\RepVL E e d|.tuple e,v=>∃d:List Value,v=.tuple d.toArray/\d.length=e.length/\RepVL E e d
def RepVL(E:Env):List V->List Value->Prop|[],_=>True|_::_,[]=>False|c::cs,v::vs=>RepV E c v/\RepVL E cs vs
def RepVE(E:Env):List (List V)->List Value->Prop|[],_=>True|e::es,vs=>RepVL E e vs/\RepVE E es (vs.drop e.length)
end
mutual
def V.names:V->List Nat|.loc n _=>[n]|.eloc n _ _ _=>[n]|.arr n _ _=>[n]|.map n=>[n]|.gsl n _ _=>[n]|.vsl a=>fB a|.fn _ a=>GA a|.bfn _ b=>GA b|.agg a=>GA a|.tuple a=>GA a|_=>[]
def GA:List V->List Nat|[]=>[]|c::a=>c.names++GA a
def fB:List (List V)->List Nat|[]=>[]|e::a=>GA e++fB a
end
def Hle(H a:Hp):Prop:=∀b,H b<+:a b
def ie:=@List.prefix_rfl
theorem Hle.refl(H:Hp):Hle H H:=λ_=>ie
def Hle.trans{A B C:Hp}(h:Hle A B)(a:Hle B C):Hle A C:=λb=>(h b).trans (a b)
def gN{α:Type}{l m:List α}(h:l<+:m)(n:Nat):l.drop n<+:m.drop n:=by
 obtain⟨t,rfl⟩:=h;rw[List.drop_append];simp
def aas:=@List.prefix_append
def aau:=@List.cons_append
mutual
def RepP.mono{H j:Hp}(h:Hle H j):∀(p:PV)(v:Value),RepP H p v->RepP j p v
 |.int _,_,r=>by simpa only[RepP]using r|.bool _,_,r=>by simpa only[RepP]using r|.nil,_,r=>by simpa only[RepP]using r|.nils,_,r=>by simpa only[RepP]using r|.nilfn,_,r=>by simpa only[RepP]using r|.nilm,_,r=>by simpa only[RepP]using r|.nilif,_,r=>by simpa only[RepP]using r|.fnc _,_,r=>by simpa only[RepP]using r|.num _ _,_,r=>by simpa only[RepP]using r|.flg _,_,r=>by simpa only[RepP]using r|.str _,_,r=>by simpa only[RepP]using r|.ptr e,v,r=>by
  simp only[RepP]at r⊢;have⟨b,off,c,d⟩:=r;exact⟨b,off,c,RepL.mono h e _ _ (gN (h b) off) d⟩
 |.nptr e,v,r=>by
  simp only[RepP]at r⊢;have⟨b,off,c,d⟩:=r;exact⟨b,off,c,RepK.mono h e _ _ (gN (h b) off) d⟩
 |.slice k,v,r=>by
  simp only[RepP]at r⊢;have⟨a,cap,c,l,m,f⟩:=r;refine⟨a,cap,c,l,m,?_⟩;rcases f with f|⟨b,off,n,d⟩
  ·exact .inl f
  exact .inr ⟨b,off,n,RepE.mono h k _ _ (gN (h b) off) d⟩
 |.agg e,v,r=>by
  simp only[RepP]at r⊢;have⟨g,c,i,d⟩:=r;exact⟨g,c,i,RepL.mono h e _ _ ie d⟩
 |.tuple e,v,r=>by
  simp only[RepP]at r⊢;have⟨g,c,i,d⟩:=r;exact⟨g,c,i,RepL.mono h e _ _ ie d⟩
 |.iface t p,v,r=>by
  simp only[RepP]at r⊢;have⟨u,c,d⟩:=r;exact⟨u,c,RepP.mono h p u d⟩
def RepL.mono{H e:Hp}(h:Hle H e):∀(d:List PV)(b a:List Value),b<+:a->RepL H d b->RepL e d a
 |[],_,_,_,_=>by simp only[RepL]|c::d,b,a,f,r=>by
  cases b with
  |nil=>simp only[RepL]at r|cons v b=>
   obtain⟨t,rfl⟩:=f;simp only[RepL,aau]at r⊢;exact⟨RepP.mono h c v r.1,RepL.mono h d b _ (aas _ _) r.2⟩
def RepK.mono{H i:Hp}(h:Hle H i):∀(f:List PV)(a d:List Value),a<+:d->RepK H f a->RepK i f d
 |[],_,_,_,_=>by simp only[RepK]|c::f,a,d,j,r=>by
  cases a with
  |nil=>simp only[RepK]at r|cons v a=>
   obtain⟨t,rfl⟩:=j;by_cases g:∃b,c=.flg b
   ·obtain⟨b,rfl⟩:=g;simp only[RepK,aau]at r⊢;exact⟨r.1,RepK.mono h f a _ (aas _ _) r.2⟩
   have g:∀b,c=.flg b->False:=λb e=>g ⟨b,e⟩
   rw[RepK.eq_4 _ _ _ _ _ g]at r;rw[aau,RepK.eq_4 _ _ _ _ _ g];exact⟨RepP.mono h c v r.1,RepK.mono h f a _ (aas _ _) r.2⟩
def RepE.mono{H d:Hp}(h:Hle H d):∀(b:List (List PV))(c a:List Value),c<+:a->RepE H b c->RepE d b a
 |[],_,_,_,_=>by simp only[RepE]|e::b,c,a,d,r=>by
  simp only[RepE]at r⊢;exact⟨RepL.mono h e c a d r.1,RepE.mono h b _ _ (gN d _) r.2⟩
end
def RepK.cons{H:Hp}{c:PV}{a:List PV}{v:Value}{d:List Value}(h:(RepP H c v/\∀b,c≠.flg b)\/∃b,c=.flg b/\v=mark b)(g:RepK H a d):RepK H (c::a) (v::d):=by
 rcases h with ⟨h,f⟩|⟨b,rfl,rfl⟩
 ·rw[RepK.eq_4 _ _ _ _ _ (λb e=>f b e)];simp_all
 grind[RepK]
def RepK.uncons{H:Hp}{c:PV}{a:List PV}{v:Value}{d:List Value}(h:RepK H (c::a) (v::d)):(RepP H c v\/∃b,c=.flg b/\v=mark b)/\RepK H a d:=by
 by_cases a:∃b,c=.flg b
 ·grind[RepK]
 have a:∀b,c=.flg b->False:=λb e=>a ⟨b,e⟩
 rw[RepK.eq_4 _ _ _ _ _ a]at h;simp_all
def c6:=@Nat.zero_le
def RepL.len{H:Hp}:∀{a:List PV}{b:List Value},RepL H a b->a.length<=b.length
 |[],_,_=>c6 _|c::a,[],r=>by grind[RepL]|c::a,v::b,r=>by
  have:=RepL.len r.2;simp;omega
def RepK.len{H:Hp}:∀{a:List PV}{b:List Value},RepK H a b->a.length<=b.length
 |[],_,_=>c6 _|c::a,[],r=>by grind[RepK]|c::a,v::b,r=>by
  have:=RepK.len r.uncons.2;simp;omega
def RepVL.len{E:Env}:∀{a:List V}{b:List Value},RepVL E a b->a.length<=b.length
 |[],_,_=>c6 _|c::a,[],r=>by grind[RepVL]|c::a,v::b,r=>by
  have:=RepVL.len r.2;simp;omega
def EExt(E b:Env)(n:Nat):Prop:=
 b.sz n=E.sz n/\(b.g n=E.g n/\b.ver n=E.ver n\/E.ver n<b.ver n/\∃a l c,E.g n=.slice a l c)
theorem EExt.refl(E:Env)(n:Nat):EExt E E n:=⟨rfl,.inl ⟨rfl,rfl⟩⟩
def EExt.trans{A B C:Env}{n:Nat}(h:EExt A B n)(a:EExt B C n):EExt A C n:=by
 have⟨s,h⟩:=h;have⟨b,a⟩:=a;refine⟨b.trans s,?_⟩;rcases h with ⟨g,v⟩|⟨v,e⟩<;>rcases a with ⟨d,c⟩|⟨c,f⟩
 ·simp_all
 ·simp_all
 ·simp_all
 grind
theorem EExt.of_eq{E a:Env}{n:Nat}(b:a.g n=E.g n)(c:a.ver n=E.ver n)(d:a.sz n=E.sz n):EExt E a n:=⟨d,.inl ⟨b,c⟩⟩
def a6{p:Prop}(h:p:=by omega):=h
def b0{p:Prop}(h:p:=by simp[V.names]):=h
mutual
def RepV.mono{E E':Env}(h:Hle E.H E'.H):∀(x:V)(v:Value),(∀n∈x.names,EExt E E' n)->RepV E x v->RepV E' x v
 |.undef,_,_,_=>by simp only[RepV]|.pv p,v,_,r=>by simp only[RepV]at r⊢;exact RepP.mono h p v r|.loc n off,v,j,r=>by
  simp only[RepV]at r⊢;have⟨b,w,d⟩:=r;rcases(j n b0).2 with ⟨g,_⟩|⟨_,a,l,c,e⟩
  ·exact⟨b,g.trans w,d⟩
  rw[w]at e;cases e
 |.eloc n y i off,v,j,r=>by
  simp only[RepV]at r⊢;have⟨z,m,k⟩:=r;have⟨F,B⟩:=j n b0;rcases B with ⟨g,d⟩|⟨d,_⟩
  ·refine⟨a6,m,λe=>?_⟩;rw[g,F];exact k a6
  exact⟨a6,m,λe=>by omega⟩
 |.arr n y len,v,j,r=>by
  simp only[RepV]at r⊢;have⟨z,m,k⟩:=r;have⟨_,B⟩:=j n b0;rcases B with ⟨g,d⟩|⟨d,_⟩
  ·refine⟨a6,m,λe=>?_⟩;rw[g];exact k a6
  exact⟨a6,m,λe=>by omega⟩
 |.gsl n y A,v,j,r=>by
  simp only[RepV]at r⊢;have⟨m,z,k⟩:=r;refine⟨RepP.mono h _ _ m,?_⟩;rcases(j n b0).2 with ⟨g,d⟩|⟨d,_⟩
  ·exact⟨a6,λe=>by rw[g];exact k a6⟩
  exact⟨a6,λe=>by omega⟩
 |.map n,v,j,r=>by
  simp only[RepV]at r⊢;have⟨b,w,d⟩:=r;rcases(j n b0).2 with ⟨g,_⟩|⟨_,a,l,c,e⟩
  ·exact⟨b,g.trans w,d⟩
  rw[w]at e;cases e
 |.vsl A,v,j,r=>by
  simp only[RepV]at r⊢;have⟨a,cap,d,G,C,o⟩:=r;refine⟨a,cap,d,G,C,?_⟩;rcases o with o|⟨b,off,D,k⟩
  ·exact .inl o
  exact .inr ⟨b,off,D,RepVE.mono h A _ _ (gN (h b) off) (by simpa only[V.names]using j) k⟩
 |.fsl A,v,j,r=>by
  simp only[RepV]at r⊢;have⟨a,d,C,o⟩:=r;refine⟨a,d,C,?_⟩;rcases o with o|⟨b,off,D,k⟩
  ·exact .inl o
  exact .inr ⟨b,off,D,RepE.mono h A _ _ (gN (h b) off) k⟩
 |.fn f s,v,j,r=>by
  simp only[RepV]at r⊢;have⟨t,d,u,k⟩:=r;exact⟨t,d,u,RepVL.mono h s _ _ ie (by simpa only[V.names]using j) k⟩
 |.bfn f s,v,j,r=>by
  simp only[RepV]at r⊢;have⟨t,d,u,k⟩:=r;exact⟨t,d,u,RepVL.mono h s _ _ ie (by simpa only[V.names]using j) k⟩
 |.agg s,v,j,r=>by
  simp only[RepV]at r⊢;have⟨t,d,u,k⟩:=r;exact⟨t,d,u,RepVL.mono h s _ _ ie (by simpa only[V.names]using j) k⟩
 |.tuple s,v,j,r=>by
  simp only[RepV]at r⊢;have⟨t,d,u,k⟩:=r;exact⟨t,d,u,RepVL.mono h s _ _ ie (by simpa only[V.names]using j) k⟩
def RepVL.mono{E E':Env}(h:Hle E.H E'.H):∀(d:List V)(b a:List Value),b<+:a->(∀n∈GA d,EExt E E' n)->RepVL E d b->RepVL E' d a
 |[],_,_,_,_,_=>by simp only[RepVL]|c::d,b,a,g,f,r=>by
  cases b with
  |nil=>simp only[RepVL]at r|cons v b=>
   obtain⟨t,rfl⟩:=g;simp only[RepVL,aau]at r⊢;exact⟨RepV.mono h c v (λn e=>f n (by simp[GA,e])) r.1,RepVL.mono h d b _ (aas _ _) (λn e=>f n (by simp[GA,e])) r.2⟩
def RepVE.mono{E E':Env}(h:Hle E.H E'.H):∀(b:List (List V))(c a:List Value),c<+:a->(∀n∈fB b,EExt E E' n)->RepVE E b c->RepVE E' b a
 |[],_,_,_,_,_=>by simp only[RepVE]|e::b,c,a,d,f,r=>by
  simp only[RepVE]at r⊢;exact⟨RepVL.mono h e c a d (λn a=>f n (by simp[fB,a])) r.1,RepVE.mono h b _ _ (gN d _) (λn a=>f n (by simp[fB,a])) r.2⟩
end
inductive SK where|int (n:Int)|str (l:List Nat)
def SK.kind:SK->Bool|.int _=>false|.str _=>true
def SK.v:SK->Value|.int n=>.int .i64 n|.str l=>.string ⟨(l.map UInt8.ofNat).toArray⟩
def SK.ok:SK->Prop|.int _=>True|.str l=>∀b∈l,b<256
def tF:List Nat->List Nat->Bool|[],[]=>true|a::x,b::y=>Nat.beq a b&&tF x y|_,_=>false
theorem dR:∀(x y:List Nat),tF x y=true↔x=y|[],[]=>by simp[tF]|[],_::_=>by simp[tF]|_::_,[]=>by simp[tF]|a::x,b::y=>by simp[tF,dR]
def SK.eqB:SK->SK->Bool|.int a,.int b=>decide (a=b)|.str x,.str y=>tF x y|_,_=>false
def SK.eqB_iff(a b:SK):SK.eqB a b=true↔a=b:=by
 cases a<;>cases b<;>simp[SK.eqB,dR]
def kD:List (SK×V)->List Nat|[]=>[]|(_,x)::r=>x.names++kD r
inductive Ob where|box (cs:List V)|arr (ver sz ty:Nat) (es:List (List V))|smap (s:Bool) (es:List (SK×V))|siter (l:List Nat) (p:Nat)|raw (v:Value) (x:Obj)|grow (ver sz ty:Nat) (es:List (List PV))
def Ob.gr:Ob->Bool|.grow _ _ _ _=>true|_=>false
def Ob.names:Ob->List Nat|.box a=>GA a|.arr _ _ _ a=>fB a|.smap _ a=>kD a|.siter _ _=>[]|.raw _ _=>[]|.grow _ _ _ _=>[]
def HA:Value->Option Nat|.pointer (some a)=>some a.block|.slice (some a) _ _=>some a.block|.map (some b)=>some b|_=>none
def EntsS(E:Env)(s:Bool):List (SK×V)->List MapEntry->Prop|[],[]=>True|(k,x)::a,e::b=>(e.key=k.v/\k.kind=s/\k.ok/\RepV E x e.val)/\EntsS E s a b|_,_=>False
def StampOK(a:List MapEntry)(b:Nat):Prop:=(∀x∈a,x.born<b)/\(a.map (·.born)).Nodup
def oC:Value:=.int .i8 0
def sn(v:Value):Value:=match v with|.int .i8 _=>oC|.int .i16 _=>oC|v=>v
def ObOK(E:Env)(w:World)(n:Nat):Ob->Prop
 |.box a=>∃b c T,E.g n=.pointer (some ⟨b,0,none⟩)/\w.heap[b]? =some (.cells c T (0,0))/\c.size=a.length/\RepVL E a c.toList/\E.H b=[]|.arr d f h a=>E.ver n=d/\E.sz n=f/\(∀e∈a,e.length=f)/\
   ∃g,w.ownsRow 0 h f (E.g n) a.length g/\RepVE E a g/\∀b,(E.g n).ownBlock=some b->E.H b=[]
 |.smap s a=>∃b i j,E.g n=.map (some b)/\w.heap[b]? =some (.map i j)/\E.H b=[]/\EntsS E s a i.toList/\StampOK i.toList j|.siter l p=>∃b,E.g n=.pointer (some ⟨b,0,none⟩)/\w.heap[b]? =some (.stringIter ⟨(l.map UInt8.ofNat).toArray⟩ p)/\E.H b=[]/\∀x∈l,x<256|.raw v x=>E.g n=v/\∃b,HA v=some b/\w.heap[b]? =some x/\E.H b=[]|.grow d f h a=>E.ver n=d/\E.sz n=f/\(∀e∈a,e.length=f)/\
   ∃g,w.ownsRow 0 h f (E.g n) a.length g/\RepE E.H a g/\∀b,(E.g n).ownBlock=some b->E.H b=g.map sn
def nf(l:List Value):Prop:=∀v∈l,∀b,v≠mark b
def Msk(l m:List Value):Prop:=l.length<=m.length/\(∀(i:Nat)(v:Value),l[i]? =some v->v≠oC->(∀b,v≠mark b)->m[i]? =some v)/\
 ∀(i:Nat)(b:Bool),l[i]? =some (mark b)->∃c,m[i]? =some (.bool c)/\(c=true->b=true)
theorem Nq(b:Bool):mark b≠oC:=by simp[mark,oC]
def aba:=@List.getElem?_drop
theorem Msk.drop{l m:List Value}(h:Msk l m)(k:Nat):Msk (l.drop k) (m.drop k):=by
 refine⟨by have:=h.1;simp;omega,λi v a c d=>?_,λi b a=>?_⟩
 ·rw[aba]at a⊢;exact h.2.1 _ v a c d
 rw[aba]at a⊢;exact h.2.2 _ b a
def Msk.tail{x y:Value}{l m:List Value}(h:Msk (x::l) (y::m)):Msk l m:=by simpa using h.drop 1
def aaF:=@List.getElem?_take
def gm:=@if_pos
def Msk.take{l m:List Value}(h:Msk l m)(k:Nat):Msk (l.take k) (m.take k):=by
 refine⟨by have:=h.1;simp;omega,λi v a d e=>?_,λi b a=>?_⟩
 ·rw[aaF]at a⊢;split at a
  ·rename_i c;rw[gm c];exact h.2.1 _ v a d e
  cases a
 rw[aaF]at a⊢;split at a
 ·rename_i c;rw[gm c];exact h.2.2 _ b a
 cases a
def gU{H:Hp}{p:PV}{v:Value}(h:RepP H p v):v≠oC:=by
 intro e;subst e;cases p<;>simp[RepP,oC]at h
 grind
def Qf{a b:Bool}(h:mark a=mark b):a=b:=by cases a<;>cases b<;>simp_all[mark]
def lU{H:Hp}{p:PV}{v:Value}(h:RepP H p v)(b:Bool):v≠mark b:=by
 intro e;subst e;cases p<;>simp[RepP,mark]at h
 grind
def Oq{E:Env}{x:V}(h:RepV E x oC):x=.undef:=by
 cases x with|undef=>rfl|pv p=>exact absurd rfl (gU (p:=p) (by simpa[RepV]using h))|gsl n a b=>grind[RepV,RepP,oC]|_=>simp[RepV,oC]at h
def Pq{E:Env}{x:V}{b:Bool}(h:RepV E x (mark b)):x=.undef:=by
 cases x with|undef=>rfl|pv p=>exact absurd rfl (lU (p:=p) (by simpa[RepV]using h) b)|gsl n a c=>grind[RepV,RepP,mark]|_=>simp[RepV,mark]at h
theorem RepP.flg_of{H:Hp}{b c:Bool}(h:c=true->b=true):RepP H (.flg b) (.bool c):=by grind[RepP]
def Msk.head{v u:Value}{l m:List Value}(h:Msk (v::l) (u::m))(a:v≠oC)(c:∀b,v≠mark b):u=v:=by
 have e:=h.2.1 0 v rfl a c;simp_all
def RepL.msk{H:Hp}:∀{a:List PV}{l m:List Value},RepL H a l->Msk l m->RepL H a m
 |[],_,_,_,_=>by simp[RepL]|c::a,[],m,r,_=>by grind[RepL]|c::a,v::l,[],_,h=>by have:=h.1;simp_all|c::a,v::l,u::m,r,h=>by
  rw[h.head (gU r.1) (lU r.1)];exact⟨r.1,RepL.msk r.2 h.tail⟩
def RepK.msk{H:Hp}:∀{a:List PV}{l m:List Value},RepK H a l->Msk l m->RepL H a m
 |[],_,_,_,_=>by simp[RepL]|c::a,[],m,r,_=>by grind[RepK]|c::a,v::l,[],_,h=>by have:=h.1;simp_all|c::a,v::l,u::m,r,h=>by
  have⟨e,f⟩:=r.uncons;refine⟨?_,RepK.msk f h.tail⟩;rcases e with e|⟨b,rfl,rfl⟩
  ·rw[h.head (gU e) (lU e)];exact e
  have⟨d,g,i⟩:=h.2.2 0 b rfl
  grind[RepP.flg_of]
def Rf{v:Value}(a:∀n,v≠.int .i8 n)(b:∀n,v≠.int .i16 n):sn v=v:=by
 unfold sn;split
 ·exact absurd rfl (a _)
 ·exact absurd rfl (b _)
 rfl
theorem BY(v:Value)(b:Bool):sn v≠mark b:=by
 unfold sn;split
 ·simp[oC,mark]
 ·simp[oC,mark]
 rename_i c a;intro e;exact a _ (by rw[e];rfl)
theorem Sf{v:Value}(h:sn v≠oC):sn v=v:=by
 unfold sn at h⊢
 grind
def a8{p:Prop}(h:p:=by simp):=h
theorem Msk.sn(l:List Value):Msk (l.map Go.Lg.sn) l:=by
 refine⟨a8,λi v a c c=>?_,λi b a=>?_⟩
 ·grind[Sf]
 grind[absurd,BY]
theorem RepP.sn{H:Hp}{p:PV}{v:Value}(h:RepP H p v):Go.Lg.sn v=v:=by
 refine Rf (λn e=>?_) (λn e=>?_)<;>subst e<;>cases p<;>simp[RepP]at h<;>first|exact h.2.2 h.1.1.symm|grind
theorem RepV.sn{E:Env}{x:V}{v:Value}(h:RepV E x v):RepV E x (Go.Lg.sn v):=by
 cases x with
 |undef=>simp[RepV]|pv p=>simp only[RepV]at h⊢;rw[h.sn];exact h|gsl n a b=>rw[RepP.sn (by exact h.1)];exact h|_=>
  rw[Rf]<;>first|exact h|(intro n e;subst e;simp[RepV]at h)
def gF:=@List.map_cons
theorem RepL.sn{H:Hp}:∀{a:List PV}{l:List Value},RepL H a l->RepL H a (l.map Go.Lg.sn)
 |[],_,_=>by simp[RepL]|c::a,[],r=>by simp_all|c::a,v::l,r=>by
  simp only[RepL,gF]at r⊢;rw[r.1.sn];exact⟨r.1,r.2.sn⟩
theorem RepE.sn{H:Hp}:∀{a:List (List PV)}{l:List Value},RepE H a l->RepE H a (l.map Go.Lg.sn)
 |[],_,_=>by simp[RepE]|e::a,l,r=>by
  refine⟨r.1.sn,?_⟩;rw[<-List.map_drop];exact r.2.sn
theorem RepVL.sn{E:Env}:∀{a:List V}{l:List Value},RepVL E a l->RepVL E a (l.map Go.Lg.sn)
 |[],_,_=>by simp[RepVL]|c::a,[],r=>by simp_all|c::a,v::l,r=>by
  exact⟨r.1.sn,r.2.sn⟩
theorem RepVE.sn{E:Env}:∀{a:List (List V)}{l:List Value},RepVE E a l->RepVE E a (l.map Go.Lg.sn)
 |[],_,_=>by simp[RepVE]|e::a,l,r=>by
  refine⟨r.1.sn,?_⟩;rw[<-List.map_drop];exact r.2.sn
def Msk.cell{H:Hp}{l m:List Value}(h:Msk l m){i:Nat}{v:Value}{p:PV}(d:l[i]? =some v)(a:RepP H p v\/∃b,p=.flg b/\v=mark b):∃u,m[i]? =some u/\RepP H p u:=by
 rcases a with a|⟨b,rfl,rfl⟩
 ·exact⟨v,h.2.1 i v d (gU a) (lU a),a⟩
 have⟨c,e,f⟩:=h.2.2 i b d
 grind[RepP.flg_of]
open Classical in
def RepVL.msk {E:Env}: ∀ {cs:List V} {l m:List Value},RepVL E cs l->Msk l m->RepVL E cs m
 |[],_,_,_,_=>by simp only [RepVL]|c::cs,[],m,r,_=>by simp only [RepVL] at r|c::cs,v::l,[],_,h=>by have:=h.1;simp at this|c::cs,v::l,u::m,r,h=>by
  simp only [RepVL] at r ⊢;refine⟨?_,RepVL.msk r.2 h.tail⟩;by_cases hv:v=oC
  ·subst hv;rw [Oq r.1];simp [RepV]
  by_cases hb:∃ b,v=mark b
  ·obtain⟨b,rfl⟩:=hb;rw [Pq r.1];simp only [RepV]
  rw [h.head hv (λ b e=>hb ⟨b,e⟩)];exact r.1
def RepVE.msk{E:Env}:∀{a:List (List V)}{l m:List Value},RepVE E a l->Msk l m->RepVE E a m
 |[],_,_,_,_=>by simp[RepVE]|e::a,l,m,r,h=>by
  exact⟨r.1.msk h,RepVE.msk r.2 (h.drop _)⟩
def HeapOK(E:Env)(w:World):Prop:=
 ∀b,E.H b≠[]->∃c T a,w.heap[b]? =some (.cells c T a)/\Msk (E.H b) c.toList/\(a=(0,0)\/∀v∈E.H b,∃k n,v=.int k n/\k≠.i16)
def aal:=@Array.getElem?_eq_some_iff
def HeapOK.lt{E:Env}{w:World}(h:HeapOK E w){b:Nat}(d:w.heap.size<=b):E.H b=[]:=by
 by_cases e:E.H b=[]
 ·exact e
 have⟨c,T,f,a,_⟩:=h b e;have:=(aal.1 a).1;omega
def ObOK.blk_lt{E:Env}{w:World}{n:Nat}{o:Ob}(h:ObOK E w n o){b:Nat}(y:HA (E.g n)=some b):b<w.heap.size:=by
 cases o with
 |box z=>
  have⟨d,c,T,f,a,_⟩:=h
  grind[HA]
 |arr i r t m=>
  have⟨_,_,_,u,j,_⟩:=h;rcases j.2 with ⟨e,_⟩|⟨g,cap,k,e,_,a,_⟩
  ·grind[HA]
  grind[HA]
 |smap s m=>
  have⟨d,A,B,f,a,_⟩:=h
  grind[HA]
 |siter l p=>
  have⟨d,f,a,_⟩:=h
  grind[HA]
 |raw v x=>
  have⟨f,d,C,a,_⟩:=h
  grind
 |grow i r t m=>
  have⟨_,_,_,u,j,_⟩:=h;rcases j.2 with ⟨e,_⟩|⟨g,cap,k,e,_,a,_⟩
  ·grind[HA]
  grind[HA]
def ObOK.free{E:Env}{w:World}{n:Nat}{o:Ob}(h:ObOK E w n o)(a:o.gr=false){b:Nat}(k:HA (E.g n)=some b):E.H b=[]:=by
 cases o with
 |box A=>
  have⟨f,c,T,a,d,_,_,i⟩:=h
  grind[HA]
 |arr j r t m=>
  have⟨_,_,_,B,u,_,y⟩:=h;rcases u.2 with ⟨e,_⟩|⟨g,cap,z,e,_,d,_⟩
  ·grind[HA]
  refine y b ?_;rw[e]at k⊢;simpa[HA,Value.ownBlock]using k
 |smap s m=>
  have⟨f,C,D,a,d,i,_⟩:=h
  grind[HA]
 |siter l p=>
  have⟨f,a,d,i,_⟩:=h
  grind[HA]
 |raw v x=>
  have⟨a,f,F,d,i⟩:=h;simp_all
 |grow j r t m=>cases a
def ObOK.nf{E:Env}{w:World}{n:Nat}{o:Ob}(h:ObOK E w n o){b:Nat}(a:HA (E.g n)=some b):nf (E.H b):=by
 cases c:o.gr with
 |false=>rw[h.free c a];intro v d;cases d
 |true=>
  cases o with
  |grow f l m p=>
   have⟨_,_,_,r,i,_,j⟩:=h;rcases i.2 with ⟨e,_⟩|⟨g,cap,k,e,_,s,_⟩
   ·grind[HA]
   rw[j b (by rw[e]at a⊢;simpa[HA,Value.ownBlock]using a)];intro v d q t
   grind[BY]
  |_=>cases c
def EntsS.mono{E E':Env}(h:Hle E.H E'.H){s:Bool}:∀{a:List (SK×V)}{b:List MapEntry},(∀n∈kD a,EExt E E' n)->EntsS E s a b->EntsS E' s a b|[],[],_,_=>trivial|(k,x)::a,e::b,c,r=>⟨⟨r.1.1,r.1.2.1,r.1.2.2.1,RepV.mono h x _ (λn a=>c n (by simp[kD,a])) r.1.2.2.2⟩,EntsS.mono h (λn a=>c n (by simp[kD,a])) r.2⟩|[],_::_,_,r=>r.elim|(_,_)::_,[],_,r=>r.elim
def EntsS.length{E:Env}{s:Bool}:∀{a:List (SK×V)}{b:List MapEntry},EntsS E s a b->a.length=b.length|[],[],_=>rfl|(_,_)::_,_::_,r=>by simp[EntsS.length r.2]|[],_::_,r=>r.elim|(_,_)::_,[],r=>r.elim
def ObOK.mono{E E':Env}{w L:World}{n:Nat}{o:Ob}(h:ObOK E w n o)(G:Hle E.H E'.H)
  (y:E'.g n=E.g n) (M:E'.ver n=E.ver n) (N:E'.sz n=E.sz n) (I:∀m∈o.names,EExt E E' m)
  (z:∀b,HA (E.g n)=some b->L.heap[b]? =w.heap[b]? /\E'.H b=E.H b):ObOK E' L n o:=by
 cases o with
 |box O=>
  have⟨b,c,T,a,d,P,B,A⟩:=h;have⟨f,j⟩:=z b (by rw[a];rfl);exact⟨b,c,T,y.trans a,f.trans d,P,RepVL.mono G O _ _ ie I B,j.trans A⟩
 |arr J Q R H=>
  have⟨f,j,k,K,C,B,A⟩:=h;have D:∀b,(E.g n).ownBlock=some b->HA (E.g n)=some b:=by
   intro b r;revert r;cases E.g n<;>simp[Value.ownBlock,HA]
   grind
  refine⟨M.trans f,N.trans j,k,K,?_,RepVE.mono G H _ _ ie I B,?_⟩
  ·rw[y];refine⟨C.1,?_⟩;rcases C.2 with e|⟨g,cap,t,e,u,d,i⟩
   ·simp_all
   refine .inr ⟨g,cap,t,e,u,?_,i⟩;rw[(z g (by rw[e];rfl)).1];exact d
  simp_all
 |smap s H=>
  have⟨b,S,U,a,d,f,j⟩:=h;have⟨k,F⟩:=z b (by rw[a];rfl);exact⟨b,S,U,y.trans a,k.trans d,F.trans f,j.1.mono G I,j.2⟩
 |siter l p=>
  have⟨b,a,d,f,j⟩:=h;have⟨k,F⟩:=z b (by rw[a];rfl);exact⟨b,y.trans a,k.trans d,F.trans f,j⟩
 |raw v x=>
  have⟨a,b,A,d,f⟩:=h;have⟨k,F⟩:=z b (by rw[a];exact A);exact⟨y.trans a,b,A,k.trans d,F.trans f⟩
 |grow J Q R H=>
  have⟨f,j,k,K,C,B,A⟩:=h;have D:∀b,(E.g n).ownBlock=some b->HA (E.g n)=some b:=by
   intro b r;revert r;cases E.g n<;>simp[Value.ownBlock,HA]
   grind
  refine⟨M.trans f,N.trans j,k,K,?_,RepE.mono G H _ _ ie B,?_⟩
  ·rw[y];refine⟨C.1,?_⟩;rcases C.2 with e|⟨g,cap,t,e,u,d,i⟩
   ·simp_all
   refine .inr ⟨g,cap,t,e,u,?_,i⟩;rw[(z g (by rw[e];rfl)).1];exact d
  simp_all
structure St where
 slots:List (Nat×V)
 objs:List (Nat×Ob)
 used:List Nat
def OA:List (Nat×V)->Nat->V|[],_=>.undef|(k,x)::r,t=>if k=t then x else OA r t
def jA:List (Nat×Ob)->Nat->Option Ob|[],_=>none|(k,x)::r,t=>if k=t then some x else jA r t
def MI:List (Nat×Ob)->Nat->List (Nat×Ob)|[],_=>[]|(k,x)::r,t=>if k=t then MI r t else(k,x)::MI r t
def HB:List (Nat×Ob)->Nat->Ob->List (Nat×Ob)|[],t,o=>[(t,o)]|(k,x)::r,t,o=>if k=t then(k,o)::r else(k,x)::HB r t o
def fR(l:List (Nat×Ob))(k n:Nat):jA (MI l k) n=if n=k then none else jA l n:=by
 induction l with
 |nil=>simp[MI,jA]|cons p r a=>
  grind[MI,jA]
def QD(l:List (Nat×Ob))(k n:Nat)(o:Ob):jA (HB l k o) n=if n=k then some o else jA l n:=by
 induction l with
 |nil=>
  grind[HB,jA]
 |cons p r a=>
  grind[HB,jA]
structure Ctx where
 E0:Env
 w0:World
 given:List (Nat×Ob)
 ms:List Nat
 nt:Nat
 defs:List (Nat×List V)
def Ctx.F(C:Ctx)(b:Nat):Prop:=∃n o,jA C.given n=some o/\HA (C.E0.g n)=some b
def DefOK(E:Env):List (Nat×List V)->List Deferred->Prop|[],c=>c=[]|(f,a)::r,c=>∃d b,c={target:=.fn (.func f) (d:List Value).toArray,args:=#[]}::b/\d.length=a.length/\RepVL E a d/\DefOK E r b
def xG:List (Nat×List V)->List Nat|[]=>[]|(_,a)::r=>GA a++xG r
def DefOK.mono{E E':Env}(h:Hle E.H E'.H):∀(l:List (Nat×List V))(c:List Deferred),(∀n∈xG l,EExt E E' n)->DefOK E l c->DefOK E' l c
 |[],_,_,d=>d|(f,b)::r,c,g,d=>by
  have⟨i,a,j,k,m,o⟩:=d;exact⟨i,a,j,k,RepVL.mono h b _ _ ie (λn e=>g n (by simp[xG,e])) m,DefOK.mono h r a (λn e=>g n (by simp[xG,e])) o⟩
structure Ga(C:Ctx)(E:Env)(σ:St)(a:Act)(w:World):Prop where
 slots:∀t,RepV E (OA σ.slots t) (a.tmps.getD t undef)
 size:a.tmps.size=C.nt
 defers:DefOK E C.defs a.defers/\∀n∈xG C.defs,n∈σ.used
 heap:HeapOK E w
 objs:∀n o,jA σ.objs n=some o->ObOK E w n o
 apart:∀n m o o',jA σ.objs n=some o->jA σ.objs m=some o'->n≠m->∀b,HA (E.g n)=some b->HA (E.g m)≠some b
 usedS:∀t,∀n∈(OA σ.slots t).names,n∈σ.used
 usedO:∀n o,jA σ.objs n=some o->n∈σ.used/\∀m∈o.names,m∈σ.used
 usedG:∀n o,jA C.given n=some o->n∈σ.used
 grown:C.w0.heap.size<=w.heap.size
 rest:w.os=C.w0.os/\w.tape=C.w0.tape/\w.output=C.w0.output
 same:∀b,b<C.w0.heap.size->¬C.F b->(nf (C.E0.H b)->w.heap[b]? =C.w0.heap[b]?)/\E.H b=C.E0.H b
 hle:Hle C.E0.H E.H
 own:∀n o b,jA σ.objs n=some o->HA (E.g n)=some b->b<C.w0.heap.size->C.F b
 ext:∀n o,jA C.given n=some o->EExt C.E0 E n
 keep:∀n∈C.ms,n∈σ.used/\jA σ.objs n=none/\E.g n=C.E0.g n/\E.ver n=C.E0.ver n/\E.sz n=C.E0.sz n
def cD(a:Option Nat)(x:V)(l:List (Nat×V)):List (Nat×V):=
 match a with|some d=>(d,x)::l|none=>l
def hV:=@Nat.le_trans
def Ga.changeF{C:Ctx}{E E':Env}{σ:St}{a:Act}{w D:World}(h:Ga C E σ a w)(k:Nat)(u:Option Ob)(z:List (Nat×Ob))(i:List Nat)(p:Option Nat)(x:V)(v:Value)
  (M:∀n,jA z n=if n=k then u else jA σ.objs n)
  (T:Hle E.H E'.H)
  (A:∀n,n≠k->E'.g n=E.g n/\E'.ver n=E.ver n/\E'.sz n=E.sz n)
  (hk:k∈σ.used->EExt E E' k) (N:k∈σ.used->∃o,jA σ.objs k=some o)
  (J:w.heap.size<=D.heap.size)
  (r:D.os=w.os/\D.tape=w.tape/\D.output=w.output)
  (hw:∀b,b<w.heap.size->(∀o,jA σ.objs k=some o->HA (E.g k)≠some b)->(nf (E.H b)->D.heap[b]? =w.heap[b]?)/\E'.H b=E.H b)
  (K:HeapOK E' D)
  (H:∀o,u=some o->ObOK E' D k o/\k∈i/\∀m∈o.names,m∈i)
  (I:∀o b,u=some o->HA (E'.g k)=some b->w.heap.size<=b\/(HA (E.g k)=some b/\∃y,jA σ.objs k=some y))
  (f:∀n∈σ.used,n∈i)
  (hx:RepV E' x v) (W:∀n∈x.names,n∈i) (hd:∀d,p=some d->d<C.nt):
  Ga C E' ⟨cD p x σ.slots,z,i⟩ (a.put p v) D:=by
 have F:∀n∈σ.used,EExt E E' n:=by
  grind[EExt.of_eq]
 have X:∀n o,jA σ.objs n=some o->n≠k->∀b,HA (E.g n)=some b->D.heap[b]? =w.heap[b]? /\E'.H b=E.H b:=by
  intro n o c g b j;have hh:=hw b ((h.objs n o c).blk_lt j) (λy s e=>h.apart n k o y c s g b j e);exact⟨hh.1 ((h.objs n o c).nf j),hh.2⟩
 have O:∀t,RepV E' (OA σ.slots t) (a.tmps.getD t undef):=λt=>
  RepV.mono T _ _ (λn c=>F n (h.usedS t n c)) (h.slots t)
 constructor
 ·intro t
  cases p with
  |none=>exact O t|some d=>
   simp only[cD,OA,Act.put];by_cases e:d=t
   ·subst e;have G:d<a.tmps.size:=by rw[h.size];simp_all
    simp_all
   simp_all
 ·cases p<;>simp[Act.put,h.size]
 ·refine⟨?_,λn c=>f n (h.defers.2 n c)⟩;have:=DefOK.mono T _ _ (λn c=>F n (h.defers.2 n c)) h.defers.1;cases p<;>simpa[Act.put]using this
 ·exact K
 ·intro n o c;simp only[M n]at c;split at c
  ·rename_i e;subst e;exact(H o c).1
  rename_i e;exact(h.objs n o c).mono T (A n e).1 (A n e).2.1 (A n e).2.2 (λm B=>F m ((h.usedO n o c).2 m B)) (X n o c e)
 ·have key:∀n o,u=some o->n≠k->∀y,jA σ.objs n=some y->∀b,HA (E'.g k)=some b->HA (E'.g n)≠some b:=by
   intro n o c g y P b j l;rw[(A n g).1]at l;rcases I o b c j with G|⟨L,Y,s⟩
   ·have:=(h.objs n y P).blk_lt l;omega
   exact h.apart n k y Y P s g b l L
  intro n m o y c B g b j l;simp only[M n]at c;simp only[M m]at B;split at c
  ·rename_i e;subst e;have Q:m≠n:=λe=>g e.symm
   simp only[Q,if_false]at B;exact key m o c Q y B b j l
  rename_i e;split at B
  ·rename_i Z;subst Z;exact key n y B e o c b l j
  rename_i Z;rw[(A n e).1]at j;rw[(A m Z).1]at l;exact h.apart n m o y c B g b j l
 ·intro t n c
  cases p with
  |none=>exact f n (h.usedS t n c)|some d=>
   simp only[cD,OA]at c;split at c
   ·exact W n c
   exact f n (h.usedS t n c)
 ·intro n o c;simp only[M n]at c;split at c
  ·rename_i e;subst e;exact(H o c).2
  exact⟨f n (h.usedO n o c).1,λm B=>f m ((h.usedO n o c).2 m B)⟩
 ·exactλn o c=>f n (h.usedG n o c)
 ·exact hV h.grown J
 ·exact⟨r.1.trans h.rest.1,r.2.1.trans h.rest.2.1,r.2.2.trans h.rest.2.2⟩
 ·intro b j hF;have⟨U,R⟩:=h.same b j hF;have⟨h3,h4⟩:=hw b (Nat.lt_of_lt_of_le j h.grown) (λo s e=>hF (h.own k o b s e j));exact⟨λc=>(h3 (by rw[R];exact c)).trans (U c),h4.trans R⟩
 ·exact h.hle.trans T
 ·intro n o b c j G;simp only[M n]at c;split at c
  ·rename_i e;subst e;rcases I o b c j with hge|⟨L,y,s⟩
   ·have:=h.grown;omega
   exact h.own n y b s L G
  rename_i e;rw[(A n e).1]at j;exact h.own n o b c j G
 ·intro n o c;exact(h.ext n o c).trans (F n (h.usedG n o c))
 intro n c;have⟨U,R,h3,h4,h5⟩:=h.keep n c;have g:n≠k:=by
  intro e;subst e;have⟨o,S⟩:=N U;rw[R]at S;cases S
 refine⟨f n U,?_,(A n g).1.trans h3,(A n g).2.1.trans h4,(A n g).2.2.trans h5⟩;simp only[M n,g,if_false];exact R
def Ga.change{C:Ctx}{E E':Env}{σ:St}{a:Act}{w i:World}(h:Ga C E σ a w)(k:Nat)(f:Option Ob)(e:List (Nat×Ob))(c:List Nat)(g:Option Nat)(x:V)(v:Value)
  (z:∀n,jA e n=if n=k then f else jA σ.objs n)
  (A:Hle E.H E'.H)
  (B:∀n,n≠k->E'.g n=E.g n/\E'.ver n=E.ver n/\E'.sz n=E.sz n)
  (D:k∈σ.used->EExt E E' k) (r:k∈σ.used->∃o,jA σ.objs k=some o)
  (j:w.heap.size<=i.heap.size)
  (l:i.os=w.os/\i.tape=w.tape/\i.output=w.output)
  (y:∀b,b<w.heap.size->(∀o,jA σ.objs k=some o->HA (E.g k)≠some b)->i.heap[b]? =w.heap[b]? /\E'.H b=E.H b)
  (p:HeapOK E' i)
  (s:∀o,f=some o->ObOK E' i k o/\k∈c/\∀m∈o.names,m∈c)
  (t:∀o b,f=some o->HA (E'.g k)=some b->w.heap.size<=b\/(HA (E.g k)=some b/\∃o,jA σ.objs k=some o))
  (o:∀n∈σ.used,n∈c)
  (F:RepV E' x v) (u:∀n∈x.names,n∈c) (G:∀d,g=some d->d<C.nt):
  Ga C E' ⟨cD g x σ.slots,e,c⟩ (a.put g v) i:=
 Ga.changeF h k f e c g x v z A B D r j l (λb c e=>⟨λ_=>(y b c e).1,(y b c e).2⟩) p s t o F u G
def Qq(l:List Nat):∃k,k∉l:=by
 have key:∃m,∀n∈l,n<m:=by
  induction l with
  |nil=>simp|cons x l b=>
   have⟨m,a⟩:=b;refine⟨max (x+1) m,λn c=>?_⟩
   grind
 have⟨m,a⟩:=key;exact⟨m,λh=>absurd (a m h) (Nat.lt_irrefl _)⟩
def Ga.pureF{C:Ctx}{E:Env}{σ:St}{a:Act}{w p:World}(h:Ga C E σ a w)(j:Hp)(c:Option Nat)(x:V)(v:Value)
  (y:Hle E.H j) (f:w.heap.size<=p.heap.size)
  (g:p.os=w.os/\p.tape=w.tape/\p.output=w.output)
  (u:∀b,b<w.heap.size->(nf (E.H b)->p.heap[b]? =w.heap[b]?)/\j b=E.H b)
  (i:HeapOK {E with H:=j} p)
  (B:RepV {E with H:=j} x v) (t:∀n∈x.names,n∈σ.used) (D:∀d,c=some d->d<C.nt):
  Ga C {E with H:=j} ⟨cD c x σ.slots,σ.objs,σ.used⟩ (a.put c v) p:=by
 --a name F G no object
 have r:∀n,EExt E {E with H:=j} n:=λn=>EExt.of_eq rfl rfl rfl
 by_cases l:∃k o,jA σ.objs k=some o
 ·have⟨k,o,l⟩:=l;refine h.changeF (E':={E with H:=j}) k (some o) σ.objs σ.used c x v ?_ y (λ_ _=>⟨rfl,rfl,rfl⟩) (λ_=>r k) (λ_=>⟨o,l⟩) f g (λb s _=>u b s) i ?_ ?_ (λ_ h=>h) B t D
  ·simp_all
  ·intro H e;cases e;exact⟨(h.objs k o l).mono y rfl rfl rfl (λm _=>r m) (λb s=>⟨(u b ((h.objs k o l).blk_lt s)).1 ((h.objs k o l).nf s),(u b ((h.objs k o l).blk_lt s)).2⟩),(h.usedO k o l)⟩
  simp_all
 have:∀k,jA σ.objs k=none:=by
  intro k
  cases e:jA σ.objs k with|none=>rfl|some o=>simp_all
 have⟨k,A⟩:=Qq σ.used;refine h.changeF (E':={E with H:=j}) k none σ.objs σ.used c x v ?_ y (λ_ _=>⟨rfl,rfl,rfl⟩) (λ_=>r k) (λe=>absurd e A) f g (λb s _=>u b s) i ?_ ?_ (λ_ h=>h) B t D
 ·simp_all
 ·simp
 simp
def Ga.pure{C:Ctx}{E:Env}{σ:St}{a:Act}{w e:World}(h:Ga C E σ a w)(j:Hp)(c:Option Nat)(x:V)(v:Value)
  (m:Hle E.H j) (f:w.heap.size<=e.heap.size)
  (g:e.os=w.os/\e.tape=w.tape/\e.output=w.output)
  (l:∀b,b<w.heap.size->e.heap[b]? =w.heap[b]? /\j b=E.H b)
  (i:HeapOK {E with H:=j} e)
  (o:RepV {E with H:=j} x v) (k:∀n∈x.names,n∈σ.used) (p:∀d,c=some d->d<C.nt):
  Ga C {E with H:=j} ⟨cD c x σ.slots,σ.objs,σ.used⟩ (a.put c v) e:=
 h.pureF j c x v m f g (λb c=>⟨λ_=>(l b c).1,(l b c).2⟩) i o k p
inductive TK where|other|bool|pointer|func|struct (fs:List (Nat×Nat)) (pl:List Nat)|slice (e:Nat)|array (n e:Nat)|smap (k v:Nat) (s:Bool)|str|int|iface|num (k:IntKind)
def TK.isIface:TK->Bool|.iface=>true|_=>false
structure TI where
 k:TK
 size:Nat
 bytes:Nat
 zero:Value
 zc:List PV
def gR(P:Program)(f:List Field):List Nat->Bool
 |[]=>true|i::a=>(match f[i]? with
  |some x=>match P.underlying x.type with|some (.struct _)=>false|some (.array _ _)=>false|some _=>true|none=>false
  |none=>false)&&gR P f a
def yD(P:Program)(d:TypeDesc):TK->Prop
 |.other=>match d with|.struct _=>False|.array _ _=>False|_=>True
 |.bool=>d=.bool|.pointer=>∃e,d=.pointer e|.func=>∃p r v,d=.func p r v|.struct a pl=>∃f,d=.struct f/\f.toList.map (λx=>(x.offset,(P.info? x.type).map (·.size)))=a.map (λp=>(p.1,some p.2))/\gR P f.toList pl=true|.slice e=>d=.slice e|.array n e=>d=.array n e|.smap k v s=>d=.map k v/\P.underlying k=some (match s with|true=>.string|false=>.int .i64)|.str=>d=.string|.int=>d=.int .i64|.iface=>∃a,d=.interface a|.num k=>d=.int k/\k≠.i16/\k≠.i8
structure TIOK(P:Program)(t:Nat)(ti:TI):Prop where
 info:∃i,P.info? t=some i/\i.size=ti.size/\i.bytes=ti.bytes/\i.zero=some ti.zero
 desc:∃d,P.underlying t=some d/\yD P d ti.k
 zlen:ti.zero.cells.size=ti.size
 zcells:RepL (λ_=>[]) ti.zc ti.zero.cells.toList
 zc:ti.zc.length=ti.size
 conc:ti.k.isIface=true\/P.concrete t=true
def KB(P:Program)(T:Nat->Option TI):Prop:=∀t a,T t=some a->TIOK P t a
def TI.isAgg(a:TI):Bool:=match a.k with|.struct _ _=>true|.array _ _=>true|_=>false
inductive xC where|none|box (n:Nat)|arr (n sz ty:Nat)|smap (n:Nat) (s:Bool)|siter (n:Nat)|keep|grow (n sz ty:Nat)
structure R where
 cond:Prop
 fact:Prop
 out:V
 wr:Option (Nat×Ob)
 new:Bool
def R.of(x:V):R:=⟨True,True,x,.none,false⟩
def R.ofIf(c:Prop)(x:V):R:=⟨c,True,x,.none,false⟩
def lR(b:ByteArray):List Nat:=b.data.toList.map UInt8.toNat
def abj:=@List.map_map
theorem Tf(b:ByteArray):(⟨((lR b).map UInt8.ofNat).toArray⟩:ByteArray)=b:=by
 cases b with
 |mk d=>
  simp only[lR,abj];have:(UInt8.ofNat ∘ UInt8.toNat)=id:=by funext x;simp
  rw[this];simp
def iy:=@List.mem_map
theorem Uf(b:ByteArray):∀x∈lR b,x<256:=by
 intro x a;obtain⟨y,_,rfl⟩:=iy.1 a;exact y.toNat_lt
def YO:Value->V|.int .i64 n=>.pv (.int n)|.bool b=>.pv (.bool b)|.pointer none=>.pv .nil|.slice none 0 0=>.pv .nils|.nilFunc=>.pv .nilfn|.nilIface=>.pv .nilif|.int .u32 n=>.pv (.num .u32 n)|.int .u8 n=>.pv (.num .u8 n)|.int .i32 n=>.pv (.num .i32 n)|.string b=>.pv (.str (lR b))|_=>.undef
def CY:PV->Option (List PV)|.agg a=>some a|.tuple _=>none|p=>some [p]
def AG:V->Option (List V)|.pv (.agg a)=>some (a.map .pv)|.pv (.tuple _)=>none|.agg a=>some a|.tuple _=>none|.undef=>none|x=>some [x]
def V.one:V->Bool|.pv (.agg _)=>false|.pv (.tuple _)=>false|.agg _=>false|.tuple _=>false|.undef=>false|_=>true
def V.un:V->Option PV|.pv p=>some p|_=>none
def KE:List V->Option (List PV)
 |[]=>some []|c::a=>match c.un,KE a with|some p,some a=>some (p::a)|_,_=>none
def BG:List (List V)->Option (List (List PV))
 |[]=>some []|e::a=>match KE e,BG a with|some p,some a=>some (p::a)|_,_=>none
def CA(a:List PV):List V:=a.map .pv
def vA(a:List (List PV)):List (List V):=a.map CA
theorem Vf(a:List PV):KE (CA a)=some a:=by
 induction a with|nil=>rfl|cons c a b=>grind[CA,KE,V.un]
def wL(a:List (List PV)):BG (vA a)=some a:=by
 induction a with|nil=>rfl|cons e a b=>grind[vA,BG,Vf]
def tH(a:List V):V:=match KE a with|some b=>.pv (.agg b)|none=>.agg a
def NI(agg:Bool)(n:Nat)(a:List V):Option V:=
 if agg then(if n<=a.length then some (tH (a.take n))else none)
 else match a with
  |c::_=>some c|[]=>none
def mR(agg:Bool)(n:Nat)(a:List PV):Option R:=
 if agg then some ⟨n<=a.length,True,.pv (.agg (a.take n)),.none,false⟩
 else match a with
  |c::_=>some (R.of (.pv c))|[]=>none
def oE(a:List V)(off:Nat)(b:List V):List V:=a.take off++b++a.drop (off+b.length)
def aH(b:List (Nat×Nat))(cells:List V):List (Nat×V)->Option (List V)
 |[]=>some cells|(i,x)::a=>match b[i]?,AG x with|some (off,size),some c=>if c.length=size/\off+size<=cells.length then aH b (oE cells off c) a else none|_,_=>none
def kL(s:Nat):Nat->Nat->List (Nat×Nat)|0,_=>[]|n+1,k=>(k*s,s)::kL s n (k+1)
def Rq(s:Nat):∀(n k i:Nat)(p:Nat×Nat),(kL s n k)[i]? =some p->p=((k+i)*s,s)
 :=by intro x;induction x<;>grind[kL]
def mN:Nat->List (Nat×V)->Option (List (List V))
 |_,[]=>some []|k,(i,x)::a=>if i=k then
   match AG x,mN (k+1) a with|some a,some b=>some (a::b)|_,_=>none
  else none
def ZO(a:List (List V)):V:=match BG a with|some b=>.pv (.slice b)|none=>.vsl a
def qP(x:Int):Prop:=-9223372036854775808<=x/\x<=9223372036854775807
def fC(b:Bool):Option R:=some (R.of (.pv (.bool b)))
def zP(k:TK)(x y:V)(c:Operand):Option Bool:=
 match k,x,y with
 |.bool,.pv (.bool a),.pv (.bool b)=>some (a==b)|.pointer,.pv .nil,.pv .nil=>some true|.pointer,.pv (.ptr _),.pv .nil=>some false|.pointer,.pv (.nptr _),.pv .nil=>some false|.pointer,.loc _ _,.pv .nil=>some false|.func,.pv .nilfn,.pv .nilfn=>some true|.func,.fn _ _,.pv .nilfn=>some false|.func,.bfn _ _,.pv .nilfn=>some false|.iface,.pv (.iface _ _),.pv .nilif=>some false|.iface,.pv .nilif,.pv (.iface _ _)=>some false|.iface,.pv .nilif,_=>match c with|.const .nilIface=>some true|_=>none
 |.slice _,.pv .nils,_=>match c with|.const (.slice none 0 0)=>some true|_=>none
 |.slice _,.pv (.slice (_::_)),_=>match c with|.const (.slice none 0 0)=>some false|_=>none
 |_,_,_=>none
def mU(op:BinOp)(a b:Int):Option R:=
 match op with|.add=>some (R.ofIf (qP (a+b)) (.pv (.int (a+b))))|.sub=>some (R.ofIf (qP (a-b)) (.pv (.int (a-b))))|.mul=>some (R.ofIf (qP (a*b)) (.pv (.int (a*b))))|.rem=>some (R.ofIf (b≠0) (.pv (.int (a.tmod b))))|.lss=>fC (decide (a<b))|.leq=>fC (decide (a<=b))|.gtr=>fC (decide (b<a))|.geq=>fC (decide (b<=a))|.eql=>fC (decide (a=b))|.neq=>fC (!decide (a=b))|_=>none
def RA(op:BinOp)(k:IntKind)(x y:Int):Int:=
 let a:=BitVec.ofInt k.bits x;let b:=BitVec.ofInt k.bits y
 match op with|.and=>k.wrap (a&&&b).toNat|.or=>k.wrap (a|||b).toNat|.andNot=>k.wrap (a&&& ~~~b).toNat|_=>0
def nU(op:BinOp)(k:IntKind)(a b:Int):Option R:=
 match op with|.add=>some (R.of (.pv (.num k (k.wrap (a+b)))))|.sub=>some (R.of (.pv (.num k (k.wrap (a-b)))))|.and=>some (R.of (.pv (.num k (RA .and k a b))))|.or=>some (R.of (.pv (.num k (RA .or k a b))))|.andNot=>some (R.of (.pv (.num k (RA .andNot k a b))))|.lss=>fC (decide (a<b))|.leq=>fC (decide (a<=b))|.gtr=>fC (decide (b<a))|.geq=>fC (decide (b<=a))|.eql=>fC (decide (a=b))|.neq=>fC (!decide (a=b))|_=>none
def pU(op:BinOp)(k:IntKind)(a n:Int):Option R:=
 match op with|.shl=>some (R.ofIf (0<=n) (.pv (.num k (k.wrap (a*2^(min n.toNat k.bits))))))|.shr=>some (R.ofIf (0<=n) (.pv (.num k (a.fdiv (2^(min n.toNat k.bits))))))|_=>none
def Wf(op:BinOp)(a b:List Nat):Option R:=match op with|.eql=>fC (tF a b)|.neq=>fC (!tF a b)|_=>none
def aak:=@List.map_congr_left
def Xf(l:List Nat)(a:∀b∈l,b<256):(l.map UInt8.ofNat).map UInt8.toNat=l:=by
 rw[abj]
 conv=>rhs;rw[<-List.map_id l]
 refine aak λb a=>?_
 simp_all
def Yf{x y:List Nat}(a:∀b∈x,b<256)(c:∀b∈y,b<256):(x.map UInt8.ofNat==y.map UInt8.ofNat)=tF x y:=by
 by_cases e:x=y
 ·subst e;rw[(dR x x).2 rfl];simp
 have d:tF x y=false:=by
  cases h:tF x y with|false=>rfl|true=>grind[absurd,dR]
 rw[d];refine beq_eq_false_iff_ne.2 λh=>e ?_
 rw[<-Xf x a,h,Xf y c]
def jP(k:TK)(op:BinOp)(x y:V)(c:Operand):Option R:=
 match x,y with
 |.pv (.int a),.pv (.int b)=>mU op a b|.pv (.num k a),.pv (.num d b)=>if k=d then nU op k a b else none|.pv (.num k a),.pv (.int n)=>pU op k a n|.pv (.str a),.pv (.str b)=>Wf op a b|x,y=>match op,zP k x y c with|.eql,some b=>fC b|.neq,some b=>fC (!b)|_,_=>none
def yL(x:V)(off:Nat):Option V:=
 match x with|.pv (.ptr a)=>some (.pv (.ptr (a.drop off)))|.pv (.nptr a)=>some (.pv (.nptr (a.drop off)))|.loc n o=>some (.loc n (o+off))|.eloc n a i o=>some (.eloc n a i (o+off))|_=>none
def nN(a:TI)(d:Nat->Option Ob)(x:V):Option R:=
 match x with
 |.pv (.ptr b)=>mR a.isAgg a.size b|.pv (.nptr b)=>mR a.isAgg a.size b|.loc n off=>match d n with|some (.box b)=>(NI a.isAgg a.size (b.drop off)).map R.of|_=>none
 |.eloc n c i off=>match d n with
  |some (.arr b _ _ d)=>match d[i]? with|some e=>(NI a.isAgg a.size (e.drop off)).map (R.ofIf (c=b))|none=>none
  |_=>none
 |_=>none
def pN(d:TI)(c:Nat->Option Ob)(x y:V):Option R:=
 match AG y with
 |none=>none|some a=>match x with
  |.loc n off=>match c n with|some (.box e)=>some ⟨a.length=d.size/\off+a.length<=e.length/\a.all V.one=true,True,.undef,some (n,.box (oE e off a)),false⟩|_=>none
  |.pv (.nptr (.flg p::_))=>match y with|.pv (.bool b)=>some ⟨d.size=1/\(b=true->p=true),True,.undef,none,false⟩|_=>none
  |.eloc n e i off=>match c n with|some (.arr c g h f)=>some ⟨e=c/\i<f.length/\a.length=d.size/\off+a.length<=g/\a.all V.one=true,True,.undef,some (n,.arr c g h (f.set i (oE (f.getD i []) off a))),false⟩|_=>none
  |_=>none
def rN(T:Nat->Option TI)(c:Nat->Option Ob)(t:Nat)(x i:V):Option R:=
 match i with
 |.pv (.int k)=>match T t with
  |some ⟨.slice e,_,_,_,_⟩=>match T e with
   |some d=>match x with
    |.pv (.slice a)=>some (R.ofIf (0<=k/\k<a.length/\∀y∈a,y.length=d.size) (.pv (.ptr (a.getD k.toNat []))))|.arr n b len=>match c n with|some (.arr c f _ a)=>some (R.ofIf (b=c/\0<=k/\k<len/\f=d.size/\len<=a.length) (.eloc n b k.toNat 0))|_=>none
    |_=>none
   |none=>none
  |some ⟨.array m e,_,_,_,_⟩=>match T e with|some d=>(yL x (k.toNat*d.size)).map (R.ofIf (0<=k/\k<m))|none=>none
  |_=>none
 |_=>none
def sN(b:Nat->Option Ob)(x:V):Option R:=
 match x with
 |.pv (.slice a)=>some ⟨True,a.length<=maxLen,.pv (.int a.length),.none,false⟩|.pv .nils=>some (R.of (.pv (.int 0)))|.gsl _ _ a=>some ⟨True,a.length<=maxLen,.pv (.int a.length),.none,false⟩|.arr n c len=>match b n with|some (.arr b _ _ a)=>some ⟨c=b,a.length<=maxLen,.pv (.int len),.none,false⟩|_=>none
 |_=>none
def uI(y:V):Option (List (List V)):=
 match y with|.pv (.slice a)=>some (vA a)|.pv .nils=>some []|.vsl a=>some a|_=>none
def OI(e:Nat)(d:TI)(j:Nat->Option Ob)(i:xC)(a:Operand)(x y:V):Option R:=
 match x with
 |.arr n f len=>match j n,uI y with
  |some (.arr g b h c),some a=>some ⟨f=g/\len<=c.length/\h=e/\b=d.size/\0<b/\(∀y∈a,y.length=b)/\(∀y∈a,y.all V.one=true)/\len+a.length<=maxLen/\(len+a.length)*d.bytes<=140737488355328,True,
    .arr n (f+1) (len+a.length),some (n,.arr (f+1) b h (c.take len++a)),false⟩
  |_,_=>none
 |.gsl n f _=>match j n with
  |some (.grow g b h c)=>match y with
   |.pv (.slice a)=>some ⟨(f=g/\h=e/\b=d.size/\0<b)/\(∀y∈a,y.length=b)/\(∀y∈vA a,y.all V.one=true)/\c.length+a.length<=maxLen/\(c.length+a.length)*d.bytes<=140737488355328,True,
     .gsl n (f+1) (c++a),some (n,.grow (f+1) b h (c++a)),false⟩
   |_=>none
  |_=>none
 |.fsl c=>match y with|.pv (.slice a)=>some ⟨(∀e∈c,e.length=d.size)/\(∀y∈a,y.length=d.size)/\0<d.size/\a≠[]/\c.length+a.length<=maxLen/\(c.length+a.length)*d.bytes<=140737488355328,True,.pv (.slice (c++a)),.none,false⟩|_=>none
 |.pv .nils=>match y,i with
   |.pv (.slice c),.none=>some ⟨(∀e∈c,e.length=d.size)/\0<d.size/\c.length*d.bytes<=140737488355328,True,.pv (.slice c),.none,false⟩|y,.arr n b h=>match uI y with
    |some a=>some ⟨h=e/\b=d.size/\0<b/\(∀y∈a,y.length=b)/\(∀y∈a,y.all V.one=true)/\a.length<=maxLen/\a.length*d.bytes<=140737488355328,True,
     .arr n 1 a.length,some (n,.arr 1 b h a),true⟩
    |none=>none
   |.pv (.slice a),.grow n b h=>some ⟨(h=e/\b=d.size/\0<b/\a≠[])/\(∀y∈a,y.length=b)/\(∀y∈vA a,y.all V.one=true)/\a.length<=maxLen/\a.length*d.bytes<=140737488355328,True,
     .gsl n 1 a,some (n,.grow 1 b h a),true⟩
   |_,_=>none
 |_=>none
def Sq{α:Type}{c:Bool}{a:Option α}{x:α}(h:(bif c then a else none)=some x):c=true/\a=some x:=by
 grind
def QJ:Option V->Bool|none=>true|some (.pv (.int 0))=>true|_=>false
def tN(b:TI)(c:Nat->Option Ob)(x:V)(f d e:Option V):Option R:=
 match x,f,d,e with
 |.pv (.slice a),some (.pv (.int l)),none,none=>some (R.ofIf (0<=l/\l<=a.length/\∀y∈a,y.length=b.size) (.pv (.slice (a.drop l.toNat))))|.pv (.slice a),none,some (.pv (.int h)),none=>some (R.ofIf (0<=h/\h<=a.length) (.pv (.slice (a.take h.toNat))))|.arr n b len,none,some (.pv (.int h)),none=>match c n with|some (.arr c _ _ _)=>some (R.ofIf (b=c/\0<=h/\h<=len) (.arr n b h.toNat))|_=>none
 |.pv (.slice a),none,some (.pv (.int h)),some (.pv (.int m))=>some (R.ofIf (h=a.length/\m=a.length) (.fsl a))|.pv .nils,f,d,e=>bif QJ f&&QJ d&&QJ e&&(!e.isSome||d.isSome)then some (R.of (.pv .nils))else none|_,_,_,_=>none
def uL(a:xC)(val:Operand->V)(x:Operand):Option R:=
 match a,x with|.arr n a b,.const (.slice none 0 0)=>some ⟨True,True,.arr n 0 0,some (n,.arr 0 a b []),true⟩|_,_=>some (R.of (val x))
def DY(e:Nat)(b:TI)(c:xC)(len:Nat)(a:List (List V)):Option R:=
 match c with|.arr n c d=>some ⟨(a.length=len/\len<=16777216/\len*b.size<=16777216/\∀e∈a,e.length=b.size)/\d=e/\c=b.size,True,.arr n 0 len,some (n,.arr 0 c d a),true⟩|_=>some (R.ofIf (a.length=len/\len<=16777216/\len*b.size<=16777216/\∀e∈a,e.length=b.size) (ZO a))
def vP:V->Option SK|.pv (.int n)=>some (.int n)|.pv (.str l)=>some (.str l)|_=>none
def VF:List (SK×V)->SK->Option V|[],_=>none|(k,x)::r,a=>bif SK.eqB a k then some x else VF r a
def xE:List (SK×V)->SK->V->List (SK×V)|[],a,x=>[(a,x)]|(k,y)::r,a,x=>bif SK.eqB a k then(a,x)::r else(k,y)::xE r a x
def RJ(s:Bool)(b:Nat->Option Ob)(m k v:V):Option R:=match m,vP k with
 |.map n,some a=>match b n with|some (.smap b c)=>some ⟨b=s/\a.kind=s,True,.undef,some (n,.smap b (xE c a v)),false⟩|_=>none
 |_,_=>none
def Zf:Value->Option PV|.int .i64 n=>some (.int n)|.bool b=>some (.bool b)|.pointer none=>some .nil|.nilFunc=>some .nilfn|.string b=>some (.str (lR b))|_=>none
def SJ(a:TI):Option PV:=match a.zero with|.agg _=>some (.agg a.zc)|z=>Zf z
def bL(s ok:Bool)(z:PV)(b:Nat->Option Ob)(m k:V):Option R:=match m,vP k with
 |.map n,some a=>match b n with
  |some (.smap b c)=>some ⟨b=s/\a.kind=s,True,(match VF c a,ok with
   |some x,true=>.tuple [x,.pv (.bool true)]|none,true=>.pv (.tuple [z,.bool false])|some x,false=>x|none,false=>.pv z),.none,false⟩
  |_=>none
 |_,_=>none
def nR(a:Nat->Option Ob)(x:V):Option R:=
 match x with
 |.map n=>match a n with|some (.smap _ a)=>some (R.of (.pv (.int a.length)))|_=>none
 |_=>none
def rU(a:TI)(t:Nat)(ok:Bool)(x:V):Option R:=match x with
 |.pv (.iface b p)=>if b=t then(match ok with
   |true=>some (R.of (.pv (.tuple [p,.bool true])))|false=>some (R.of (.pv p)))
  else(match ok,SJ a with
   |true,some z=>some (R.of (.pv (.tuple [z,.bool false])))|_,_=>none)
 |.pv .nilif=>match ok,SJ a with|true,some z=>some (R.of (.pv (.tuple [z,.bool false])))|_,_=>none
 |_=>none
def EY(a:xC)(x:V):Option R:=match a,x with|.siter n,.pv (.str l)=>some ⟨True,True,.loc n 0,some (n,.siter l 0),true⟩|_,_=>none
def wP(a:Nat->Option Ob)(x:V):Option R:=match x with
 |.loc n 0=>match a n with
  |some (.siter l p)=>match l[p]? with|some b=>some ⟨b<128,True,.pv (.tuple [.bool true,.int p,.num .i32 b]),some (n,.siter l (p+1)),false⟩|none=>some (R.of (.pv (.tuple [.bool false])))
  |_=>none
 |_=>none
def TJ:List (List PV)->Option (List Nat)
 |[]=>some []|[.num .u8 (.ofNat b)]::r=>bif Nat.blt b 256 then(match TJ r with
  |some l=>some (b::l)|none=>none)else none
 |_=>none
def FY(x:V):Option R:=match x with|.pv (.str l)=>some (R.of (.pv (.int l.length)))|_=>none
def GY(x i:V):Option R:=match x,i with|.pv (.str l),.pv (.int k)=>some (R.ofIf (0<=k/\k<l.length) (.pv (.num .u8 (l.getD k.toNat 0))))|_,_=>none
def UJ(d:Int)(x:Option V):Option Int:=match x with|none=>some d|some (.pv (.int k))=>some k|_=>none
def sU(x:V)(c d e:Option V):Option R:=match x,e with
 |.pv (.str l),none=>match UJ 0 c,UJ l.length d with|some a,some b=>some (R.ofIf (0<=a/\a<=b/\b<=l.length) (.pv (.str ((l.drop a.toNat).take (b-a).toNat))))|_,_=>none
 |_,_=>none
def gA(T:Nat->Option TI)(g:xC)(val:Operand->V)(r:Nat->Option Ob)(i:Option Nat)(op:Op):Option R:=
 match op with
 |.move x=>uL g val x|.assign x=>uL g val x|.pick c a b=>match val c,val a,val b with|.pv (.bool c),.pv (.bool a),.pv (.bool b)=>fC (bif c then a else b)|.pv (.bool true),a,_=>some (R.of a)|.pv (.bool false),_,b=>some (R.of b)|_,_,_=>none
 |.alloc t=>match T t,g,i with|some j,.box n,_=>some ⟨True,True,.loc n 0,some (n,.box (CA j.zc)),true⟩|some j,_,some d=>some ⟨True,True,.loc d 0,some (d,.box (CA j.zc)),true⟩|_,_,_=>none
 |.box _ x=>match g with
  |.box n=>match AG (val x)with|some h=>if h.all V.one=true then some ⟨True,True,.loc n 0,some (n,.box h),true⟩else none|none=>none
  |_=>match val x with
   |.pv p=>match CY p with|some h=>some (R.of (.pv (.ptr h)))|none=>none
   |_=>none
 |.build t parts=>match T t with
  |some ⟨.struct w _,_,_,_,l⟩=>(aH w (CA l) (parts.toList.map λp=>(p.1,val p.2))).map (λh=>R.of (tH h))|some ⟨.array m e,_,_,_,l⟩=>match T e with|some u=>(aH (kL u.size m 0) (CA l) (parts.toList.map λp=>(p.1,val p.2))).map (λh=>R.of (tH h))|none=>none
  |_=>none
 |.makeFunc (.func f) first l=>if first.size=0 then some (R.of (.fn f (l.toList.map val)))else if l.size=0 then some (R.of (.bfn f (first.toList.map val)))else none
 |.typeAssert x _ t ok=>match T t with|some j=>if j.k.isIface=true then none else rU j t ok (val x)|none=>none
 |.makeMap _ none=>match g with|.smap n s=>some ⟨True,True,.map n,some (n,.smap s []),true⟩|_=>none
 |.mapUpdate t m k v=>match i,T t with|none,some ⟨.smap _ _ s,_,_,_,_⟩=>RJ s r (val m) (val k) (val v)|_,_=>none
 |.insert t m k v=>match i,T t with|none,some ⟨.smap _ _ s,_,_,_,_⟩=>RJ s r (val m) (val k) (val v)|_,_=>none
 |.lookup t m k ok=>match T t with
  |some ⟨.smap _ l s,_,_,_,_⟩=>match T l with
   |some l=>match SJ l with|some z=>bL s ok z r (val m) (val k)|none=>none
   |_=>none
  |_=>none
 |.buildSlice t len parts=>match T t with
  |some ⟨.slice e,_,_,_,_⟩=>match T e with
   |some u=>match mN 0 (parts.toList.map λp=>(p.1,val p.2))with|some l=>DY e u g len l|none=>none
   |none=>none
  |_=>none
 |.load t x=>match T t with|some j=>nN j r (val x)|none=>none
 |.store t x y=>match i,T t with|none,some j=>pN j r (val x) (val y)|_,_=>none
 |.nilCheck x=>match val x with|.pv (.ptr h)=>some (R.of (.pv (.ptr h)))|.pv (.nptr h)=>some (R.of (.pv (.nptr h)))|.loc n off=>some (R.of (.loc n off))|.eloc n v i o=>some (R.of (.eloc n v i o))|_=>none
 |.binOp b t x y _=>match T t with|some j=>jP j.k b (val x) (val y) y|none=>none
 |.unOp .not _ x=>match val x with|.pv (.bool b)=>fC (!b)|_=>none
 |.convert s t x=>match T s,T t,val x with
  |some _,some ⟨.num k,_,_,_,_⟩,.pv (.num _ n)=>some (R.of (.pv (.num k (k.wrap n))))|some _,some ⟨.num k,_,_,_,_⟩,.pv (.int n)=>some (R.of (.pv (.num k (k.wrap n))))|some _,some ⟨.int,_,_,_,_⟩,.pv (.num _ n)=>some (R.of (.pv (.int (IntKind.i64.wrap n))))|some _,some ⟨.int,_,_,_,_⟩,.pv (.int n)=>some (R.of (.pv (.int (IntKind.i64.wrap n))))|some ⟨.slice e,_,_,_,_⟩,some ⟨.str,_,_,_,_⟩,.pv (.slice l)=>match T e,TJ l with|some ⟨.num .u8,_,_,_,_⟩,some (b::l)=>some (R.of (.pv (.str (b::l))))|_,_=>none
  |_,_,_=>none
 |.makeInterface t x=>match T t,val x with|some j,.pv p=>bif j.k.isIface then none else some (R.of (.pv (.iface t p)))|_,_=>none
 |.field t x f=>match T t with
  |some ⟨.struct w pl,_,_,_,_⟩=>bif pl.elem f then(match w[f]? with
    |some (off,_)=>(match val x with
     |.pv (.agg h)=>(h[off]?).map (λc=>R.of (.pv c))|.agg h=>(h[off]?).map R.of|_=>none)
    |none=>none)else none
  |_=>none
 |.fieldAddr t x f=>match T t with
  |some ⟨.struct w _,_,_,_,_⟩=>match w[f]? with|some (off,size)=>if size=0 then none else(yL (val x) off).map R.of|none=>none
  |_=>none
 |.indexAddr t x i=>rN T r t (val x) (val i)|.range t x=>match T t with|some ⟨.str,_,_,_,_⟩=>EY g (val x)|_=>none
 |.next x true=>wP r (val x)|.index t x i=>match T t with|some ⟨.str,_,_,_,_⟩=>GY (val x) (val i)|_=>none
 |.extract x i=>match val x with|.pv (.tuple h)=>(h[i]?).map (λc=>R.of (.pv c))|.tuple h=>(h[i]?).map R.of|_=>none
 |.slice t x h i j=>match T t with
  |some ⟨.slice e,_,_,_,_⟩=>match T e with|some u=>tN u r (val x) (h.map val) (i.map val) (j.map val)|none=>none
  |some ⟨.str,_,_,_,_⟩=>sU (val x) (h.map val) (i.map val) (j.map val)|_=>none
 |.call {callee:=.builtin .len,args,argTypes}=>match argTypes.toList,args.toList with
  |[t],[x]=>match T t with|some ⟨.slice _,_,_,_,_⟩=>sN r (val x)|some ⟨.smap _ _ _,_,_,_,_⟩=>nR r (val x)|some ⟨.str,_,_,_,_⟩=>FY (val x)|_=>none
  |_,_=>none
 |.call {callee:=.builtin .append,args,argTypes}=>match argTypes.toList,args.toList with
  |[t,h],[x,y]=>if t=h then
    match T t with
    |some ⟨.slice e,_,_,_,_⟩=>match T e with|some u=>OI e u r g x (val x) (val y)|none=>none
    |_=>none
   else none
  |_,_=>none
 |.call {callee:=.builtin .max,args,argTypes:=_}=>match args.toList with
  |[x,y]=>match val x,val y with|.pv (.int a),.pv (.int b)=>some (R.of (.pv (.int (if b>a then b else a))))|_,_=>none
  |_=>none
 |_=>none
def St.val(a:Nat->Option (List PV))(σ:St):Operand->V
 |.tmp t=>OA σ.slots t|.const v=>YO v|.func f=>.fn f []|.global g=>match a g with|some a=>.pv (.ptr a)|none=>.undef
def GOK(b:Nat->Option (List PV))(H:Hp):Prop:=∀g a,b g=some a->RepL H a (H g)
def GOK.mono{a:Nat->Option (List PV)}{H b:Hp}(h:GOK a H)(c:Hle H b):GOK a b:=
 λg a e=>RepL.mono c a _ _ (c g) (h g a e)
def Tq(E:Env)(v:Value):RepV E (YO v) v:=by
 unfold YO;split<;>first|(done)|grind[RepV,RepP,Tf,Uf]
def Uq(v:Value):(YO v).names=[]:=by
 unfold YO;split<;>simp[V.names]
section
variable{C:Ctx}{E:Env}{σ:St}{a:Act}{w:World}{gl:Nat->Option (List PV)}
theorem UA(h:Ga C E σ a w)(b:GOK gl C.E0.H)(x:Operand):RepV E (σ.val gl x) (a.eval x):=by
 cases x with
 |tmp t=>exact h.slots t|const v=>exact Tq E v|func f=>exact⟨[],by rfl,rfl,by simp[RepVL]⟩|global g=>
  simp only[St.val,Act.eval];split
  ·rename_i c e;exact⟨g,0,rfl,by simpa using (b.mono h.hle) g c e⟩
  simp[RepV]
theorem TC(h:Ga C E σ a w)(x:Operand):∀n∈(σ.val gl x).names,n∈σ.used:=by
 cases x with
 |tmp t=>exact h.usedS t|const v=>simp[St.val,Uq]|func f=>simp[St.val,V.names,GA]|global g=>
  grind[St.val,V.names]
end
def RepL.take{H:Hp}:∀{a:List PV}{b:List Value}(n:Nat),RepL H a b->RepL H (a.take n) (b.take n)
 |a,b,0,_=>by simp[RepL]|[],b,n+1,_=>by simp[RepL]|c::a,[],n+1,r=>by grind[RepL]|c::a,v::b,n+1,r=>by
  exact⟨r.1,RepL.take n r.2⟩
theorem RepL.drop{H:Hp}:∀{a:List PV}{b:List Value}(n:Nat),RepL H a b->RepL H (a.drop n) (b.drop n)
 |a,b,0,r=>by simp_all|[],b,n+1,_=>by simp[RepL]|c::a,[],n+1,r=>by grind[RepL]|c::a,v::b,n+1,r=>by
  simpa using RepL.drop n r.2
theorem RepK.drop{H:Hp}:∀{a:List PV}{b:List Value}(n:Nat),RepK H a b->RepK H (a.drop n) (b.drop n)|a,b,0,r=>by simp_all|[],b,n+1,_=>by simp[RepK]|c::a,[],n+1,r=>by grind[RepK]|c::a,v::b,n+1,r=>by simpa using RepK.drop n r.uncons.2
def RepVL.take{E:Env}:∀{a:List V}{b:List Value}(n:Nat),RepVL E a b->RepVL E (a.take n) (b.take n)
 |a,b,0,_=>by simp[RepVL]|[],b,n+1,_=>by simp[RepVL]|c::a,[],n+1,r=>by grind[RepVL]|c::a,v::b,n+1,r=>by
  exact⟨r.1,RepVL.take n r.2⟩
theorem RepVL.drop{E:Env}:∀{a:List V}{b:List Value}(n:Nat),RepVL E a b->RepVL E (a.drop n) (b.drop n)
 |a,b,0,r=>by simp_all|[],b,n+1,_=>by simp[RepVL]|c::a,[],n+1,r=>by grind[RepVL]|c::a,v::b,n+1,r=>by
  simpa using RepVL.drop n r.2
def RepVL.append{E:Env}:∀{d a:List V}{e b:List Value},d.length=e.length->RepVL E d e->RepVL E a b->RepVL E (d++a) (e++b)
 |[],a,[],b,_,_,r=>by simpa using r|[],a,_::_,b,h,_,_=>by simp at h|c::d,a,[],b,h,_,_=>by simp at h|c::d,a,v::e,b,h,r,f=>by
  exact⟨r.1,RepVL.append (by simpa using h) r.2 f⟩
theorem RepVL.ofPv{E:Env}:∀{a:List PV}{b:List Value},RepL E.H a b->RepVL E (CA a) b
 |[],_,_=>by simp[CA,RepVL]|c::a,[],r=>by grind[RepL]|c::a,v::b,r=>by
  exact⟨r.1,RepVL.ofPv r.2⟩
theorem RepVL.toPv{E:Env}:∀{b:List V}{a:List PV}{d:List Value},KE b=some a->RepVL E b d->RepL E.H a d
 |[],a,_,h,_=>by grind[KE,RepL]|c::b,a,[],h,r=>by grind[RepVL]|c::b,a,v::d,h,r=>by
  simp only[KE]at h;split at h
  ·rename_i p g e f;cases h;refine⟨?_,RepVL.toPv f r.2⟩;cases c<;>simp[V.un]at e;subst e;simpa[RepV]using r.1
  cases h
theorem tU:∀{b:List V}{a:List PV},KE b=some a->a.length=b.length
 |[],a,h=>by grind[KE]|c::b,a,h=>by
  simp only[KE]at h;split at h
  ·rename_i p e f d;cases h;simp[tU d]
  cases h
def aU{E:Env}{a:List V}{vs:List Value}(b:vs.length=a.length)(r:RepVL E a vs):RepV E (tH a) (.agg vs.toArray):=by
 unfold tH;split
 ·rename_i c e;exact⟨vs,rfl,by rw[b,tU e],RepVL.toPv e r⟩
 exact⟨vs,rfl,b,r⟩
theorem pR(a:List PV):GA (CA a)=[]:=by
 induction a with|nil=>rfl|cons c a b=>grind[CA,GA,V.names]
theorem Vq(a:List (List PV)):fB (vA a)=[]:=by
 induction a with|nil=>rfl|cons c b d=>grind[vA,fB,pR]
theorem RepVE.toPv{E:Env}:∀{a:List (List V)}{b:List (List PV)}{c:List Value},BG a=some b->RepVE E a c->RepE E.H b c
 :=by intro x;induction x<;>grind[BG,RepE,RepVE,RepVL.toPv,tU]
def qg:∀{b:List (List V)}{a:List (List PV)},BG b=some a->a.length=b.length
 |[],a,h=>by grind[BG]|e::b,a,h=>by
  simp only[BG]at h;split at h
  ·rename_i p d f c;cases h;simp[qg c]
  cases h
def Wq{E:Env}{a:List (List V)}{b cap:Nat}(d:a.length<=cap)(f:a.length<=maxLen)(r:RepVE E a (E.H b)):RepV E (ZO a) (.slice (some ⟨b,0,none⟩) a.length cap):=by
 unfold ZO;split
 ·rename_i g e;have c:=qg e;exact⟨_,cap,by rw[c],a6,a6,.inr ⟨b,0,rfl,by grind[RepVE.toPv]⟩⟩
 grind[RepV]
def Xq(a:List (List V)):∀n∈(ZO a).names,n∈fB a:=by
 grind[ZO,V.names]
theorem cU(a:List V):∀n∈(tH a).names,n∈GA a:=by
 grind[tH,V.names]
def mem_namesL{a:List V}{n:Nat}:n∈GA a↔∃c∈a,n∈c.names:=by
 induction a with|nil=>simp[GA]|cons c a b=>simp[GA,b]
def mem_namesE{a:List (List V)}{n:Nat}:n∈fB a↔∃e∈a,n∈GA e:=by
 induction a with|nil=>simp[fB]|cons c d b=>simp[fB,b]
section
variable{P:Program}{t:Nat}{ti:TI}
def TIOK.run_size(h:TIOK P t ti)(w:World):(sizeOf t).run P w=.ok ti.size w:=by
 have⟨i,a,b,_⟩:=h.info;simp[sizeOf,typeInfo,a,b]
def TIOK.run_zero(h:TIOK P t ti)(w:World):(zeroValue t).run P w=.ok ti.zero w:=by
 have⟨i,a,_,_,b⟩:=h.info;simp[zeroValue,typeInfo,a,b]
def fx:=@run_underlying
def TIOK.run_agg(h:TIOK P t ti)(w:World):(isAgg t).run P w=.ok ti.isAgg w:=by
 have⟨d,b,a⟩:=h.desc;unfold TI.isAgg;cases c:ti.k<;>rw[c]at a<;>simp only[yD]at a
 ·cases d<;>simp_all[isAgg,fx b]
 ·subst a;simp[isAgg,fx b]
 ·obtain⟨e,rfl⟩:=a;simp[isAgg,fx b]
 ·obtain⟨p,r,v,rfl⟩:=a;simp[isAgg,fx b]
 ·obtain⟨f,rfl,_⟩:=a;simp[isAgg,fx b]
 ·subst a;simp[isAgg,fx b]
 ·subst a;simp[isAgg,fx b]
 ·obtain⟨rfl,_⟩:=a;simp[isAgg,fx b]
 ·subst a;simp[isAgg,fx b]
 ·subst a;simp[isAgg,fx b]
 ·obtain⟨g,rfl⟩:=a;simp[isAgg,fx b]
 obtain⟨rfl,_⟩:=a;simp[isAgg,fx b]
theorem HY{w:World}{b off:Nat}{c:Array Value}{T:Nat}{a:Nat×Nat}(h:w.heap[b]? =some (.cells c T a))(j:Nat):
  w.cell? ((⟨b,off,none⟩:Addr).add j)=c[off+j]?:=by
 unfold Addr.add;split
 ·rename_i e;subst e;simp[World.cell?,h]
 simp[World.cell?,h]
def a9{p:Prop}(h:p:=by simp;omega):=h
theorem rR(d:TIOK P t ti)(f:ti.isAgg=true){w:World}{b off:Nat}{c:Array Value}{T:Nat}{a:Nat×Nat}
  (h:w.heap[b]? =some (.cells c T a)) (a:off+ti.size<=c.size):
  (Instr.loadAt t (.pointer (some ⟨b,off,none⟩))).run P w=.ok (.agg ((c.toList.drop off).take ti.size).toArray) w:=by
 have e:=run_loadCells_list (P:=P) w ⟨b,off,none⟩ ((c.toList.drop off).take ti.size) (by
  grind[HY])
 have a:((c.toList.drop off).take ti.size).length=ti.size:=a9
 rw[a]at e;simp[Instr.loadAt,Instr.sureAddr,loadVar,d.run_agg,f,d.run_size,e]
theorem sR(a:TIOK P t ti)(d:ti.isAgg=false){w:World}{b off:Nat}{c:Array Value}{T:Nat}{e:Nat×Nat}{v:Value}
  (h:w.heap[b]? =some (.cells c T e)) (e:c[off]? =some v):
  (Instr.loadAt t (.pointer (some ⟨b,off,none⟩))).run P w=.ok v w:=by
 have f:w.cell? ⟨b,off,none⟩=some v:=by simp[World.cell?,h,e]
 simp[Instr.loadAt,Instr.sureAddr,loadVar,a.run_agg,d,f]
end
def OpRes(P:Program)(o:Oper)(a:Act)(w:World)(v:Value)(w':World):Prop:=
 (execOp a.eval o).run P w=.ok (.value v) w'\/((execOp a.eval o).run P w=.ok .skip w'/\v=undef)
def OpRes.wp{P:Program}{o:Oper}{a:Act}{w w':World}{v:Value}(h:OpRes P o a w v w'){K:Act->World->Prop}{Q:Exit->Act->World->Prop}
  (b:K (a.put o.dst v) w'):o.wp P a w K Q:=by
 unfold Oper.wp;rcases h with h|⟨h,rfl⟩
 ·rw[h];exact b
 rw[h];exact b
def St.app(σ:St)(a:Option Nat)(r:R):St:=
 ⟨cD a r.out σ.slots,
  match r.wr with|some (n,o)=>HB σ.objs n o|none=>σ.objs,
  match r.wr,r.new with|some (n,_),true=>n::σ.used|_,_=>σ.used⟩
def Sound(P:Program)(C:Ctx)(E:Env)(σ:St)(a:Act)(w:World)(o:Oper)(r:R):Prop:=
 ∃v b c,OpRes P o a w v b/\Ga C c (σ.app o.dst r) (a.put o.dst v) b/\r.fact
section
variable{P:Program}{C:Ctx}{E:Env}{σ:St}{a:Act}{w:World}{gl:Nat->Option (List PV)}{o:Oper}{T:Nat->Option TI}{note:xC}{ob:Nat->Option Ob}
def e6:=@Nat.le_refl
def Sound.pure(h:Ga C E σ a w){v:Value}{c f:Prop}{x:V}{b:Bool}(e:OpRes P o a w v w)(g:RepV E x v)(i:∀n∈x.names,n∈σ.used)
  (j:∀d,o.dst=some d->d<C.nt) (k:f):Sound P C E σ a w o ⟨c,f,x,none,b⟩:=
 ⟨v,w,E,e,h.pure E.H o.dst x v (Hle.refl _) (e6 _) ⟨rfl,rfl,rfl⟩ (λ_ _=>⟨rfl,rfl⟩) h.heap g i j,k⟩
def Yq(h:Ga C E σ a w)(c:GOK gl C.E0.H)(e:∀d,o.dst=some d->d<C.nt){x:Operand}(b:o.op=.move x\/o.op=.assign x):
  Sound P C E σ a w o (R.of (σ.val gl x)):=by
 refine Sound.pure h (v:=a.eval x) (.inl ?_) (UA h c x) (TC h x) e trivial;rcases b with b|b<;>simp[execOp,b]
def cH{E:Env}{b:Bool}{v:Value}(h:RepV E (.pv (.bool b)) v):v=.bool b:=by grind[RepV,RepP]
def CG{E:Env}{n:Int}{v:Value}(h:RepV E (.pv (.int n)) v):v=.int .i64 n:=by grind[RepV,RepP]
def tR(h:Ga C E σ a w)(c:∀d,o.dst=some d->d<C.nt){b:Bool}(e:OpRes P o a w (.bool b) w):Sound P C E σ a w o (R.of (.pv (.bool b))):=
 Sound.pure h e (by rfl) b0 c trivial
theorem kP(h:Ga C E σ a w)(e:∀d,o.dst=some d->d<C.nt){n:Int}{c f:Prop}{b:Bool}(g:OpRes P o a w (.int .i64 n) w)(i:f):Sound P C E σ a w o ⟨c,f,.pv (.int n),none,b⟩:=
 Sound.pure h g (by rfl) b0 e i
def e5:=@Option.some.injEq
theorem Zq(h:Ga C E σ a w)(j:GOK gl C.E0.H)(k:∀d,o.dst=some d->d<C.nt){c x y:Operand}(l:o.op=.pick c x y){r:R}
  (e:gA T note (σ.val gl) ob o.dst (.pick c x y)=some r):Sound P C E σ a w o r:=by
 have b:=UA h j c;have f:=UA h j x;have g:=UA h j y;have m:=TC (gl:=gl) h x;have n:=TC (gl:=gl) h y;simp only[gA]at e;split at e
 ·rename_i p u v i s t;rw[i]at b;rw[s]at f;rw[t]at g;have b:=cH b;have f:=cH f;have g:=cH g;simp only[fC,e5]at e;subst e;refine tR h k (.inl ?_);cases p<;>simp[execOp,l,b,f,g,asBool]
 ·rename_i i _;rw[i]at b;have b:=cH b;simp only[e5]at e;subst e;refine Sound.pure h (v:=a.eval x) (.inl ?_) f m k trivial;simp[execOp,l,b,asBool]
 ·rename_i i _;rw[i]at b;have b:=cH b;simp only[e5]at e;subst e;refine Sound.pure h (v:=a.eval y) (.inl ?_) g n k trivial;simp[execOp,l,b,asBool]
 cases e
theorem zr(h:Ga C E σ a w)(g:GOK gl C.E0.H)(i:∀d,o.dst=some d->d<C.nt){t:Nat}{x:Operand}(j:o.op=.unOp .not t x){r:R}
  (c:gA T note (σ.val gl) ob o.dst (.unOp .not t x)=some r):Sound P C E σ a w o r:=by
 have f:=UA h g x;simp only[gA]at c;split at c
 ·rename_i b e;rw[e]at f;have f:=cH f;simp only[fC,e5]at c;subst c;refine tR h i (.inl ?_);simp[execOp,j,f,Op.unary]
 cases c
def gp:=@cond_false
theorem jr(h:Ga C E σ a w)(g:GOK gl C.E0.H)(i:∀d,o.dst=some d->d<C.nt){t:Nat}{x:Operand}(j:o.op=.makeInterface t x){r:R}
  (k:KB P T) (b:gA T note (σ.val gl) ob o.dst (.makeInterface t x)=some r):Sound P C E σ a w o r:=by
 have n:=UA h g x;simp only[gA]at b;split at b
 ·rename_i l p m e
  cases c:l.k.isIface with
  |true=>rw[c]at b;cases b
  |false=>
  rw[c]at b;simp only[gp,e5]at b;subst b;have f:∀v,(Instr.makeInterface t v).run P w=.ok (.iface t v) w:=λv=>run_makeInterface (P:=P) w t v ((k t _ m).conc.resolve_left (by rw[c];simp))
  refine Sound.pure h (v:=.iface t (a.eval x)) (.inl ?_) ?_ b0 i trivial
  ·simp[execOp,j,f]
  grind[RepV,RepP]
 cases b
def IY{P:Program}{t:Nat}{c:TI}(h:TIOK P t c){z:PV}(b:SJ c=some z)(H:Hp):RepP H z c.zero:=by
 unfold SJ at b;split at b
 ·rename_i f g;cases b;have d:=h.zcells;have e:=h.zlen;have i:=h.zc;rw[g]at d e⊢;simp only[Value.cells]at d e;refine⟨f.toList,a8,?_,RepL.mono (λ_=>List.nil_prefix) _ _ _ ie d⟩;simp;omega
 unfold Zf at b
 all_goals
  first|(done)|grind[RepP,Tf,Uf]
def gW:=@Result.andThen_ok
def hU:=@Sem.run_bind
theorem vr(h:Ga C E σ a w)(I:GOK gl C.E0.H)(J:∀d,o.dst=some d->d<C.nt)(K:KB P T){x:Operand}{n t:Nat}{b:Bool}(L:o.op=.typeAssert x n t b){r:R}
  (f:gA T note (σ.val gl) ob o.dst (.typeAssert x n t b)=some r):Sound P C E σ a w o r:=by
 have l:=UA h I x;simp only[gA]at f;split at f
 ·rename_i s M;split at f
  ·cases f
  rename_i N;have g:=K t s M;have⟨d,i,_⟩:=g.desc;have j:P.concrete t=true:=by
   rcases g.conc with h|h
   ·simp_all
   exact h
  have k:∀B,d≠.interface B:=by
   intro B e;subst e;simp[Program.concrete,i]at j
  have D:∀(v:Value)(p:PV),RepP E.H p v->(Instr.typeAssert (a.eval x) n t b).run P w=.ok v w->Sound P C E σ a w o (R.of (.pv p)):=by
   intro v p F O;refine Sound.pure h (v:=v) (.inl ?_) (by grind[R.of,RepV]) b0 J trivial;simp only[execOp,L,hU,O,gW];rfl
  have m:∀(v:Value)(p:PV)(c:Bool),RepP E.H p v->RepP E.H (.tuple [p,.bool c]) (.tuple #[v,.bool c]):=by
   intro v p c F;rw[RepP];exact⟨[v,.bool c],rfl,rfl,by rw[RepL,RepL,RepL];exact⟨F,by simp[RepP],trivial⟩⟩
  unfold rU at f;split at f
  ·rename_i G p e;rw[e]at l;simp only[RepV,RepP]at l;have⟨u,Q,U⟩:=l;split at f
   ·rename_i S;subst S;have H:∀c,(Instr.typeAssert (.iface G u) n G c).run P w=.ok (if c then .tuple #[u,.bool true]else u) w:=by
     intro c;unfold Instr.typeAssert;simp only[hU,fx i,gW];cases d<;>first|exact absurd rfl (k _)|(cases c<;>simp)
    grind
   rename_i y;split at f
   ·rename_i z A;cases f;refine D _ _ (m s.zero z false (IY g A E.H)) ?_;rw[Q];unfold Instr.typeAssert;simp only[hU,fx i,gW];cases d<;>first|exact absurd rfl (k _)|simp[y,g.run_zero]
   cases f
  ·rename_i e;rw[e]at l;simp only[RepV,RepP]at l;split at f
   ·rename_i z A;cases f;refine D _ _ (m s.zero z false (IY g A E.H)) ?_;rw[l];unfold Instr.typeAssert;simp only[hU,fx i,gW];cases d<;>first|exact absurd rfl (k _)|simp[g.run_zero]
   cases f
  cases f
 cases f
theorem kr(h:Ga C E σ a w)(b:GOK gl C.E0.H)(c:∀d,o.dst=some d->d<C.nt){x:Operand}(f:o.op=.nilCheck x){r:R}
  (g:gA T note (σ.val gl) ob o.dst (.nilCheck x)=some r):Sound P C E σ a w o r:=by
 have i:=UA h b x;have j:=TC (gl:=gl) h x;simp only[gA]at g;have key:∀b:Addr,a.eval x=.pointer (some b)->Sound P C E σ a w o (R.of (σ.val gl x)):=by
  intro b e;refine Sound.pure h (v:=a.eval x) (.inl ?_) i j c trivial;simp[execOp,f,e]
 grind[Option.some.injEq,RepV,RepP]
end
section
variable{P:Program}{C:Ctx}{E:Env}{σ:St}{a:Act}{w:World}{gl:Nat->Option (List PV)}{o:Oper}{T:Nat->Option TI}{note:xC}{ob:Nat->Option Ob}
def JY{x:Int}(h:qP x):IntKind.i64.wrap x=x:=IntWalk.i64_in x (by have⟨b,c⟩:=h;omega)
def yr{b:BinOp}{t:Nat}{x y:Operand}{u v:Value}(d:∀c,u≠.agg c)(e:u≠.nilIface\/(v=.nilIface/\∃c,y=.const c)\/∃t x,v=.iface t x):(eqGuard b t x y u v).run P w=.ok () w:=by
 rcases e with e|⟨f,c,g⟩|⟨h,i,f⟩
 case inr.inr=>
  subst f;cases u<;>first|exact absurd rfl (d _)|skip
  all_goals
   cases b<;>first|rfl|simp
 case inr.inl=>
  subst f g;cases u<;>first|exact absurd rfl (d _)|skip
  all_goals
   unfold eqGuard;cases b<;>first|rfl|simp
 cases u<;>first|exact absurd rfl (d _)|exact absurd rfl e|skip
 all_goals
  cases b<;>rfl
def yP{b:BinOp}{t d:Nat}{x y:Operand}(e:o.op=.binOp b t x y d){v:Value}
  (h:(binOp b t (a.eval x) (a.eval y)).run P w=.ok v w) (d:∀c,a.eval x≠.agg c) (f:a.eval x≠.nilIface\/(a.eval y=.nilIface/\∃c,y=.const c)\/∃t x,a.eval y=.iface t x):OpRes P o a w v w:=by
 refine .inl ?_;have g:=yr (P:=P) (w:=w) (b:=b) (t:=t) (x:=x) (y:=y) (v:=a.eval y) d f;simp[execOp,e,g,h]
def WF{t:Nat}{x y:Value}{b:Bool}(h:∀d,(Op.equalIn (d+1) t x y).run P w=.ok b w):(Op.equal t x y).run P w=.ok b w:=by
 exact h 9999
def ur{op:BinOp}{x y:Int}{r:R}(c:mU op x y=some r)(b:r.cond)(t:Nat):
  ∃v,(binOp op t (.int .i64 x) (.int .i64 y)).run P w=.ok v w/\RepV E r.out v/\r.out.names=[]/\r.wr=none/\r.fact:=by
 cases op<;>simp only[mU,fC,e5,reduceCtorEq]at c<;>subst c
 ·exact⟨.int .i64 (x+y),by simp[binOp,Op.intArith,JY b],by rfl,rfl,rfl,trivial⟩
 ·exact⟨.int .i64 (x-y),by simp[binOp,Op.intArith,JY b],by rfl,rfl,rfl,trivial⟩
 ·exact⟨.int .i64 (x*y),by simp[binOp,Op.intArith,JY b],by rfl,rfl,rfl,trivial⟩
 ·have b:y≠0:=b;exact⟨.int .i64 (x.tmod y),by simp[binOp,Op.intDiv,b],by rfl,rfl,rfl,trivial⟩
 ·exact⟨.bool (decide (x=y)),by rfl,by rfl,rfl,rfl,trivial⟩
 ·exact⟨.bool (!decide (x=y)),by rfl,by rfl,rfl,rfl,trivial⟩
 ·exact⟨.bool (decide (x<y)),by rfl,by rfl,rfl,rfl,trivial⟩
 ·exact⟨.bool (decide (x<=y)),by rfl,by rfl,rfl,rfl,trivial⟩
 ·exact⟨.bool (decide (y<x)),by rfl,by rfl,rfl,rfl,trivial⟩
 exact⟨.bool (decide (y<=x)),by rfl,by rfl,rfl,rfl,trivial⟩
def br{op:BinOp}{k:IntKind}{x y:Int}{r:R}(b:nU op k x y=some r)(d:k≠.i16/\k≠.i8)(t:Nat):
  ∃v,(binOp op t (.int k x) (.int k y)).run P w=.ok v w/\RepV E r.out v/\r.out.names=[]/\r.wr=none/\r.fact:=by
 have c:(x==y)=decide (x=y):=by by_cases e:x=y<;>simp[e]
 cases op<;>simp only[nU,fC,e5,reduceCtorEq]at b<;>subst b
 ·exact⟨.int k (k.wrap (x+y)),by simp[binOp,Op.intArith],by grind[RepV,RepP,R.of],rfl,rfl,trivial⟩
 ·exact⟨.int k (k.wrap (x-y)),by simp[binOp,Op.intArith],by grind[RepV,RepP,R.of],rfl,rfl,trivial⟩
 ·exact⟨.int k (RA .and k x y),by simp[binOp,Op.intBits,RA],by grind[RepV,RepP,R.of],rfl,rfl,trivial⟩
 ·exact⟨.int k (RA .or k x y),by simp[binOp,Op.intBits,RA],by grind[RepV,RepP,R.of],rfl,rfl,trivial⟩
 ·exact⟨.int k (RA .andNot k x y),by simp[binOp,Op.intBits,RA],by grind[RepV,RepP,R.of],rfl,rfl,trivial⟩
 ·exact⟨.bool (decide (x=y)),by simp[binOp,Op.intCmp,c],by rfl,rfl,rfl,trivial⟩
 ·exact⟨.bool (!decide (x=y)),by simp[binOp,Op.intCmp,bne,c],by rfl,rfl,rfl,trivial⟩
 ·exact⟨.bool (decide (x<y)),by simp[binOp,Op.intCmp],by rfl,rfl,rfl,trivial⟩
 ·exact⟨.bool (decide (x<=y)),by simp[binOp,Op.intCmp],by rfl,rfl,rfl,trivial⟩
 ·exact⟨.bool (decide (y<x)),by simp[binOp,Op.intCmp],by rfl,rfl,rfl,trivial⟩
 exact⟨.bool (decide (y<=x)),by simp[binOp,Op.intCmp],by rfl,rfl,rfl,trivial⟩
def dr{op:BinOp}{k:IntKind}{x y:Int}{r:R}(d:pU op k x y=some r)(b:r.cond)(e:k≠.i16/\k≠.i8)(t:Nat):
  ∃v,(binOp op t (.int k x) (.int .i64 y)).run P w=.ok v w/\RepV E r.out v/\r.out.names=[]/\r.wr=none/\r.fact:=by
 cases op<;>simp only[pU,e5,reduceCtorEq]at d<;>subst d
 ·have b:0<=y:=b;have c:¬y<0:=a6
  exact⟨.int k (k.wrap (x*2^min y.toNat k.bits)),by simp[binOp,Op.shift,c],by grind[RepV,RepP,R.ofIf],rfl,rfl,trivial⟩
 have b:0<=y:=b;have c:¬y<0:=a6
 exact⟨.int k (x.fdiv (2^min y.toNat k.bits)),by simp[binOp,Op.shift,c],by grind[RepV,RepP,R.ofIf],rfl,rfl,trivial⟩
def mr{t:Nat}{D:TI}(H:TIOK P t D){x y:V}{z:Operand}{b:Bool}(g:zP D.k x y z=some b){u v:Value}(i:RepV E x u)(j:RepV E y v)(l:∀c,z=.const c->v=c):
  (Op.equal t u v).run P w=.ok b w/\((∃c,u=.bool c)\/(∃c,u=.pointer c/\v=.pointer none)\/(∃a b c,u=.slice a b c)\/u=.nilFunc\/(∃a b c,u=.func a b c)\/(∃t x,u=.iface t x/\v=.nilIface)\/(u=.nilIface/\v=.nilIface/\∃c,z=.const c)\/u=.nilIface/\∃t x,v=.iface t x):=by
 have⟨d,k,h⟩:=H.desc;unfold zP at g;split at g
 ·rename_i K s e;rw[e]at h;simp only[yD]at h;subst h;have i:=cH i;have j:=cH j;subst i j;simp only[e5]at g;subst g;exact⟨WF λd=>by simp[Op.equalIn,fx k],.inl ⟨_,rfl⟩⟩
 ·rename_i e;rw[e]at h;obtain⟨m,rfl⟩:=h;simp only[RepV,RepP]at i j;subst i j;simp only[e5]at g;subst g;exact⟨WF λd=>by simp[Op.equalIn,fx k],.inr (.inl ⟨_,rfl,rfl⟩)⟩
 ·rename_i A e;rw[e]at h;obtain⟨m,rfl⟩:=h;simp only[RepV,RepP]at i j;obtain⟨s,off,rfl,_⟩:=i;subst j;simp only[e5]at g;subst g;exact⟨WF λd=>by simp[Op.equalIn,fx k],.inr (.inl ⟨_,rfl,rfl⟩)⟩
 ·rename_i A e;rw[e]at h;obtain⟨m,rfl⟩:=h;simp only[RepV,RepP]at i j;obtain⟨s,off,rfl,_⟩:=i;subst j;simp only[e5]at g;subst g;exact⟨WF λd=>by simp[Op.equalIn,fx k],.inr (.inl ⟨_,rfl,rfl⟩)⟩
 ·rename_i n off e;rw[e]at h;obtain⟨m,rfl⟩:=h;simp only[RepV,RepP]at i j;obtain⟨s,_,rfl⟩:=i;subst j;simp only[e5]at g;subst g;exact⟨WF λd=>by simp[Op.equalIn,fx k],.inr (.inl ⟨_,rfl,rfl⟩)⟩
 ·rename_i e;rw[e]at h;obtain⟨p,r,F,rfl⟩:=h;simp only[RepV,RepP]at i j;subst i j;simp only[e5]at g;subst g;exact⟨WF λd=>by simp[Op.equalIn,fx k],.inr (.inr (.inr (.inl rfl)))⟩
 ·rename_i f A e;rw[e]at h;obtain⟨p,r,F,rfl⟩:=h;simp only[RepV,RepP]at i j;obtain⟨I,rfl,_⟩:=i;subst j;simp only[e5]at g;subst g;exact⟨WF λd=>by simp[Op.equalIn,fx k],.inr (.inr (.inr (.inr (.inl ⟨_,_,_,rfl⟩))))⟩
 ·rename_i f A e;rw[e]at h;obtain⟨p,r,F,rfl⟩:=h;simp only[RepV,RepP]at i j;obtain⟨I,rfl,_⟩:=i;subst j;simp only[e5]at g;subst g;exact⟨WF λd=>by simp[Op.equalIn,fx k],.inr (.inr (.inr (.inr (.inl ⟨_,_,_,rfl⟩))))⟩
 ·rename_i J p e;rw[e]at h;obtain⟨G,rfl⟩:=h;simp only[RepV,RepP]at i j;obtain⟨x,rfl,_⟩:=i;subst j;simp only[e5]at g;subst g;exact⟨WF λd=>by simp[Op.equalIn,fx k],.inr (.inr (.inr (.inr (.inr (.inl ⟨_,_,rfl,rfl⟩)))))⟩
 ·rename_i J p e;rw[e]at h;obtain⟨G,rfl⟩:=h;simp only[RepV,RepP]at i j;obtain⟨x,rfl,_⟩:=j;subst i;simp only[e5]at g;subst g;exact⟨WF λd=>by simp[Op.equalIn,fx k],.inr (.inr (.inr (.inr (.inr (.inr (.inr ⟨rfl,_,_,rfl⟩))))))⟩
 ·rename_i e _;rw[e]at h;obtain⟨G,rfl⟩:=h;simp only[RepV,RepP]at i;subst i;split at g
  ·have:=l _ rfl;subst this;simp only[e5]at g;subst g;exact⟨WF λd=>by simp[Op.equalIn,fx k],.inr (.inr (.inr (.inr (.inr (.inr (.inl ⟨rfl,rfl,_,rfl⟩))))))⟩
  cases g
 ·rename_i m e;rw[e]at h;simp only[yD]at h;subst h;simp only[RepV,RepP]at i;subst i;split at g
  ·have:=l _ rfl;subst this;simp only[e5]at g;subst g;exact⟨WF λd=>by simp[Op.equalIn,fx k],.inr (.inr (.inl ⟨_,_,_,rfl⟩))⟩
  cases g
 ·rename_i m L M e;rw[e]at h;simp only[yD]at h;subst h;simp only[RepV,RepP]at i;obtain⟨N,cap,rfl,_,_,B⟩:=i;rcases B with B|⟨s,off,rfl,_⟩
  ·cases B
  split at g
  ·have:=l _ rfl;subst this;simp only[e5]at g;subst g;exact⟨WF λd=>by simp[Op.equalIn,fx k],.inr (.inr (.inl ⟨_,_,_,rfl⟩))⟩
  cases g
 cases g
def zg{t:Nat}{yo:Operand}{u v:Value}{b:Bool}(d:(Op.equal t u v).run P w=.ok b w)
  (e:(∃c,u=.bool c)\/(∃c,u=.pointer c/\v=.pointer none)\/(∃a b c,u=.slice a b c)\/u=.nilFunc\/(∃a b c,u=.func a b c)\/(∃t x,u=.iface t x/\v=.nilIface)\/(u=.nilIface/\v=.nilIface/\∃c,yo=.const c)\/u=.nilIface/\∃t x,v=.iface t x):
  (binOp .eql t u v).run P w=.ok (.bool b) w/\(binOp .neq t u v).run P w=.ok (.bool !b) w:=by
 rcases e with ⟨c,rfl⟩|⟨c,rfl,rfl⟩|⟨f,g,c,rfl⟩|rfl|⟨f,g,c,rfl⟩|⟨h,x,rfl,rfl⟩|⟨rfl,rfl,_⟩|⟨rfl,_,_,rfl⟩
 ·cases v<;>simp[binOp,d]
 ·simp[binOp,d]
 ·cases v<;>simp[binOp,d]
 ·cases v<;>simp[binOp,d]
 ·cases v<;>simp[binOp,d]
 ·simp[binOp,d]
 ·simp[binOp,d]
 simp[binOp,d]
theorem nr(h:Ga C E σ a w)(M:GOK gl C.E0.H)(D:∀d,o.dst=some d->d<C.nt)(V:KB P T){b:BinOp}{t G:Nat}{x y:Operand}(F:o.op=.binOp b t x y G){r:R}(N:r.cond)
  (j:gA T note (σ.val gl) ob o.dst (.binOp b t x y G)=some r):Sound P C E σ a w o r:=by
 have i:=UA h M x;have l:=UA h M y;simp only[gA]at j;split at j
 ·rename_i W e;have H:=V t W e;unfold jP at j;split at j
  ·rename_i p q m B;rw[m]at i;rw[B]at l;have i:=CG i;have l:=CG l;have⟨v,n,s,u,z,A⟩:=ur (P:=P) (E:=E) (w:=w) j N t;have⟨c,f,O,Q,S⟩:=r;simp only at z u s A;subst z;refine Sound.pure h (yP F (v:=v) ?_ ?_ ?_) s (by simp[u]) D A
   ·rw[i,l];exact n
   ·rw[i];simp
   simp_all
  ·rename_i k p Y q m B;rw[m]at i;rw[B]at l;simp only[RepV,RepP]at i l;split at j
   ·rename_i X;subst X;have⟨v,n,s,u,z,A⟩:=br (P:=P) (E:=E) (w:=w) j i.2 t;have⟨c,f,O,Q,S⟩:=r;simp only at z u s A;subst z;refine Sound.pure h (yP F (v:=v) ?_ ?_ ?_) s (by simp[u]) D A
    ·rw[i.1,l.1];exact n
    ·rw[i.1];simp
    simp_all
   cases j
  ·rename_i k p q m B;rw[m]at i;rw[B]at l;simp only[RepV,RepP]at i l;have⟨v,n,s,u,z,A⟩:=dr (P:=P) (E:=E) (w:=w) j N i.2 t;have⟨c,f,O,Q,S⟩:=r;simp only at z u s A;subst z;refine Sound.pure h (yP F (v:=v) ?_ ?_ ?_) s (by simp[u]) D A
   ·rw[i.1,l];exact n
   ·rw[i.1];simp
   simp_all
  ·rename_i p q m B;rw[m]at i;rw[B]at l;simp only[RepV,RepP]at i l;have U:=Yf i.2 l.2;unfold Wf at j;split at j
   ·simp only[fC,e5]at j;subst j;refine tR h D (yP F ?_ ?_ ?_)
    ·rw[i.1,l.1,binOp_string_eql,ByteArray.toList_mk,ByteArray.toList_mk,U];rfl
    ·rw[i.1];simp
    simp_all
   ·simp only[fC,e5]at j;subst j;refine tR h D (yP F ?_ ?_ ?_)
    ·rw[i.1,l.1,binOp_string_neq,ByteArray.toList_mk,ByteArray.toList_mk,U];rfl
    ·rw[i.1];simp
    simp_all
   cases j
  have I:∀c,y=.const c->a.eval y=c:=by rintro c rfl;rfl
  split at j
  all_goals (try cases j)
  all_goals
   rename_i Z m;have⟨n,g⟩:=mr (w:=w) H m i l I;refine tR h D (yP F ?_ ?_ ?_)
   ·first|exact(zg (yo:=y) n g).1|exact(zg (yo:=y) n g).2
   ·rcases g with ⟨c,g⟩|⟨c,g,J⟩|⟨K,L,c,g⟩|g|⟨K,L,c,g⟩|⟨G,x,g,_⟩|⟨g,_⟩|⟨g,_⟩<;>rw[g]<;>simp
   rcases g with ⟨c,g⟩|⟨c,g,J⟩|⟨K,L,c,g⟩|g|⟨K,L,c,g⟩|⟨G,x,g,_⟩|⟨_,g⟩|⟨_,g⟩<;>first|exact .inr (.inl g)|exact .inr (.inr g)|(rw[g];simp)
 cases j
end
theorem aN(b o k:Nat):(⟨b,o,none⟩:Addr).add k=⟨b,o+k,none⟩:=by
 unfold Addr.add;split<;>simp_all
def abd:=@Nat.add_comm
def lo:=@List.drop_drop
def lr:=@Nat.succ_mul
def RepE.get{H:Hp}{s:Nat}:∀{a:List (List PV)}{b:List Value},RepE H a b->(∀e∈a,e.length=s)->∀i,i<a.length->RepL H (a.getD i []) (b.drop (i*s))
 |[],_,_,_,i,c=>by simp at c|e::a,b,r,d,0,_=>by grind[RepE]|e::a,b,r,d,i+1,c=>by
  have:=RepE.get r.2 (λx a=>d x (by simp[a])) i (by simpa using c);rw[lo,d e a8]at this;simpa[lr,abd]using this
def RepVE.get{E:Env}{s:Nat}:∀{a:List (List V)}{b:List Value},RepVE E a b->(∀e∈a,e.length=s)->∀i,i<a.length->RepVL E (a.getD i []) (b.drop (i*s))
 |[],_,_,_,i,c=>by simp at c|e::a,b,r,d,0,_=>by simpa using r.1|e::a,b,r,d,i+1,c=>by
  have:=RepVE.get r.2 (λx a=>d x (by simp[a])) i (by simpa using c);rw[lo,d e a8]at this;simpa[lr,abd]using this
def RepE.dropE{H:Hp}{s:Nat}:∀{a:List (List PV)}{b:List Value},RepE H a b->(∀e∈a,e.length=s)->∀i,RepE H (a.drop i) (b.drop (i*s))
 |a,b,r,_,0=>by simp_all|[],b,r,_,i+1=>by simp[RepE]|e::a,b,r,c,i+1=>by
  have:=RepE.dropE r.2 (λx a=>c x (by simp[a])) i;rw[lo,c e a8]at this;simpa[lr,abd]using this
def RepE.takeE{H:Hp}:∀{b:List (List PV)}{a:List Value},RepE H b a->∀i,RepE H (b.take i) a
 |b,a,r,0=>by simp[RepE]|[],a,r,i+1=>by simp[RepE]|e::b,a,r,i+1=>by
  exact⟨r.1,RepE.takeE r.2 i⟩
section
variable{P:Program}{C:Ctx}{E:Env}{σ:St}{a:Act}{w:World}{gl:Nat->Option (List PV)}{o:Oper}{T:Nat->Option TI}{note:xC}
def jg{x y:V}{off:Nat}{v:Value}(h:yL x off=some y)(c:RepV E x v):
  ∃d:Addr,v=.pointer (some d)/\RepV E y (.pointer (some (d.add off)))/\y.names=x.names:=by
 unfold yL at h;split at h
 ·cases h;obtain⟨b,e,rfl,f⟩:=c;refine⟨_,rfl,?_,by rfl⟩;rw[aN];exact⟨b,e+off,rfl,by rw[<-lo];grind[RepL.drop]⟩
 ·cases h;obtain⟨b,e,rfl,f⟩:=c;refine⟨_,rfl,?_,by rfl⟩;rw[aN];exact⟨b,e+off,rfl,by rw[<-lo];grind[RepK.drop]⟩
 ·cases h;obtain⟨b,g,rfl⟩:=c;refine⟨_,rfl,?_,by rfl⟩;rw[aN];exact⟨b,g,rfl⟩
 ·cases h;obtain⟨i,⟨d,rfl⟩,j⟩:=c;refine⟨d,rfl,?_,by rfl⟩;simp only[RepV]
  grind[aN,Nat.add_assoc]
 cases h
def aaQ:=@Prod.mk.injEq
def bS{p:Prop}(h:p:=by simp_all):=h
def gw:=@Option.map_some
def i1:=@List.getElem?_map
theorem pr(h:Ga C E σ a w)(B:GOK gl C.E0.H)(D:∀d,o.dst=some d->d<C.nt)(F:KB P T){t f:Nat}{x:Operand}(G:o.op=.fieldAddr t x f){r:R}{H:Nat->Option Ob}
  (c:gA T note (σ.val gl) H o.dst (.fieldAddr t x f)=some r):Sound P C E σ a w o r:=by
 have I:=UA h B x;have J:=TC (gl:=gl) h x;simp only[gA]at c;split at c
 ·rename_i S U V W X e;have n:=F t _ e;have⟨d,p,K⟩:=n.desc;obtain⟨s,rfl,j,_⟩:=K;split at c
  ·rename_i off size L;split at c
   ·cases c
   rename_i M
   cases u:yL (σ.val gl x) off with
   |none=>rw[u]at c;cases c
   |some y=>
    rw[u]at c;simp only[gw,e5]at c;subst c;have⟨N,O,Q,v⟩:=jg u I;have b:(s.toList.map (λx=>(x.offset,(P.info? x.type).map (·.size))))[f]? =some (off,some size):=by
     rw[j];simp[L]
    rw[i1]at b
    cases k:s.toList[f]? with
    |none=>rw[k]at b;cases b
    |some z=>
     rw[k]at b;simp only[gw,e5,aaQ]at b;have l:s[f]? =some z:=bS
     have⟨m,g⟩:=b
     cases A:P.info? z.type with
     |none=>rw[A]at g;cases g
     |some i=>
      have g:i.size=size:=bS
      refine Sound.pure h (v:=.pointer (some (N.add off))) (.inl ?_) Q (by rw[v];exact J) D trivial;simp[execOp,G,Instr.fieldAt,fx p,l,O,Instr.sureAddr,fieldPlace,sizeOf,typeInfo,A,g,M,m]
  cases c
 cases c
def gg:=@List.mem_of_getElem?
theorem rr(h:Ga C E σ a w)(B:GOK gl C.E0.H)(y:∀d,o.dst=some d->d<C.nt){i:Nat}{x:Operand}(z:o.op=.extract x i){r:R}{D:Nat->Option Ob}
  (g:gA T note (σ.val gl) D o.dst (.extract x i)=some r):Sound P C E σ a w o r:=by
 have m:=UA h B x;have A:=TC (gl:=gl) h x;have p:∀(b:List PV)(f:List Value)(i:Nat)(c:PV),RepL E.H b f->b[i]? =some c->∃v,f[i]? =some v/\RepP E.H c v:=by
  intro b
  induction b with
  |nil=>simp|cons d b F=>
   intro f i c k j
   cases f with
   |nil=>grind[RepL]|cons v f=>
    simp only[RepL]at k
    grind
 have s:∀(b:List V)(f:List Value)(i:Nat)(c:V),RepVL E b f->b[i]? =some c->∃v,f[i]? =some v/\RepV E c v:=by
  intro b
  induction b with
  |nil=>simp|cons d b F=>
   intro f i c k j
   cases f with
   |nil=>grind[RepVL]|cons v f=>
    simp only[RepVL]at k
    grind
 simp only[gA]at g;split at g
 ·rename_i b e;rw[e]at m;simp only[RepV,RepP]at m;have⟨f,u,G,k⟩:=m
  cases j:b[i]? with
  |none=>rw[j]at g;cases g
  |some c=>
   rw[j]at g;simp only[gw,e5]at g;subst g;have⟨v,l,t⟩:=p b f i c k j;refine Sound.pure h (v:=v) (.inl ?_) (by grind[RepV]) b0 y trivial;simp[execOp,z,u,Instr.extract,l]
 ·rename_i b e;rw[e]at m A;have⟨f,u,G,k⟩:=m
  cases j:b[i]? with
  |none=>rw[j]at g;cases g
  |some c=>
   rw[j]at g;simp only[gw,e5]at g;subst g;have⟨v,l,t⟩:=s b f i c k j;refine Sound.pure h (v:=v) (.inl ?_) t (λn H=>A n ?_) y trivial
   ·simp[execOp,z,u,Instr.extract,l]
   exact mem_namesL.2 ⟨c,gg j,H⟩
 cases g
def hP:=@Bool.and_eq_true
def sr{P:Program}{f:List Field}{i:Nat}:∀{pl:List Nat},gR P f pl=true->pl.elem i=true->∃x d,f[i]? =some x/\P.underlying x.type=some d/\(∀b,d≠.struct b)/\∀n e,d≠.array n e
 :=by intro x;induction x<;>simp_all[gR,hP,List.elem_cons]<;>grind
def gb:=@cond_true
theorem ar(h:Ga C E σ a w)(hg:GOK gl C.E0.H)(S:∀d,o.dst=some d->d<C.nt)(hT:KB P T){t f:Nat}{x:Operand}(U:o.op=.field t x f){r:R}{ob:Nat->Option Ob}
  (b:gA T note (σ.val gl) ob o.dst (.field t x f)=some r):Sound P C E σ a w o r:=by
 have z:=UA h hg x;have W:=TC (gl:=gl) h x;have A:∀(g:List PV)(j:List Value)(i:Nat)(c:PV),RepL E.H g j->g[i]? =some c->∃v,j[i]? =some v/\RepP E.H c v:=by
  intro g
  induction g with
  |nil=>simp|cons d g ih=>
   intro j i c s l
   cases j with
   |nil=>grind[RepL]|cons v j=>
    simp only[RepL]at s
    grind
 have B:∀(g:List V)(j:List Value)(i:Nat)(c:V),RepVL E g j->g[i]? =some c->∃v,j[i]? =some v/\RepV E c v:=by
  intro g
  induction g with
  |nil=>simp|cons d g ih=>
   intro j i c s l
   cases j with
   |nil=>grind[RepVL]|cons v j=>
    simp only[RepVL]at s
    grind
 simp only[gA]at b;split at b
 ·rename_i fs pl s1 s2 s3 s4 e;have H:=hT t _ e;have⟨d,D,X⟩:=H.desc;simp only[yD]at X;obtain⟨Y,rfl,F,I⟩:=X
  cases J:pl.elem f with
  |false=>rw[J]at b;cases b
  |true=>
  rw[J]at b;simp only[gb]at b;have⟨Z,dd,K,L,M,N⟩:=sr I J;split at b
  ·rename_i off size ef;have k:(Y.toList.map (λx=>(x.offset,(P.info? x.type).map (·.size))))[f]? =some (off,some size):=by
    rw[F];simp[ef]
   rw[i1,K]at k;simp only[gw,e5,aaQ]at k;have⟨m,_⟩:=k;have p:Y[f]? =some Z:=bS
   have G:(isAgg Z.type).run P w=.ok false w:=by
    cases dd<;>first|exact absurd rfl (M _)|exact absurd rfl (N _ _)|simp[isAgg,fx L]
   split at b
   ·rename_i g O;rw[O]at z;simp only[RepV,RepP]at z;have⟨j,Q,hl,s⟩:=z
    cases l:g[off]? with
    |none=>rw[l]at b;cases b
    |some c=>
     rw[l]at b;simp only[gw,e5]at b;subst b;have⟨v,u,y⟩:=A g j off c s l;refine Sound.pure h (v:=v) (.inl ?_) (by simpa[RepV]using y) b0 S trivial;simp[execOp,U,Q,Instr.field,fx D,p,asAgg,part,G,m,u]
   ·rename_i g O;rw[O]at z W;have⟨j,Q,hl,s⟩:=z
    cases l:g[off]? with
    |none=>rw[l]at b;cases b
    |some c=>
     rw[l]at b;simp only[gw,e5]at b;subst b;have⟨v,u,y⟩:=B g j off c s l;refine Sound.pure h (v:=v) (.inl ?_) y (λn hn=>W n ?_) S trivial
     ·simp[execOp,U,Q,Instr.field,fx D,p,asAgg,part,G,m,u]
     exact mem_namesL.2 ⟨c,gg l,hn⟩
   cases b
  cases b
 cases b
end
section
variable{P:Program}{C:Ctx}{E:Env}{σ:St}{a:Act}{w:World}{gl:Nat->Option (List PV)}{o:Oper}{T:Nat->Option TI}{note:xC}
theorem eU{n i k l:Nat}{d:List (List V)}(h:ObOK E w n (.arr i k l d)):
  ∃j cap,E.g n=.slice j d.length cap/\d.length<=cap/\d.length<=maxLen/\
   (j=none/\d=[]/\cap=0\/∃b c,j=some ⟨b,0,none⟩/\w.heap[b]? =some (.cells c l (0,0))/\c.size=cap*k/\RepVE E d c.toList/\E.H b=[]):=by
 have⟨_,_,_,m,p,r,s⟩:=h;rcases p.2 with ⟨e,x⟩|⟨g,cap,c,e,_,t,f,u,v,y⟩
 ·grind
 refine⟨_,cap,e,f,hV f u,.inr ⟨g,c,rfl,t,v,?_,s g (by rw[e];rfl)⟩⟩;refine RepVE.mono (Hle.refl _) d m _ ?_ (λn _=>EExt.refl E n) r
 grind
def aaA:=@Int.toNat_natCast
def aam:=@Int.eq_ofNat_of_zero_le
theorem cr(h:Ga C E σ a w)(hg:GOK gl C.E0.H)(J:∀d,o.dst=some d->d<C.nt)(H:KB P T){t:Nat}{x i:Operand}(K:o.op=.indexAddr t x i){r:R}(M:r.cond)
  (c:gA T note (σ.val gl) (jA σ.objs) o.dst (.indexAddr t x i)=some r):Sound P C E σ a w o r:=by
 have g:=UA h hg x;have I:=TC (gl:=gl) h x;have v:=UA h hg i;simp only[gA,rN]at c;split at c
 ·rename_i k ek;rw[ek]at v;have v:=CG v;split at c
  ·rename_i e s1 s2 s3 s4 N;have⟨d,j,z⟩:=(H t _ N).desc;simp only[yD]at z;subst z;split at c
   ·rename_i p O;have l:=H e p O;split at c
    ·rename_i es Q;rw[Q]at g;simp only[e5]at c;subst c;have⟨A,S,U⟩:=M;simp only[RepV,RepP]at g;have⟨W,cap,B,hl,X,Y⟩:=g;obtain⟨u,rfl⟩:=aam A;have f:u<es.length:=a6
     rcases Y with rfl|⟨b,off,rfl,Y⟩
     ·simp at f
     refine Sound.pure h (v:=.pointer (some ((⟨b,off,none⟩:Addr).add (u*p.size)))) (.inl ?_) ?_ b0 J trivial
     ·simp[execOp,K,Instr.indexAt,v,asIntOf,fx j,B,f,l.run_size]
     rw[aN];simp only[RepV,RepP,aaA];refine⟨b,off+u*p.size,rfl,?_⟩;rw[<-lo];exact Y.get U u f
    ·rename_i n ver len Q;rw[Q]at g I;split at c
     ·rename_i ver' sz ty es eo;simp only[e5]at c;subst c;obtain⟨rfl,A,S,U,h3⟩:=M;have D:=h.objs n _ eo;have⟨F,Z,_⟩:=id D;have⟨W,cap,G,hlc,hlm,hh⟩:=eU D;simp only[RepV]at g;have⟨_,_,g⟩:=g;have⟨ad',L,cap',s,B,hle⟩:=g F.symm;rw[G]at s;cases s;obtain⟨u,rfl⟩:=aam A;have f:u<len:=a6
      rcases hh with ⟨_,e0,_⟩|⟨b,cur,rfl,hcur,_⟩
      ·subst e0;simp at hle;omega
      refine Sound.pure h (v:=.pointer (some ((⟨b,0,none⟩:Addr).add (u*p.size)))) (.inl ?_) ?_ ?_ J trivial
      ·simp[execOp,K,Instr.indexAt,v,asIntOf,fx j,B,f,l.run_size]
      ·rw[aN];simp only[RepV,aaA];refine⟨a6,⟨_,rfl⟩,λ_=>⟨b,_,_,G,?_,a6⟩⟩;rw[Z,U];simp
      intro m X;simp only[V.names]at X I;exact I m X
     cases c
    cases c
   cases c
  ·rename_i m e s1 s2 s3 s4 N;have⟨d,j,z⟩:=(H t _ N).desc;simp only[yD]at z;subst z;split at c
   ·rename_i p O;have l:=H e p O
    cases ha:yL (σ.val gl x) (k.toNat*p.size)with
    |none=>rw[ha]at c;cases c
    |some y=>
     rw[ha]at c;simp only[gw,e5]at c;subst c;have⟨A,S⟩:=M;have⟨W,B,hy,hny⟩:=jg ha g;refine Sound.pure h (v:=.pointer (some (W.add (k.toNat*p.size)))) (.inl ?_) hy (by rw[hny];exact I) J trivial;simp[execOp,K,Instr.indexAt,v,asIntOf,fx j,B,A,S,l.run_size,Instr.sureAddr]
   cases c
  cases c
 cases c
def aay:=@List.mem_of_mem_take
def KY{agg:Bool}{n:Nat}{d:List V}{x:V}{b:List Value}(h:NI agg n d=some x)(e:RepVL E d b):
  (agg=true->n<=b.length/\RepV E x (.agg (b.take n).toArray))/\(agg=false->∃v,b[0]? =some v/\RepV E x v)/\∀m∈x.names,m∈GA d:=by
 unfold NI at h;split at h
 ·rename_i f;split at h
  ·cases h;have j:=e.len;refine⟨λ_=>⟨a6,aU a9 (e.take n)⟩,by simp[f],?_⟩;intro m g;have:=cU _ m g;have⟨c,k,i⟩:=mem_namesL.1 this;exact mem_namesL.2 ⟨c,aay k,i⟩
  cases h
 rename_i f;split at h
 ·cases h
  cases b with
  |nil=>grind[RepVL]|cons v b=>
   exact⟨by simp[f],λ_=>⟨v,rfl,e.1⟩,λm g=>by simp[GA,g]⟩
 cases h
def aaN:=@Array.getElem?_toList
def aah:=@List.eq_nil_of_length_eq_zero
def abf:=@List.mem_of_mem_drop
def c5{p:Prop}(h:p:=by grind):=h
def gf:=@List.getElem?_eq_some_iff
def iq:=@List.length_nil
def k0:=@congrArg
theorem xr(h:Ga C E σ a w)(hg:GOK gl C.E0.H)(O:∀d,o.dst=some d->d<C.nt)(hT:KB P T){t:Nat}{x:Operand}(Q:o.op=.load t x){r:R}(hc:r.cond)
  (j:gA T note (σ.val gl) (jA σ.objs) o.dst (.load t x)=some r):Sound P C E σ a w o r:=by
 have S:=UA h hg x;simp only[gA]at j;split at j
 ·rename_i z et;have g:=hT t z et;unfold nN at j;split at j
  ·rename_i cs ex;rw[ex]at S;simp only[RepV,RepP]at S;have⟨b,off,I,F⟩:=S;unfold mR at j;split at j
   ·rename_i U;simp only[e5]at j;subst j;have hc:z.size<=cs.length:=hc;have p:=F.len;by_cases G:E.H b=[]
    ·rw[G]at F p;simp only[List.drop_nil,iq,Nat.le_zero_eq]at p;have J:z.size=0:=a6
     have Z:cs=[]:=aah p;subst Z;have A:(loadCells ⟨b,off,none⟩ 0).run P w=.ok #[] w:=by rfl
     refine Sound.pure h (v:=.agg #[]) (.inl ?_) ?_ b0 O trivial
     ·simp[execOp,Q,I,Instr.loadAt,Instr.sureAddr,loadVar,g.run_agg,U,g.run_size,J,A]
     simp only[RepV,RepP];exact⟨[],rfl,a8,by simp[RepL]⟩
    have⟨c,T',fr,f,s,_⟩:=h.heap b G;have hl2:((E.H b).drop off).length<=c.size-off:=by
     have:=s.1
     grind
    have B:off+z.size<=c.size\/z.size=0:=by
     omega
    rcases B with B|J
    ·refine Sound.pure h (v:=.agg ((c.toList.drop off).take z.size).toArray) (.inl ?_) ?_ b0 O trivial
     ·simp[execOp,Q,I,rR g U f B]
     simp only[RepV,RepP];refine⟨_,rfl,a9,?_⟩;refine RepL.take _ (F.msk (s.drop off))
    have A:(loadCells ⟨b,off,none⟩ 0).run P w=.ok #[] w:=by rfl
    refine Sound.pure h (v:=.agg #[]) (.inl ?_) ?_ b0 O trivial
    ·simp[execOp,Q,I,Instr.loadAt,Instr.sureAddr,loadVar,g.run_agg,U,g.run_size,J,A]
    simp only[RepV,RepP];exact⟨[],rfl,by simp[J],by simp[J,RepL]⟩
   rename_i U;have U:z.isAgg=false:=bS
   split at j
   ·rename_i c cs';simp only[e5]at j;subst j
    cases H:(E.H b).drop off with
    |nil=>rw[H]at F;grind[RepL]|cons v vs=>
     rw[H]at F;simp only[RepL]at F;have G:E.H b≠[]:=c5
     have⟨cc,T',fr,f,s,_⟩:=h.heap b G;obtain⟨u,D,hu⟩:∃u,cc[off]? =some u/\RepP E.H c u:=by
      have h1:(E.H b)[off]? =some v:=by
       have:=k0 (λl=>l[0]?) H;simpa using this
      rw[<-aaN];exact s.cell h1 (.inl F.1)
     refine Sound.pure h (v:=u) (.inl ?_) (by simpa[RepV]using hu) b0 O trivial;simp[execOp,Q,I,sR g U f D]
   cases j
  ·rename_i cs ex;rw[ex]at S;simp only[RepV,RepP]at S;have⟨b,off,I,F⟩:=S;unfold mR at j;split at j
   ·rename_i U;simp only[e5]at j;subst j;have hc:z.size<=cs.length:=hc;have p:=F.len;by_cases G:E.H b=[]
    ·rw[G]at F p;simp only[List.drop_nil,iq,Nat.le_zero_eq]at p;have J:z.size=0:=a6
     have Z:cs=[]:=aah p;subst Z;have A:(loadCells ⟨b,off,none⟩ 0).run P w=.ok #[] w:=by simp[loadCells,loadCellsFrom]
     refine Sound.pure h (v:=.agg #[]) (.inl ?_) ?_ b0 O trivial
     ·simp[execOp,Q,I,Instr.loadAt,Instr.sureAddr,loadVar,g.run_agg,U,g.run_size,J,A]
     simp only[RepV,RepP];exact⟨[],rfl,a8,by simp[RepL]⟩
    have⟨c,T',fr,f,s,_⟩:=h.heap b G;have hl2:((E.H b).drop off).length<=c.size-off:=by
     have:=s.1;simp at this⊢;omega
    have B:off+z.size<=c.size\/z.size=0:=by
     by_cases J:z.size=0
     ·exact .inr J
     left;omega
    rcases B with B|J
    ·refine Sound.pure h (v:=.agg ((c.toList.drop off).take z.size).toArray) (.inl ?_) ?_ b0 O trivial
     ·simp[execOp,Q,I,rR g U f B]
     simp only[RepV,RepP];refine⟨_,rfl,a9,?_⟩;refine RepL.take _ (F.msk (s.drop off))
    have A:(loadCells ⟨b,off,none⟩ 0).run P w=.ok #[] w:=by simp[loadCells,loadCellsFrom]
    refine Sound.pure h (v:=.agg #[]) (.inl ?_) ?_ b0 O trivial
    ·simp[execOp,Q,I,Instr.loadAt,Instr.sureAddr,loadVar,g.run_agg,U,g.run_size,J,A]
    simp only[RepV,RepP];exact⟨[],rfl,by simp[J],by simp[J,RepL]⟩
   rename_i U;have U:z.isAgg=false:=by simpa using U
   split at j
   ·rename_i c cs';simp only[e5]at j;subst j
    cases H:(E.H b).drop off with
    |nil=>rw[H]at F;simp[RepK]at F|cons v vs=>
     rw[H]at F;have F:=F.uncons;have G:E.H b≠[]:=by intro e;rw[e]at H;simp at H
     have⟨cc,T',fr,f,s,_⟩:=h.heap b G;obtain⟨u,D,hu⟩:∃u,cc[off]? =some u/\RepP E.H c u:=by
      have h1:(E.H b)[off]? =some v:=by
       have:=k0 (λl=>l[0]?) H;simpa using this
      rw[<-aaN];exact s.cell h1 F.1
     refine Sound.pure h (v:=u) (.inl ?_) (by simpa[RepV]using hu) b0 O trivial;simp[execOp,Q,I,sR g U f D]
   cases j
  ·rename_i n off ex;rw[ex]at S;split at j
   ·rename_i cs eo
    cases M:NI z.isAgg z.size (cs.drop off)with
    |none=>rw[M]at j;cases j
    |some y=>
     rw[M]at j;simp only[gw,e5]at j;subst j;have⟨b,c,T',hgn,f,hsz,F,_⟩:=h.objs n _ eo;simp only[RepV]at S;have⟨b',K,I⟩:=S;rw[hgn]at K;cases K;have⟨h1,h2,h3⟩:=KY M (F.drop off);have N:∀m∈y.names,m∈σ.used:=by
      intro m hm;have⟨c',hc',hm'⟩:=mem_namesL.1 (h3 m hm);exact(h.usedO n _ eo).2 m (mem_namesL.2 ⟨c',abf hc',hm'⟩)
     cases k:z.isAgg with
     |true=>
      have⟨B,W⟩:=h1 k;by_cases J:off+z.size<=c.size
      ·refine Sound.pure h (.inl ?_) W N O trivial;simp[execOp,Q,I,rR g k f J]
      have X:z.size=0:=by simp at B;omega
      have A:(loadCells ⟨b,off,none⟩ 0).run P w=.ok #[] w:=by simp[loadCells,loadCellsFrom]
      rw[X]at W;refine Sound.pure h (.inl ?_) W N O trivial;simp[execOp,Q,I,Instr.loadAt,Instr.sureAddr,loadVar,g.run_agg,k,g.run_size,X,A]
     |false=>
      have⟨v,hv0,W⟩:=h2 k;have D:c[off]? =some v:=by simpa using hv0
      refine Sound.pure h (.inl ?_) W N O trivial;simp[execOp,Q,I,sR g k f D]
   cases j
  ·rename_i n ver i off ex;rw[ex]at S;split at j
   ·rename_i ver' sz ty es eo;split at j
    ·rename_i e ee
     cases M:NI z.isAgg z.size (e.drop off)with
     |none=>rw[M]at j;cases j
     |some y=>
      rw[M]at j;simp only[gw,e5]at j;subst j;have hc:ver=ver':=hc;subst hc;have hob:=h.objs n _ eo;have⟨hver,hsz,p,_⟩:=id hob;have⟨ad,cap,hgn,hlc,hlm,hh⟩:=eU hob;simp only[RepV]at S;have⟨_,_,S⟩:=S;have⟨b',L,cap',K,I,hlt⟩:=S hver.symm;rw[hgn]at K;cases K;rcases hh with ⟨e0,_⟩|⟨b,c,hb,f,Z,F,_⟩
      ·cases e0
      cases hb;have hi:i<es.length:=by rw[gf]at ee;exact ee.1
      have Y:=F.get p i hi;have hge:es.getD i []=e:=by simp[List.getD,ee]
      rw[hge]at Y;have Y:=Y.drop off;rw[lo]at Y;have⟨h1,h2,h3⟩:=KY M Y;have N:∀m∈y.names,m∈σ.used:=by
       intro m hm;have⟨c',hc',hm'⟩:=mem_namesL.1 (h3 m hm);exact(h.usedO n _ eo).2 m (mem_namesE.2 ⟨e,gg ee,mem_namesL.2 ⟨c',abf hc',hm'⟩⟩)
      rw[hsz]at I
      cases k:z.isAgg with
      |true=>
       have⟨B,W⟩:=h1 k;by_cases J:i*sz+off+z.size<=c.size
       ·refine Sound.pure h (.inl ?_) W N O trivial;simp[execOp,Q,I,rR g k f J]
       have X:z.size=0:=by simp at B;omega
       have A:(loadCells ⟨b',i*sz+off,none⟩ 0).run P w=.ok #[] w:=by simp[loadCells,loadCellsFrom]
       rw[X]at W;refine Sound.pure h (.inl ?_) W N O trivial;simp[execOp,Q,I,Instr.loadAt,Instr.sureAddr,loadVar,g.run_agg,k,g.run_size,X,A]
      |false=>
       have⟨v,hv0,W⟩:=h2 k;have D:c[i*sz+off]? =some v:=by simpa using hv0
       refine Sound.pure h (.inl ?_) W N O trivial;simp[execOp,Q,I,sR g k f D]
    cases j
   cases j
  cases j
 cases j
end
end Go.Lg
