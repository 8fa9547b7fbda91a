/- Contracts of functions; no conditions. -/
import Derived.Test.YtbebdmlomjpamaaGreatDoorAccC9
import Derived.Test.YtbebdmlomjpamaaGreatDoorAccB3
import Derived.Test.YtbebdmlomjpamaaGreatDoorAccC8
import Derived.Test.YtbebdmlomjpamaaGreatDoorAccC7
set_option linter.all false
set_option maxHeartbeats 4000000
namespace Go.Proofs.YtbebdmlomjpamaaGreatDoor
open Go.Lg
set_option maxRecDepth 100000
def xw(j:Operand->Value)(h:j (.tmp 5)=.nilIface)(c:j (.const .nilIface)=.nilIface)(w:World):(execOp j ({dst:=some 7,op:=Op.binOp BinOp.eql 20 (Operand.tmp 5) (Operand.const Value.nilIface) 20,type:=4,pos:= "sound.go:66",after:= #[],guard:=none}:Oper)).run Tryz.prog w=.ok (.value (.bool true)) w:=by
 have e:=evOK.T;have a:TIOK Tryz.prog 20 ⟨.iface,1,16,zV .nilif,[.nilif]⟩:=e 20 _ rfl;have⟨d,f,b⟩:=a.desc;simp only[yD]at b;have heq:(Op.equal 20 .nilIface .nilIface).run Tryz.prog w=.ok true w:=WF λd=>by
  obtain⟨i,rfl⟩:=b;simp[Op.equalIn,fx f]
 have g:(eqGuard BinOp.eql 20 (Operand.tmp 5) (Operand.const Value.nilIface) Value.nilIface Value.nilIface).run Tryz.prog w=.ok () w:=by
  simp[eqGuard]
 simp[execOp,h,c,g,binOp,heq]
def Aw:lZ Tryz.prog 31 2:=by
 intro w i j;obtain⟨x,y,rfl⟩:∃x y,i=[x,y]:=by
  match i,j with
  |[x,y],_=>exact⟨x,y,rfl⟩
 refine callsD_of_wpS (P:=Tryz.prog) (fn:=Tryz.f31) (evOK.F 31 _ rfl).1 rfl λk cs f=>?_
 apply wpS_seq;apply wpS_region;simp only[abB,hW,iq,ia,List.range_succ,List.range_zero,aaO];simp only[wpOpsS,aaG,aat,Region.wanted,if_true];have a:∀p w,(execOp p ({dst:=some 5,op:=Op.call {callee:=Callee.builtin Builtin.recover,args:= #[],argTypes:= #[]},type:=20,pos:= "sound.go:66",after:= #[],guard:=none}:Oper)).run Tryz.prog w=.ok .recover w:=λ_ _=>rfl
 simp only[a,recoverD,f,Exit.thenS];refine wpS_of_wp ?_;have b:({tmps:=#[x,y]++Array.replicate (Tryz.f31.ntmps-(1+1)) undef,defers:=[]}:Act).put (some 5) Value.nilIface={tmps:=#[x,y,undef,undef,undef,.nilIface,undef,undef,undef,undef,undef,undef,undef],defers:=[]}:=rfl;rw[b];clear b a j;generalize l:(λ(e:Exit)(c:Act)(g:World)=>bodyPostS Tryz.prog Tryz.f31 k cs (λe m g=>(∃r,e=Ending.returned r)/\m=FrameMode.returning/\g=w) e c (k::cs) g)=Q;have d:∀c:Act,c.defers=[]->Q .normal c w:=by
  intro c n;rw[<-l];refine⟨n,.returning,by rw[<-f],.tuple #[],?_,⟨_,rfl⟩,rfl,rfl⟩;simp[results,Tryz.f31]
 clear l f;apply wp_block;apply wp_seq;apply wp_region_list;refine wpList_plain rfl λK h=>?_
 unfold Oper.wp;rw[xw _ rfl rfl,Oper.upon_value];apply h;show Code.wp _ _ _ _ _;refine wp_cond_true rfl ?_;apply wp_region_list;refine wpList_plain rfl λK h=>?_
 unfold Oper.wp;have o:∀p w,(execOp p ({dst:=some 2,op:=Op.assign (Operand.tmp 5),type:=20,pos:= "sound.go:66",after:= #[],guard:=none}:Oper)).run Tryz.prog w=.ok (.value (p (.tmp 5))) w:=λ_ _=>rfl
 rw[o,Oper.upon_value];apply h;exact d _ rfl
abbrev oA:Oper:={dst:=some 40,op:=Op.makeFunc (Fn.func 31) #[] #[Operand.tmp 8,Operand.tmp 9],type:=1,pos:= "sound.go:65",after:= #[],guard:=none}
abbrev oB:Oper:={dst:=none,op:=Op.defer {callee:=Callee.value (Operand.tmp 40),args:= #[],argTypes:= #[]},type:=0,pos:= "sound.go:65",after:= #[{on:=0,ground:=Ground.data}],guard:=none}
abbrev dF:List V:=[.loc 2 0,.loc 3 0]
abbrev nS:Array Operand:=#[.tmp 8,.tmp 9]
def IV:FV ev Tryz.prog 12 oA oB nS dF 40 31:=⟨⟨Tryz.f31,(evOK.F 31 _ rfl).1,rfl,rfl⟩,rfl,rfl,rfl,rfl,rfl,rfl,Aw⟩
abbrev z9:List PV:=[num 0,num 0,num 0,.nils,.nils,.nils,.nils]
abbrev JV:List (Nat×Ob):=[(2,bx z9),(3,bx [num 0])]
abbrev KV:List (Nat×Ob):=[(2,bx z9),(3,bx [num 4])]
def aaf{p:Prop}(h:p:=by simp[yF,GA,V.names,KC,bx,CA,Ob.names,kA]):=h
def Bw:HR Tryz.prog gl 31 dF JV pE KV:=by
 have h:CV ev Tryz.prog 100 6 31 dF JV 4 5 [] pE (.pv (.tuple [])) KV:=by
  have a:(some (bx z9)=some (bx z9)/\some (bx [num 4])=some (bx [num 4])/\V.pv (PV.tuple [])=V.pv (PV.tuple []))=CV ev Tryz.prog 100 6 31 dF JV 4 5 [] pE (.pv (.tuple [])) KV:=bG
  exact a▸⟨rfl,rfl,rfl⟩
 exact Sv (fn:=Tryz.f31) evOK h rfl rfl (λ_ _=>rfl) rfl rfl bb bb aaf aaf
abbrev mj:PV:=.agg [num 0,num 0,num 0,.slice [],.slice [],.slice [],.slice []]
def w9:PV.w 4 (.tuple [.agg z9,num 4])=.tuple [mj,num 4]:=rfl
section
variable{g:List Ty}(hg:g.length<=16)(hgs:∀s∈g,s.size<=64){j:Jt}(hD:j.D [] g [])(hc:j.p.ck)(hp:j.p.cnt<=16384)(hx:j.gx)
include hg hgs hD hc hp hx
end
def aaL:=@Nat.max_le
def EH:∀p:Pf,p.ck->p.tsz<=64|.leaf _ _,_=>c6 _|.refl t,h=>zD t (Tm.chk0 h).2|.p1 _ a,h=>EH a h|.p2 _ a b,h=>aaL.2 ⟨EH a h.1,EH b h.2⟩|.impI f a,h=>aaL.2 ⟨FD f (Fm.chk0 h.1).2,EH a h.2⟩|.all _ s a,h=>aaL.2 ⟨EH a h.2,h.1⟩|.ins _ t a,h=>aaL.2 ⟨zD t (Tm.chk0 h.1).2,EH a h.2⟩|.ex _ f t a,h=>aaL.2 ⟨aaL.2 ⟨zD t (Tm.chk0 h.1).2,FD f (Fm.chk0 h.2.1).2⟩,EH a h.2.2⟩|.ind _ f t a b,h=>aaL.2 ⟨aaL.2 ⟨aaL.2 ⟨zD t (Tm.chk0 h.1).2,FD f (Fm.chk0 h.2.1).2⟩,EH a h.2.2.1⟩,EH b h.2.2.2⟩|.subst f a b,h=>aaL.2 ⟨aaL.2 ⟨FD f (Fm.chk0 h.1).2,EH a h.2.1⟩,EH b h.2.2⟩
def FH{r:List Fm}:∀(p:Pf)(g:List Ty)(d:List Fm)(f:Fm),p.W r g d f->p.mx<=g.length+2*p.cnt
 |.leaf _ _,_,_,_,_=>c6 _|.refl t,g,_,_,h=>by have:=HD h.2.1;grind[Pf.mx,Pf.cnt]|.p1 k a,g,d,f,h=>by
  have:∃j,a.W r g d j:=by
   cases k
   ·exact⟨_,h.choose_spec⟩
   ·exact⟨_,h.choose_spec⟩
   have⟨s,u,x,h,_⟩:=h;grind
  have⟨j,z⟩:=this;have:=FH a g d j z
  grind[Pf.mx,Pf.cnt]
 |.p2 k a b,g,d,f,h=>by
  have:∃j v m n,a.W r g d j/\b.W r v m n/\v.length<=g.length+1:=by
   cases k
   ·have⟨x,y,i,c,_⟩:=h;grind
   ·have⟨x,i,c⟩:=h;grind
   ·have⟨s,x,y,i,c,_⟩:=h;grind
   have⟨s,x,y,i,c,_⟩:=h;grind
  have⟨j,v,m,n,i,c,w⟩:=this;have:=FH a g d j i;have:=FH b v m n c
  grind[Pf.mx,Pf.cnt]
 |.impI x a,g,d,f,⟨i,y,c,_⟩=>by
  have:=OJ i.2;have:=FH a _ _ _ c
  grind[Pf.mx,Pf.cnt]
 |.all u s a,g,d,f,⟨_,y,c,_⟩=>by
  have:=FH a _ _ _ c
  grind[Pf.mx,Pf.cnt,List.length_append,List.length_singleton]
 |.ins u t a,g,d,f,⟨_,s,x,i,c,_⟩=>by
  have:=HD i;have:=FH a _ _ _ c
  grind[Pf.mx,Pf.cnt]
 |.ex u x t a,g,d,f,⟨o,_,s,y,i,_,c,_⟩=>by
  have:=OJ o.2;have:=HD i;have:=FH a _ _ _ c
  grind[Pf.mx,Pf.cnt]
 |.ind l x t a b,g,d,f,⟨o,i,c,w,_⟩=>by
  have:=OJ o.2;have:=HD i.2;have:=FH a _ _ _ c;have:=FH b _ _ _ w;have e:(lG l).length<=2:=by cases l<;>decide
  grind[Pf.mx,Pf.cnt,List.length_append,List.length_singleton]
 |.subst x a b,g,d,f,⟨o,t,u,c,w,_⟩=>by
  have:=OJ o.2;have:=FH a _ _ _ c;have:=FH b _ _ _ w
  grind[Pf.mx,Pf.cnt,List.length_append,List.length_singleton]
open Go.Lg
def jO{f:Nat}{args:List PV}{x:PV}(n:Nat)(e:(x=x)=Ja ev Tryz.prog 100 n f args [] x):A f args x:=Sa evOK (Eq.mp e rfl)
abbrev falF:Fm:=.eq (.n0 .zero) (.n1 .succ (.n0 .zero))
abbrev rf0:Pf:=.refl (.n0 .zero)
abbrev eq0:Fm:=.eq (.n0 .zero) (.n0 .zero)
abbrev rj0:Jt:=.refl (.n0 .zero)
def nj:A 17 [] falF.p:=jO 20 bG
def Cw:A 35 [eq0.p,(Tm.n0 .unit).p] (FR.ok eq0).p:=jO 20 bG
def Dw:A 109 [rf0.p] rf0.p:=jO 20 bG
def Ew:A 156 [(PC 0 0).p,eq0.p] (FR.ok eq0).p:=jO 20 bG
def Fw:A 35 [falF.p,(Tm.n0 .unit).p] (FR.ok falF).p:=jO 20 bG
def Gw:A 34 [uA [falF],row [.n0 .unit]] (num 0):=jO 20 bG
def Hw:A 18 [falF.p,falF.p] (.bool true):=jO 20 bG
def Iw:A 14 [uA [falF],row [.n0 .unit]] (.tuple [uA [falF],num 0]):=f2 [14,31] Gw Fw
def Jw:rj0.D [] [] []:=⟨rfl,rfl,rfl⟩
def Kw:A 87 [eA [],rj0.ptr [],(PC 0 0).p] (FR.ok eq0).p:=by
 have h:A 100 [eA [],rj0.ptr [],(PC 0 0).p] (XR.ok (.n0 .unit)).p:=f1 [13] sD;exact f3 [15,28,37] h Ew Cw
def pj:A 29 [uA [],row [],AA [] [],rf0.p] (.tuple [rj0.ptr [],(PC 0 0).p,eq0.p,num 0]):=
 f4 [22,32,39,45] (M7 [] bb nofun rj0 Jw rfl bb).1 L7 (K7 [] bb) Kw
def Lw:A 11 [uA [],row [],AA [] [],rf0.p] (FR.ok eq0).p:=f1 [19] pj
def Mw:A 32 [eA [],rj0.ptr [],(PC 0 0).p] rf0.p:=by
 have h:A 104 [(PC 0 0).p,(Tm.n0 .zero).p] (XR.ok (.n0 .zero)).p:=JT (PC 0 0) (.n0 .zero) 0 rfl (vo 0 0).ve bb bb ⟨bb,rfl,trivial⟩;exact f3 [187,190,193] h (uE (.n0 .zero)) Dw
def Nw:A 12 [uA [],row [],AA [] [],rf0.p] (.tuple [rf0.p,num 0]):=by
 have h:=pj;have a:=pq (g:=[]) bb nofun;have b:=aX rf0 bb rfl;have c:(A 29 [uA [],row [],AA [] [],rf0.p] (.tuple [rj0.ptr [],(PC 0 0).p,eq0.p,num 0])/\A 30 [AA [] []] (.tuple [AA [] [],num 0])/\ #[oA,oB]= #[oA,oB]/\dF=dF/\A 32 [eA [],rj0.ptr [],(PC 0 0).p] rf0.p/\A 33 [rf0.p] (num 0)/\V.pv (.tuple [rf0.p,num 0])=V.pv (.tuple [rf0.p,num 0]))=EV ev Tryz.prog 100 6 12 7 [uA [],row [],AA [] [],rf0.p] oA oB nS dF 40 31 [(22,.U [rj0.ptr [],(PC 0 0).p,eq0.p,num 0]),(33,.U [AA [] [],num 0]),(45,.r rf0.p),(47,.N 0)] (.tuple [rf0.p,num 0]):=bG
 exact vb evOK (Eq.mp c ⟨h,a,rfl,rfl,Mw,b,rfl⟩) IV
open Go.Lg
structure TG(n C S:Nat)(x:Tm):Prop where
 sc:x.sc n
 cnt:x.cnt<=C
 tsz:x.tsz<=S
def TG.mono{n C S a b:Nat}{x:Tm}(h:TG n C S x)(c:C<=a)(d:S<=b):TG n a b x:=⟨h.sc,hV h.cnt c,hV h.tsz d⟩
def pb{n i:Nat}(h:i<3):TG n 4 0 (AB i):=by
 rcases i with _|_|_|i
 ·exact⟨trivial,bb,bb⟩
 ·exact⟨trivial,bb,bb⟩
 ·exact⟨trivial,bb,bb⟩
 omega
structure TT(g:List Ty)(t:Ty)(C S:Nat)(x:Tm):Prop extends TG g.length C S x where
 ty:x.tyR g=.ok t
def TT.mono{g:List Ty}{t:Ty}{C S a b:Nat}{x:Tm}(h:TT g t C S x)(c:C<=a)(d:S<=b):TT g t a b x:=⟨h.toTG.mono c d,h.ty⟩
def pS(g:List Ty):∀n:Nat,(AB n).tyR g=.ok .nat|0=>rfl|n+1=>by show mF .succ ((AB n).tyR g)=_;rw[pS g n];rfl
def IP(g:List Ty){i:Nat}(h:i<3):TT g .nat 4 0 (AB i):=⟨pb h,pS g i⟩
def sb(s:Ty):s.same s=true:=(BD s s).2 rfl
def TD{g:List Ty}{f x:Tm}{s u:Ty}(a:f.tyR g=.ok (.two true s u))(b:x.tyR g=.ok s):(Tm.n2 .app f x).tyR g=.ok u:=by
 show ZC .app (f.tyR g) (x.tyR g)=_;rw[a,b];simp only[ZC,sb,gb]
def qG{g:List Ty}{b:Tm}{s u:Ty}(h:b.tyR (g++[s])=.ok u)(a:(Ty.two true s u).size<=64):(Tm.lam s b).tyR g=.ok (.two true s u):=by
 show iI s (b.tyR (g++[s]))=_;rw[h];exact gm a
def ab{g:List Ty}{b:Tm}{s t u:Ty}(h:b.tyR (g++[s,t])=.ok u)(a:(Ty.two true s (.two true t u)).size<=64):(Tm.lam s (.lam t b)).tyR g=.ok (.two true s (.two true t u)):=
 qG (qG (by simpa using h) (by simp only[Ty.size]at a⊢;omega)) a
def rj{g:List Ty}{b:Tm}{s t v u:Ty}(h:b.tyR (g++[s,t,v])=.ok u)(a:(Ty.two true s (.two true t (.two true v u))).size<=64):(Tm.lam s (.lam t (.lam v b))).tyR g=.ok (.two true s (.two true t (.two true v u))):=
 qG (ab (by simpa using h) (by simp only[Ty.size]at a⊢;omega)) a
def wJ{g:List Ty}{x y:Tm}{s u:Ty}(a:x.tyR g=.ok s)(b:y.tyR g=.ok u)(c:(Ty.two false s u).size<=64):(Tm.n2 .pair x y).tyR g=.ok (.two false s u):=by
 show ZC .pair (x.tyR g) (y.tyR g)=_;rw[a,b];exact gm c
def sj{g:List Ty}{x:Tm}{s u:Ty}(h:x.tyR g=.ok (.two false s u)):(Tm.n1 .fst x).tyR g=.ok s:=by
 show mF .fst (x.tyR g)=_;rw[h];rfl
def tj{g:List Ty}{x:Tm}{s u:Ty}(h:x.tyR g=.ok (.two false s u)):(Tm.n1 .snd x).tyR g=.ok u:=by
 show mF .snd (x.tyR g)=_;rw[h];rfl
def rS{g:List Ty}{x:Tm}(h:x.tyR g=.ok .nat):(Tm.n1 .succ x).tyR g=.ok .nat:=by
 show mF .succ (x.tyR g)=_;rw[h];rfl
def LV{g:List Ty}{x y:Tm}(h:x.tyR g=.ok .nat)(a:y.tyR g=.ok .list):(Tm.n2 .cons x y).tyR g=.ok .list:=by
 show ZC .cons (x.tyR g) (y.tyR g)=_;rw[h,a];rfl
def aS{g:List Ty}{b f d:Tm}{s:Ty}(a:b.tyR g=.ok s)(c:f.tyR g=.ok (.two true .nat (.two true s s)))(e:d.tyR g=.ok .nat):(Tm.n3 .re s b f d).tyR g=.ok s:=by
 show rB .re s (b.tyR g) (f.tyR g) (d.tyR g)=_;rw[a,c,e];simp only[rB,sb,gb]
def aj{g:List Ty}{b f d:Tm}{s:Ty}(a:b.tyR g=.ok s)(c:f.tyR g=.ok (.two true .nat (.two true .list (.two true s s))))(e:d.tyR g=.ok .list):(Tm.n3 .fo s b f d).tyR g=.ok s:=by
 show rB .fo s (b.tyR g) (f.tyR g) (d.tyR g)=_;rw[a,c,e];simp only[rB,sb,gb]
abbrev JP(L:List Int)(g:List Ty)(t:Ty)(z:PV)(a:Nat)(x:Tm)(b:Nat):Prop:=O 24 [.loc 0 0,.pv (rA g),.pv t.p,.pv z] [(0,dk L a)] (.pv x.p) [(0,dk L b)]
def cj{L:List Int}(f:Dk L){g:List Ty}{t:Ty}(s:g.length<=1000000)(z:PV){a:Nat}(k:a<=L.length):
  (∃(i b:Nat),ZA g i=.ok t/\b<=L.length/\JP L g t z a (.v i) b)\/A 57 [rA g,t.p] (NA [])\/∃(i:Nat)(r:List Nat)(b:Nat),b<=L.length/\A 57 [rA g,t.p] (NA (i::r))/\O 20 [.loc 0 0,.pv (num 3)] [(0,dk L a)] (.pv (num 0)) [(0,dk L b)]:=by
 have:=zA;have⟨l,m,n,e⟩:=a77 g t
 cases l with
 |nil=>exact .inr (.inl e)|cons i r=>
  have⟨x,b,v,d,h⟩:=nx f k (n:=3) a6 a6
  cases x with
  |zero=>exact .inr (.inr ⟨i,r,b,d,e,h⟩)|succ x=>
   have:r.length+1<=g.length:=n;have:((i::r).map ic).length=r.length+1:=a8
   have⟨y,c,hy,o,p⟩:=nx f d (n:=((i::r).map ic).length) a6 a6;obtain⟨w,j⟩:∃w,(i::r)[y]? =some w:=⟨_,e7 (by simpa using hy)⟩;exact .inl ⟨w,c,m w (gg j),o,o5 1 [19,25,32,(33,.i (ic w)),35] e h p (EA (c:=ic) (n:=1) j λ_=>rfl) (EF w)⟩
def ij{g:List Ty}{i:Nat}{t:Ty}(h:ZA g i=.ok t):i<g.length:=by
 unfold ZA at h;split at h
 ·assumption
 cases h
def Ow{z:Int}(h:z<=0):dA 0 z=false:=by rw[vC];simpa using h
def Pw{z:Int}(h: -1000000<=z:=by omega)(a:z<=1000000:=by omega):xA (z-1)=true/\z-1=z-1:=⟨bQ a6 a6,rfl⟩
def KP:A 46 [num 7,row []] (Tm.n0 .nil).p:=PS 7
def LP:A 46 [num 13,row []] (Tm.n0 .unit).p:=PS 13
def OE(k:K2)(x y:Tm):A 46 [num k.n,row [x,y]] (Tm.n2 k x y).p:=WG k.n x y
def HL(k:K1)(x:Tm):A 46 [num k.n,row [x]] (Tm.n1 k x).p:=QS k.n x
def c4{p:Prop}(h:p:=by simp only[Ty.size];omega):=h
def vO{L:List Int}(p:Dk L):∀(t:Ty)(g:List Ty)(z:Int)(a:Nat),z<=0->-1000000+t.size<=z->g.length+t.size<=1000000->a<=L.length->t.size<=64->∃(x:Tm)(b:Nat),TT g t (4*t.size) t.size x/\b<=L.length/\JP L g t (.int z) a x b
 |t,g,z,a,G,A,E,v,B=>by
  have I:=zA;have e:=Ow G;have w:=Pw (z:=z);have H:1<=t.size:=by cases t<;>simp[Ty.size]<;>omega
  rcases cj p (g:=g) (t:=t) a6 (.int z) v with ⟨i,b,F,f,h⟩|j|⟨J,K,C,l,j,m⟩
  ·exact⟨.v i,b,⟨⟨ij F,by simp only[Tm.cnt];omega,c6 _⟩,F⟩,f,h⟩
  ·cases t with
   |nat=>
    have⟨y,b,hy,f,n⟩:=nx p v (n:=3) a6 a6;have o:=PJ (n:=y);exact⟨AB y,b,(IP g hy).mono bb bb,f,o5 1 [19,37,218,266,267] j e e n o⟩
   |list=>exact⟨.n0 .nil,a,⟨⟨trivial,bb,bb⟩,rfl⟩,v,o4 1 [19,37,271,291] j e e KP⟩|unit=>exact⟨.n0 .unit,a,⟨⟨trivial,bb,bb⟩,rfl⟩,v,o3 1 [19,37,337] j e LP⟩|two k s u=>
    simp only[Ty.size]at A E B⊢
    cases k with
    |false=>
     have⟨x,b,d,f,n⟩:=vO p s g (z-1) a a6 a6 a6 v a6;have⟨y,c,r,D,o⟩:=vO p u g (z-1) b a6 a6 a6 f a6;exact⟨.n2 .pair x y,c,⟨⟨⟨d.sc,r.sc⟩,by have:=d.cnt;have:=r.cnt;simp only[Tm.cnt];omega,by have:=d.tsz;have:=r.tsz;simp only[Tm.tsz];omega⟩,wJ d.ty r.ty c4⟩,D,o7 1 [19,37,(301,.y (z-1)),302,(310,.y (z-1)),311,313] j e w n w o (OE .pair x y)⟩
    |true=>
     have⟨x,b,d,f,n⟩:=vO p u (g++[s]) (z-1) a a6 a6 a9 v a6;have o:=JE g [s] a9;exact⟨.lam s x,b,⟨⟨by have:=d.sc;simpa[Tm.sc]using this,by have:=d.cnt;simp only[Tm.cnt];omega,by have:=d.tsz;simp only[Tm.tsz];omega⟩,qG d.ty c4⟩,f,o6 1 [19,37,327,(333,.y (z-1)),334,336] j e o w n (VD s x)⟩
  cases t with
  |nat=>
   have⟨y,b,hy,f,n⟩:=nx p l (n:=3) a6 a6;have o:=PJ (n:=y);exact⟨AB y,b,(IP g hy).mono bb bb,f,o6 1 [19,25,37,218,266,267] j m e e n o⟩
  |list=>exact⟨.n0 .nil,C,⟨⟨trivial,bb,bb⟩,rfl⟩,l,o5 1 [19,25,37,271,291] j m e e KP⟩|unit=>exact⟨.n0 .unit,C,⟨⟨trivial,bb,bb⟩,rfl⟩,l,o4 1 [19,25,37,337] j m e LP⟩|two k s u=>
   simp only[Ty.size]at A E B⊢
   cases k with
   |false=>
    have⟨x,b,d,f,n⟩:=vO p s g (z-1) C a6 a6 a6 l a6;have⟨y,c,r,D,o⟩:=vO p u g (z-1) b a6 a6 a6 f a6;exact⟨.n2 .pair x y,c,⟨⟨⟨d.sc,r.sc⟩,by have:=d.cnt;have:=r.cnt;simp only[Tm.cnt];omega,by have:=d.tsz;have:=r.tsz;simp only[Tm.tsz];omega⟩,wJ d.ty r.ty c4⟩,D,o8 1 [19,25,37,(301,.y (z-1)),302,(310,.y (z-1)),311,313] j m e w n w o (OE .pair x y)⟩
   |true=>
    have⟨x,b,d,f,n⟩:=vO p u (g++[s]) (z-1) C a6 a6 a9 l a6;have o:=JE g [s] a9;exact⟨.lam s x,b,⟨⟨by have:=d.sc;simpa[Tm.sc]using this,by have:=d.cnt;simp only[Tm.cnt];omega,by have:=d.tsz;simp only[Tm.tsz];omega⟩,qG d.ty c4⟩,f,o7 1 [19,25,37,327,(333,.y (z-1)),334,336] j m e o w n (VD s x)⟩
def tb(S:Nat):Nat->Nat|0=>4*S|k+1=>3*tb S k+200
def fF(L:List Int)(S k:Nat):Prop:=∀(t:Ty)(g:List Ty)(a:Nat),t.size<=S->(∀s∈g,s.size<=S)->g.length+3*k+S<=1000000->a<=L.length->∃(x:Tm)(b:Nat),TT g t (tb S k) S x/\b<=L.length/\JP L g t (num k) a x b
def Qw{L:List Int}(c:Dk L)(S:Nat)(i:S<=20):fF L S 0:=by
 intro t g a d j k e;have⟨x,b,q,f,h⟩:=vO c t g 0 a (Int.le_refl _) a6 a6 e a6;exact⟨x,b,q.mono (by simp only[tb];omega) d,f,h⟩
abbrev z5:List PV:=[.int 0,.int 0,.int 0,.nils,.nils]
abbrev ZB:Kp:=⟨[0,1,3,6,8,176,177],[0,1,2],3,[0]⟩
abbrev xj(L:List Int)(g:List Ty)(t:Ty)(k a i:Nat):IS:=st [(0,.loc 0 0),(1,.pv (rA g)),(3,.pv (num (k+1))),(6,.loc 1 0),(8,.loc 2 0),(176,.pv (num (g.map Ty.c).length)),(177,.pv (num i))] [(0,dk L a),(1,bx t.c),(2,bx z5)] 3 [0]
abbrev fE(L:List Int)(g:List Ty)(t:Ty)(k a:Nat):IS:=st [(0,.loc 0 0),(1,.pv (rA g)),(3,.pv (num (k+1))),(6,.loc 1 0),(8,.loc 2 0)] [(0,dk L a),(1,bx t.c),(2,bx z5)] 3 [0]
def xb{L:List Int}{S k:Nat}(y:fF L S k)(t:Ty){g:List Ty}(v:∀s∈g,s.size<=S)(z:g.length+3*k+S<=1000000){a:Nat}(A:a<=L.length):∀(r i:Nat),i+r=g.length->
  Lp 24 0 1 (xj L g t k a i) (.exit 1) (fE L g t k a)\/∃(x:Tm)(b:Nat),TT g t (tb S k+2) S x/\b<=L.length/\Lp 24 0 1 (xj L g t k a i) .ret (st [(8,.loc 2 0)] [(0,dk L b),(2,bx x.c)] 3 [0])
 |0,i,h=>by
  have e:dA (.ofNat i) (.ofNat (g.map Ty.c).length)=false:=iA a9;exact .inl (x1 [178] ⟨[0,1,3,6,8],[0,1,2],3,[0]⟩ e)
 |r+1,i,h=>by
  have:=zA;have f:=yA;have e:dA (.ofNat i) (.ofNat (g.map Ty.c).length)=true:=KA a9;have⟨s,j,l,m,B,C⟩:=Gf (g:=g) (k:=i);have n:=lA (a:=i) (b:=1);have d:=xb y t v z A r (i+1) a6
  cases s with
  |nat=>
   rcases d with d|⟨x,b,q,f,d⟩
   ·exact .inl (n6 [178,183,185,(186,.i Ty.nat.c),212] ZB e j l m n d)
   exact .inr ⟨x,b,q,f,n6 [178,183,185,(186,.i Ty.nat.c),212] ZB e j l m n d⟩
  |list=>
   rcases d with d|⟨x,b,q,f,d⟩
   ·exact .inl (n6 [178,183,185,(186,.i Ty.list.c),212] ZB e j l m n d)
   exact .inr ⟨x,b,q,f,n6 [178,183,185,(186,.i Ty.list.c),212] ZB e j l m n d⟩
  |unit=>
   rcases d with d|⟨x,b,q,f,d⟩
   ·exact .inl (n6 [178,183,185,(186,.i Ty.unit.c),212] ZB e j l m n d)
   exact .inr ⟨x,b,q,f,n6 [178,183,185,(186,.i Ty.unit.c),212] ZB e j l m n d⟩
  |two c u w=>
   have:1+u.size+w.size<=S:=v _ B
   cases c with
   |false=>
    rcases d with d|⟨x,b,q,f,d⟩
    ·exact .inl (n6 [178,183,185,(186,.i (Ty.two false u w).c),212] ZB e j l m n d)
    exact .inr ⟨x,b,q,f,n6 [178,183,185,(186,.i (Ty.two false u w).c),212] ZB e j l m n d⟩
   |true=>
    have p:=TE w t;cases o:w.same t<;>rw[o]at p
    ·rcases d with d|⟨x,b,q,f,d⟩
     ·exact .inl (n7 [178,183,185,(186,.i (Ty.two true u w).c),197,212] ZB e j l m p n d)
     exact .inr ⟨x,b,q,f,n7 [178,183,185,(186,.i (Ty.two true u w).c),197,212] ZB e j l m p n d⟩
    have⟨x,b,q,f,D⟩:=y u g a a6 v z A;have E:=lC (a:=k+1);exact .inr ⟨.n2 .app (.v i) x,b,⟨⟨⟨by show i<g.length;omega,q.sc⟩,by have:=q.cnt;simp only[Tm.cnt];omega,by have:=q.tsz;simp only[Tm.tsz];omega⟩,TD (s:=u) (by show ZA g i=_;rw[C,(BD w t).1 o]) q.ty⟩,f,x9 [178,183,185,(186,.i (Ty.two true u w).c),197,200,208,209,211] ⟨[8],[0,2],3,[0]⟩ e j l m p (EF i) E D (OE .app (.v i) x)⟩
def PE{S:Nat}{g:List Ty}{l:List Ty}(a:∀s∈g,s.size<=S)(b:∀s∈l,s.size<=S):∀s∈g++l,s.size<=S:=λs c=>by
 rcases eh.1 c with h|h
 ·exact a s h
 exact b s h
def MV(n S:Nat)(h:1<=S:=by omega):TG n 50 S plusT:=⟨by simp[plusT,Tm.sc],bb,hV (by decide:plusT.tsz<=1) h⟩
def NV(n S:Nat)(h:1<=S:=by omega):TG n 50 S subT:=⟨by simp[subT,predT,Tm.sc],bb,hV (by decide:subT.tsz<=1) h⟩
def cS(g:List Ty)(s:Ty):(Tm.v 0).tyR (g++[s])=.ok s:=by show ZA _ _=_;unfold ZA;simp
def Ab(g:List Ty)(s u:Ty):(Tm.v 1).tyR (g++[s]++[u])=.ok s:=by show ZA _ _=_;unfold ZA;simp
def eS{g:List Ty}{b:Tm}(h:b.tyR (g++[.nat]++[.nat])=.ok .nat):(Tm.lam .nat (.lam .nat b)).tyR g=.ok (.two true .nat (.two true .nat .nat)):=qG (qG h bb) bb
def OV(g:List Ty):plusT.tyR g=.ok (.two true .nat (.two true .nat .nat)):=eS (aS (Ab _ _ _) (eS (rS (cS _ _))) (cS _ _))
def Rw(g:List Ty):predT.tyR g=.ok (.two true .nat .nat):=qG (aS rfl (eS (Ab _ _ _)) (cS _ _)) bb
def QV(g:List Ty):subT.tyR g=.ok (.two true .nat (.two true .nat .nat)):=eS (aS (Ab _ _ _) (eS (TD (Rw _) (cS _ _))) (cS _ _))
def Sw{L:List Int}(K:Dk L){S k:Nat}(hS:3<=S)(hS2:S<=20)(A:fF L S k):fF L S (k+1):=by
 intro t g a H B hl Y;have hm:=zA;have Z:=yA;have p:=lC (a:=k+1);have etb:tb S (k+1)=3*tb S k+200:=rfl;rcases cj K (g:=g) (t:=t) (by omega) (num (k+1)) Y with ⟨i,b,hi,Z,h⟩|C|⟨i0,r0,a0,W,C,D⟩
 ·exact⟨.v i,b,⟨⟨ij hi,by simp only[Tm.cnt];omega,Nat.zero_le _⟩,hi⟩,Z,h⟩
 ·obtain⟨w,b,V,n,E⟩:=nx K Y (n:=8) (by omega) (by omega);rcases w with _|_|_|_|_|_|w
  ·obtain⟨s,c,N,F,r⟩:=PD K 0 (by omega) n;have N:s.size<=1:=N;obtain⟨x,d,f,o,z⟩:=A t (g++[s]) c H (PE B (by simp;omega)) (by simp;omega) F;obtain⟨y,e,l,G,M⟩:=A s g d (by omega) B (by omega) o;have P:=JE g [s] (by simp;omega);exact⟨.n2 .app (.lam s x) y,e,⟨⟨⟨by have:=f.sc;simpa[Tm.sc]using this,l.sc⟩,by have:=f.cnt;have:=l.cnt;simp only[Tm.cnt];omega,by have:=f.tsz;have:=l.tsz;simp only[Tm.tsz];omega⟩,TD (qG f.ty (by simp only[Ty.size];omega)) l.ty⟩,G,GC 1 [19,39,43,49,52,53,55,60,61,63] C E r P p z (VD s x) p M (OE .app (.lam s x) y)⟩
  ·obtain⟨s,c,N,F,r⟩:=PD K 0 (by omega) n;have N:s.size<=1:=N;obtain⟨x,d,f,o,z⟩:=A t g c H B (by omega) F;obtain⟨y,e,l,G,M⟩:=A s g d (by omega) B (by omega) o;exact⟨.n1 .fst (.n2 .pair x y),e,⟨⟨⟨f.sc,l.sc⟩,by have:=f.cnt;have:=l.cnt;simp only[Tm.cnt];omega,by have:=f.tsz;have:=l.tsz;simp only[Tm.tsz];omega⟩,sj (wJ f.ty l.ty (by simp only[Ty.size];omega))⟩,G,o9 1 [19,39,67,72,73,78,79,81,83] C E r p z p M (OE .pair x y) (HL .fst (.n2 .pair x y))⟩
  ·obtain⟨x,c,f,F,r⟩:=A t (g++[.nat,t]) b H (PE B (by simp[Ty.size];omega)) (by simp;omega) n;obtain⟨y,d,l,o,z⟩:=A t g c H B (by omega) F;obtain⟨v,e,Q,G,M⟩:=nx K o (n:=3) (by omega) (by omega);have P:=JE g [.nat,t] (by simp;omega);have X:=PJ (n:=v);have T:TG g.length 4 0 (AB v):=pb Q;exact⟨.n3 .re t y (.lam .nat (.lam t x)) (AB v),e,⟨⟨⟨l.sc,by have:=f.sc;simpa[Tm.sc]using this,T.sc⟩,by have:=f.cnt;have:=l.cnt;have:=T.cnt;simp only[Tm.cnt];omega,by have:=f.tsz;have:=l.tsz;have:=T.tsz;simp only[Tm.tsz,Ty.size];omega⟩,aS l.ty (ab f.ty (by simp only[Ty.size];omega)) (pS g v)⟩,G,Kz 1 [19,39,86,90,93,96,97,99,101,107,108,111,112,114] C E DA DA P p r (VD t x) (VD .nat (.lam t x)) p z M X (sO .re t y (.lam .nat (.lam t x)) (AB v))⟩
  ·obtain⟨x,c,f,F,r⟩:=A t (g++[.nat,.list,t]) b H (PE B (by simp[Ty.size];omega)) (by simp;omega) n;obtain⟨y,d,l,o,z⟩:=A t g c H B (by omega) F;obtain⟨v,e,R,G,M⟩:=A .list g d (by simp only[Ty.size];omega) B (by omega) o;have P:=JE g [.nat,.list,t] (by simp;omega);exact⟨.n3 .fo t y (.lam .nat (.lam .list (.lam t x))) v,e,⟨⟨⟨l.sc,by have:=f.sc;simpa[Tm.sc]using this,R.sc⟩,by have:=f.cnt;have:=l.cnt;have:=R.cnt;simp only[Tm.cnt];omega,by have:=f.tsz;have:=l.tsz;have:=R.tsz;simp only[Tm.tsz,Ty.size];omega⟩,aj l.ty (rj f.ty (by simp only[Ty.size];omega)) R.ty⟩,G,il 1 [19,39,117,118,122,123,126,129,130,132,134,136,142,143,147,149,150,152] C E DA dN DA dN P p r (VD t x) (VD .list (.lam t x)) (VD .nat (.lam .list (.lam t x))) p z dN p M (sO .fo t y (.lam .nat (.lam .list (.lam t x))) v)⟩
  ·obtain⟨s,c,N,F,r⟩:=PD K 0 (by omega) n;have N:s.size<=1:=N;obtain⟨y,d,l,o,z⟩:=A s g c (by omega) B (by omega) F;obtain⟨x,e,f,G,M⟩:=A t g d H B (by omega) o;exact⟨.n1 .snd (.n2 .pair y x),e,⟨⟨⟨l.sc,f.sc⟩,by have:=f.cnt;have:=l.cnt;simp only[Tm.cnt];omega,by have:=f.tsz;have:=l.tsz;simp only[Tm.tsz];omega⟩,tj (wJ l.ty f.ty (by simp only[Ty.size];omega))⟩,G,o9 1 [19,39,156,161,162,167,168,170,172] C E r p z p M (OE .pair y x) (HL .snd (.n2 .pair y x))⟩
  ·rcases xb A t B (by omega) n g.length 0 (by omega)with gl|⟨x,c,q,F,gl⟩
   ·have gl:=gl
    cases t with
    |unit=>exact⟨.n0 .unit,b,⟨⟨trivial,by simp only[Tm.cnt];omega,Nat.zero_le _⟩,rfl⟩,n,o4 1 [19,39,(100023,.l ZB (.exit 1) (fE L g .unit k b)),337] C E gl LP⟩|nat=>
     obtain⟨m,c,O,F,I⟩:=nx K n (n:=5) (by omega) (by omega);obtain⟨x,d,f,o,r⟩:=A .nat g c H B (by omega) F;obtain⟨y,e,l,G,z⟩:=A .nat g d H B (by omega) o;rcases m with _|_|_|m
     ·exact⟨.n1 .succ x,d,⟨⟨f.sc,by have:=f.cnt;simp only[Tm.cnt];omega,by have:=f.tsz;simp only[Tm.tsz];omega⟩,rS f.ty⟩,o,o7 1 [19,39,(100023,.l ZB (.exit 1) (fE L g .nat k b)),220,227,228,230] C E gl I p r (HL .succ x)⟩
     ·have J:=MV g.length S;exact⟨.n2 .app (.n2 .app plusT x) y,e,⟨⟨⟨⟨J.sc,f.sc⟩,l.sc⟩,by have:=f.cnt;have:=l.cnt;have:=J.cnt;simp only[Tm.cnt];omega,by have:=f.tsz;have:=l.tsz;have:=J.tsz;simp only[Tm.tsz];omega⟩,TD (TD (OV g) f.ty) l.ty⟩,G,GC 1 [19,39,(100023,.l ZB (.exit 1) (fE L g .nat k b)),220,233,238,239,244,245,247] C E gl I SS p r p z (jL plusT x y)⟩
     ·have J:=NV g.length S;exact⟨.n2 .app (.n2 .app subT x) y,e,⟨⟨⟨⟨J.sc,f.sc⟩,l.sc⟩,by have:=f.cnt;have:=l.cnt;have:=J.cnt;simp only[Tm.cnt];omega,by have:=f.tsz;have:=l.tsz;have:=J.tsz;simp only[Tm.tsz];omega⟩,TD (TD (QV g) f.ty) l.ty⟩,G,GC 1 [19,39,(100023,.l ZB (.exit 1) (fE L g .nat k b)),220,250,255,256,261,262,264] C E gl I BW p r p z (jL subT x y)⟩
     obtain⟨v,d,Q,o,gv⟩:=nx K F (n:=3) (by omega) (by omega);have U:=PJ (n:=v);exact⟨AB v,d,(IP g Q).mono (by omega) (Nat.zero_le _),o,o6 1 [19,39,(100023,.l ZB (.exit 1) (fE L g .nat k b)),220,266,267] C E gl I gv U⟩
    |list=>
     obtain⟨m,c,O,F,I⟩:=nx K n (n:=2) (by omega) (by omega)
     cases m with
     |zero=>
      obtain⟨x,d,f,o,r⟩:=A .nat g c (by simp only[Ty.size];omega) B (by omega) F;obtain⟨y,e,l,G,z⟩:=A .list g d H B (by omega) o;exact⟨.n2 .cons x y,e,⟨⟨⟨f.sc,l.sc⟩,by have:=f.cnt;have:=l.cnt;simp only[Tm.cnt];omega,by have:=f.tsz;have:=l.tsz;simp only[Tm.tsz];omega⟩,LV f.ty l.ty⟩,G,GC 1 [19,39,(100023,.l ZB (.exit 1) (fE L g .list k b)),274,279,281,282,287,288,290] C E gl I DA p r p z (OE .cons x y)⟩
     |succ m=>exact⟨.n0 .nil,c,⟨⟨trivial,by simp only[Tm.cnt];omega,Nat.zero_le _⟩,rfl⟩,F,o5 1 [19,39,(100023,.l ZB (.exit 1) (fE L g .list k b)),274,291] C E gl I KP⟩
    |two j s u=>
     have H:1+s.size+u.size<=S:=H
     cases j with
     |false=>
      obtain⟨x,d,f,o,r⟩:=A s g b (by omega) B (by omega) n;obtain⟨y,e,l,G,z⟩:=A u g d (by omega) B (by omega) o;exact⟨.n2 .pair x y,e,⟨⟨⟨f.sc,l.sc⟩,by have:=f.cnt;have:=l.cnt;simp only[Tm.cnt];omega,by have:=f.tsz;have:=l.tsz;simp only[Tm.tsz];omega⟩,wJ f.ty l.ty (by simp only[Ty.size];omega)⟩,G,o8 1 [19,39,(100023,.l ZB (.exit 1) (fE L g (.two false s u) k b)),301,302,310,311,313] C E gl p r p z (OE .pair x y)⟩
     |true=>
      obtain⟨x,d,f,o,r⟩:=A u (g++[s]) b (by omega) (PE B (by simp;omega)) (by simp;omega) n;have z:=JE g [s] (by simp;omega);exact⟨.lam s x,d,⟨⟨(by have:=f.sc;simpa[Tm.sc]using this),by have:=f.cnt;simp only[Tm.cnt];omega,by have:=f.tsz;simp only[Tm.tsz];omega⟩,qG f.ty (by simp only[Ty.size];omega)⟩,o,o7 1 [19,39,(100023,.l ZB (.exit 1) (fE L g (.two true s u) k b)),327,333,334,336] C E gl z p r (VD s x)⟩
   exact⟨x,c,q.mono (by omega) (Nat.le_refl _),F,o3 1 [19,39,(100023,.l ZB .ret (st [(8,.loc 2 0)] [(0,dk L c),(2,bx x.c)] 3 [0]))] C E gl⟩
  have V:=V
  cases t with
  |unit=>exact⟨.n0 .unit,b,⟨⟨trivial,by simp only[Tm.cnt];omega,Nat.zero_le _⟩,rfl⟩,n,o3 1 [19,39,337] C E LP⟩|nat=>
   obtain⟨m,c,O,F,I⟩:=nx K n (n:=5) (by omega) (by omega);obtain⟨x,d,f,o,r⟩:=A .nat g c H B (by omega) F;obtain⟨y,e,l,G,z⟩:=A .nat g d H B (by omega) o;rcases m with _|_|_|m
   ·exact⟨.n1 .succ x,d,⟨⟨f.sc,by have:=f.cnt;simp only[Tm.cnt];omega,by have:=f.tsz;simp only[Tm.tsz];omega⟩,rS f.ty⟩,o,o6 1 [19,39,220,227,228,230] C E I p r (HL .succ x)⟩
   ·have J:=MV g.length S;exact⟨.n2 .app (.n2 .app plusT x) y,e,⟨⟨⟨⟨J.sc,f.sc⟩,l.sc⟩,by have:=f.cnt;have:=l.cnt;have:=J.cnt;simp only[Tm.cnt];omega,by have:=f.tsz;have:=l.tsz;have:=J.tsz;simp only[Tm.tsz];omega⟩,TD (TD (OV g) f.ty) l.ty⟩,G,o9 1 [19,39,220,233,238,239,244,245,247] C E I SS p r p z (jL plusT x y)⟩
   ·have J:=NV g.length S;exact⟨.n2 .app (.n2 .app subT x) y,e,⟨⟨⟨⟨J.sc,f.sc⟩,l.sc⟩,by have:=f.cnt;have:=l.cnt;have:=J.cnt;simp only[Tm.cnt];omega,by have:=f.tsz;have:=l.tsz;have:=J.tsz;simp only[Tm.tsz];omega⟩,TD (TD (QV g) f.ty) l.ty⟩,G,o9 1 [19,39,220,250,255,256,261,262,264] C E I BW p r p z (jL subT x y)⟩
   obtain⟨v,d,Q,o,gv⟩:=nx K F (n:=3) (by omega) (by omega);have U:=PJ (n:=v);exact⟨AB v,d,(IP g Q).mono (by omega) (Nat.zero_le _),o,o5 1 [19,39,220,266,267] C E I gv U⟩
  |list=>
   obtain⟨m,c,O,F,I⟩:=nx K n (n:=2) (by omega) (by omega)
   cases m with
   |zero=>
    obtain⟨x,d,f,o,r⟩:=A .nat g c (by simp only[Ty.size];omega) B (by omega) F;obtain⟨y,e,l,G,z⟩:=A .list g d H B (by omega) o;exact⟨.n2 .cons x y,e,⟨⟨⟨f.sc,l.sc⟩,by have:=f.cnt;have:=l.cnt;simp only[Tm.cnt];omega,by have:=f.tsz;have:=l.tsz;simp only[Tm.tsz];omega⟩,LV f.ty l.ty⟩,G,o9 1 [19,39,274,279,281,282,287,288,290] C E I DA p r p z (OE .cons x y)⟩
   |succ m=>exact⟨.n0 .nil,c,⟨⟨trivial,by simp only[Tm.cnt];omega,Nat.zero_le _⟩,rfl⟩,F,o4 1 [19,39,274,291] C E I KP⟩
  |two j s u=>
   have H:1+s.size+u.size<=S:=H
   cases j with
   |false=>
    obtain⟨x,d,f,o,r⟩:=A s g b (by omega) B (by omega) n;obtain⟨y,e,l,G,z⟩:=A u g d (by omega) B (by omega) o;exact⟨.n2 .pair x y,e,⟨⟨⟨f.sc,l.sc⟩,by have:=f.cnt;have:=l.cnt;simp only[Tm.cnt];omega,by have:=f.tsz;have:=l.tsz;simp only[Tm.tsz];omega⟩,wJ f.ty l.ty (by simp only[Ty.size];omega)⟩,G,o7 1 [19,39,301,302,310,311,313] C E p r p z (OE .pair x y)⟩
   |true=>
    obtain⟨x,d,f,o,r⟩:=A u (g++[s]) b (by omega) (PE B (by simp;omega)) (by simp;omega) n;have z:=JE g [s] (by simp;omega);exact⟨.lam s x,d,⟨⟨(by have:=f.sc;simpa[Tm.sc]using this),by have:=f.cnt;simp only[Tm.cnt];omega,by have:=f.tsz;simp only[Tm.tsz];omega⟩,qG f.ty (by simp only[Ty.size];omega)⟩,o,o6 1 [19,39,327,333,334,336] C E z p r (VD s x)⟩
 obtain⟨w,b,V,n,E⟩:=nx K W (n:=8) (by omega) (by omega);rcases w with _|_|_|_|_|_|w
 ·obtain⟨s,c,N,F,r⟩:=PD K 0 (by omega) n;have N:s.size<=1:=N;obtain⟨x,d,f,o,z⟩:=A t (g++[s]) c H (PE B (by simp;omega)) (by simp;omega) F;obtain⟨y,e,l,G,M⟩:=A s g d (by omega) B (by omega) o;have P:=JE g [s] (by simp;omega);exact⟨.n2 .app (.lam s x) y,e,⟨⟨⟨by have:=f.sc;simpa[Tm.sc]using this,l.sc⟩,by have:=f.cnt;have:=l.cnt;simp only[Tm.cnt];omega,by have:=f.tsz;have:=l.tsz;simp only[Tm.tsz];omega⟩,TD (qG f.ty (by simp only[Ty.size];omega)) l.ty⟩,G,dK 1 [19,25,39,43,49,52,53,55,60,61,63] C D E r P p z (VD s x) p M (OE .app (.lam s x) y)⟩
 ·obtain⟨s,c,N,F,r⟩:=PD K 0 (by omega) n;have N:s.size<=1:=N;obtain⟨x,d,f,o,z⟩:=A t g c H B (by omega) F;obtain⟨y,e,l,G,M⟩:=A s g d (by omega) B (by omega) o;exact⟨.n1 .fst (.n2 .pair x y),e,⟨⟨⟨f.sc,l.sc⟩,by have:=f.cnt;have:=l.cnt;simp only[Tm.cnt];omega,by have:=f.tsz;have:=l.tsz;simp only[Tm.tsz];omega⟩,sj (wJ f.ty l.ty (by simp only[Ty.size];omega))⟩,G,GC 1 [19,25,39,67,72,73,78,79,81,83] C D E r p z p M (OE .pair x y) (HL .fst (.n2 .pair x y))⟩
 ·obtain⟨x,c,f,F,r⟩:=A t (g++[.nat,t]) b H (PE B (by simp[Ty.size];omega)) (by simp;omega) n;obtain⟨y,d,l,o,z⟩:=A t g c H B (by omega) F;obtain⟨v,e,Q,G,M⟩:=nx K o (n:=3) (by omega) (by omega);have P:=JE g [.nat,t] (by simp;omega);have X:=PJ (n:=v);have T:TG g.length 4 0 (AB v):=pb Q;exact⟨.n3 .re t y (.lam .nat (.lam t x)) (AB v),e,⟨⟨⟨l.sc,by have:=f.sc;simpa[Tm.sc]using this,T.sc⟩,by have:=f.cnt;have:=l.cnt;have:=T.cnt;simp only[Tm.cnt];omega,by have:=f.tsz;have:=l.tsz;have:=T.tsz;simp only[Tm.tsz,Ty.size];omega⟩,aS l.ty (ab f.ty (by simp only[Ty.size];omega)) (pS g v)⟩,G,Lz 1 [19,25,39,86,90,93,96,97,99,101,107,108,111,112,114] C D E DA DA P p r (VD t x) (VD .nat (.lam t x)) p z M X (sO .re t y (.lam .nat (.lam t x)) (AB v))⟩
 ·obtain⟨x,c,f,F,r⟩:=A t (g++[.nat,.list,t]) b H (PE B (by simp[Ty.size];omega)) (by simp;omega) n;obtain⟨y,d,l,o,z⟩:=A t g c H B (by omega) F;obtain⟨v,e,R,G,M⟩:=A .list g d (by simp only[Ty.size];omega) B (by omega) o;have P:=JE g [.nat,.list,t] (by simp;omega);exact⟨.n3 .fo t y (.lam .nat (.lam .list (.lam t x))) v,e,⟨⟨⟨l.sc,by have:=f.sc;simpa[Tm.sc]using this,R.sc⟩,by have:=f.cnt;have:=l.cnt;have:=R.cnt;simp only[Tm.cnt];omega,by have:=f.tsz;have:=l.tsz;have:=R.tsz;simp only[Tm.tsz,Ty.size];omega⟩,aj l.ty (rj f.ty (by simp only[Ty.size];omega)) R.ty⟩,G,Mz 1 [19,25,39,117,118,122,123,126,129,130,132,134,136,142,143,147,149,150,152] C D E DA dN DA dN P p r (VD t x) (VD .list (.lam t x)) (VD .nat (.lam .list (.lam t x))) p z dN p M (sO .fo t y (.lam .nat (.lam .list (.lam t x))) v)⟩
 ·obtain⟨s,c,N,F,r⟩:=PD K 0 (by omega) n;have N:s.size<=1:=N;obtain⟨y,d,l,o,z⟩:=A s g c (by omega) B (by omega) F;obtain⟨x,e,f,G,M⟩:=A t g d H B (by omega) o;exact⟨.n1 .snd (.n2 .pair y x),e,⟨⟨⟨l.sc,f.sc⟩,by have:=f.cnt;have:=l.cnt;simp only[Tm.cnt];omega,by have:=f.tsz;have:=l.tsz;simp only[Tm.tsz];omega⟩,tj (wJ l.ty f.ty (by simp only[Ty.size];omega))⟩,G,GC 1 [19,25,39,156,161,162,167,168,170,172] C D E r p z p M (OE .pair y x) (HL .snd (.n2 .pair y x))⟩
 ·rcases xb A t B (by omega) n g.length 0 (by omega)with gl|⟨x,c,q,F,gl⟩
  ·have gl:=gl
   cases t with
   |unit=>exact⟨.n0 .unit,b,⟨⟨trivial,by simp only[Tm.cnt];omega,Nat.zero_le _⟩,rfl⟩,n,o5 1 [19,25,39,(100023,.l ZB (.exit 1) (fE L g .unit k b)),337] C D E gl LP⟩|nat=>
    obtain⟨m,c,O,F,I⟩:=nx K n (n:=5) (by omega) (by omega);obtain⟨x,d,f,o,r⟩:=A .nat g c H B (by omega) F;obtain⟨y,e,l,G,z⟩:=A .nat g d H B (by omega) o;rcases m with _|_|_|m
    ·exact⟨.n1 .succ x,d,⟨⟨f.sc,by have:=f.cnt;simp only[Tm.cnt];omega,by have:=f.tsz;simp only[Tm.tsz];omega⟩,rS f.ty⟩,o,o8 1 [19,25,39,(100023,.l ZB (.exit 1) (fE L g .nat k b)),220,227,228,230] C D E gl I p r (HL .succ x)⟩
    ·have J:=MV g.length S;exact⟨.n2 .app (.n2 .app plusT x) y,e,⟨⟨⟨⟨J.sc,f.sc⟩,l.sc⟩,by have:=f.cnt;have:=l.cnt;have:=J.cnt;simp only[Tm.cnt];omega,by have:=f.tsz;have:=l.tsz;have:=J.tsz;simp only[Tm.tsz];omega⟩,TD (TD (OV g) f.ty) l.ty⟩,G,dK 1 [19,25,39,(100023,.l ZB (.exit 1) (fE L g .nat k b)),220,233,238,239,244,245,247] C D E gl I SS p r p z (jL plusT x y)⟩
    ·have J:=NV g.length S;exact⟨.n2 .app (.n2 .app subT x) y,e,⟨⟨⟨⟨J.sc,f.sc⟩,l.sc⟩,by have:=f.cnt;have:=l.cnt;have:=J.cnt;simp only[Tm.cnt];omega,by have:=f.tsz;have:=l.tsz;have:=J.tsz;simp only[Tm.tsz];omega⟩,TD (TD (QV g) f.ty) l.ty⟩,G,dK 1 [19,25,39,(100023,.l ZB (.exit 1) (fE L g .nat k b)),220,250,255,256,261,262,264] C D E gl I BW p r p z (jL subT x y)⟩
    obtain⟨v,d,Q,o,gv⟩:=nx K F (n:=3) (by omega) (by omega);have U:=PJ (n:=v);exact⟨AB v,d,(IP g Q).mono (by omega) (Nat.zero_le _),o,o7 1 [19,25,39,(100023,.l ZB (.exit 1) (fE L g .nat k b)),220,266,267] C D E gl I gv U⟩
   |list=>
    obtain⟨m,c,O,F,I⟩:=nx K n (n:=2) (by omega) (by omega)
    cases m with
    |zero=>
     obtain⟨x,d,f,o,r⟩:=A .nat g c (by simp only[Ty.size];omega) B (by omega) F;obtain⟨y,e,l,G,z⟩:=A .list g d H B (by omega) o;exact⟨.n2 .cons x y,e,⟨⟨⟨f.sc,l.sc⟩,by have:=f.cnt;have:=l.cnt;simp only[Tm.cnt];omega,by have:=f.tsz;have:=l.tsz;simp only[Tm.tsz];omega⟩,LV f.ty l.ty⟩,G,dK 1 [19,25,39,(100023,.l ZB (.exit 1) (fE L g .list k b)),274,279,281,282,287,288,290] C D E gl I DA p r p z (OE .cons x y)⟩
    |succ m=>exact⟨.n0 .nil,c,⟨⟨trivial,by simp only[Tm.cnt];omega,Nat.zero_le _⟩,rfl⟩,F,o6 1 [19,25,39,(100023,.l ZB (.exit 1) (fE L g .list k b)),274,291] C D E gl I KP⟩
   |two j s u=>
    have H:1+s.size+u.size<=S:=H
    cases j with
    |false=>
     obtain⟨x,d,f,o,r⟩:=A s g b (by omega) B (by omega) n;obtain⟨y,e,l,G,z⟩:=A u g d (by omega) B (by omega) o;exact⟨.n2 .pair x y,e,⟨⟨⟨f.sc,l.sc⟩,by have:=f.cnt;have:=l.cnt;simp only[Tm.cnt];omega,by have:=f.tsz;have:=l.tsz;simp only[Tm.tsz];omega⟩,wJ f.ty l.ty (by simp only[Ty.size];omega)⟩,G,o9 1 [19,25,39,(100023,.l ZB (.exit 1) (fE L g (.two false s u) k b)),301,302,310,311,313] C D E gl p r p z (OE .pair x y)⟩
    |true=>
     obtain⟨x,d,f,o,r⟩:=A u (g++[s]) b (by omega) (PE B (by simp;omega)) (by simp;omega) n;have z:=JE g [s] (by simp;omega);exact⟨.lam s x,d,⟨⟨(by have:=f.sc;simpa[Tm.sc]using this),by have:=f.cnt;simp only[Tm.cnt];omega,by have:=f.tsz;simp only[Tm.tsz];omega⟩,qG f.ty (by simp only[Ty.size];omega)⟩,o,o8 1 [19,25,39,(100023,.l ZB (.exit 1) (fE L g (.two true s u) k b)),327,333,334,336] C D E gl z p r (VD s x)⟩
  exact⟨x,c,q.mono (by omega) (Nat.le_refl _),F,o4 1 [19,25,39,(100023,.l ZB .ret (st [(8,.loc 2 0)] [(0,dk L c),(2,bx x.c)] 3 [0]))] C D E gl⟩
 have V:=V
 cases t with
 |unit=>exact⟨.n0 .unit,b,⟨⟨trivial,by simp only[Tm.cnt];omega,Nat.zero_le _⟩,rfl⟩,n,o4 1 [19,25,39,337] C D E LP⟩|nat=>
  obtain⟨m,c,O,F,I⟩:=nx K n (n:=5) (by omega) (by omega);obtain⟨x,d,f,o,r⟩:=A .nat g c H B (by omega) F;obtain⟨y,e,l,G,z⟩:=A .nat g d H B (by omega) o;rcases m with _|_|_|m
  ·exact⟨.n1 .succ x,d,⟨⟨f.sc,by have:=f.cnt;simp only[Tm.cnt];omega,by have:=f.tsz;simp only[Tm.tsz];omega⟩,rS f.ty⟩,o,o7 1 [19,25,39,220,227,228,230] C D E I p r (HL .succ x)⟩
  ·have J:=MV g.length S;exact⟨.n2 .app (.n2 .app plusT x) y,e,⟨⟨⟨⟨J.sc,f.sc⟩,l.sc⟩,by have:=f.cnt;have:=l.cnt;have:=J.cnt;simp only[Tm.cnt];omega,by have:=f.tsz;have:=l.tsz;have:=J.tsz;simp only[Tm.tsz];omega⟩,TD (TD (OV g) f.ty) l.ty⟩,G,GC 1 [19,25,39,220,233,238,239,244,245,247] C D E I SS p r p z (jL plusT x y)⟩
  ·have J:=NV g.length S;exact⟨.n2 .app (.n2 .app subT x) y,e,⟨⟨⟨⟨J.sc,f.sc⟩,l.sc⟩,by have:=f.cnt;have:=l.cnt;have:=J.cnt;simp only[Tm.cnt];omega,by have:=f.tsz;have:=l.tsz;have:=J.tsz;simp only[Tm.tsz];omega⟩,TD (TD (QV g) f.ty) l.ty⟩,G,GC 1 [19,25,39,220,250,255,256,261,262,264] C D E I BW p r p z (jL subT x y)⟩
  obtain⟨v,d,Q,o,gv⟩:=nx K F (n:=3) (by omega) (by omega);have U:=PJ (n:=v);exact⟨AB v,d,(IP g Q).mono (by omega) (Nat.zero_le _),o,o6 1 [19,25,39,220,266,267] C D E I gv U⟩
 |list=>
  obtain⟨m,c,O,F,I⟩:=nx K n (n:=2) (by omega) (by omega)
  cases m with
  |zero=>
   obtain⟨x,d,f,o,r⟩:=A .nat g c (by simp only[Ty.size];omega) B (by omega) F;obtain⟨y,e,l,G,z⟩:=A .list g d H B (by omega) o;exact⟨.n2 .cons x y,e,⟨⟨⟨f.sc,l.sc⟩,by have:=f.cnt;have:=l.cnt;simp only[Tm.cnt];omega,by have:=f.tsz;have:=l.tsz;simp only[Tm.tsz];omega⟩,LV f.ty l.ty⟩,G,GC 1 [19,25,39,274,279,281,282,287,288,290] C D E I DA p r p z (OE .cons x y)⟩
  |succ m=>exact⟨.n0 .nil,c,⟨⟨trivial,by simp only[Tm.cnt];omega,Nat.zero_le _⟩,rfl⟩,F,o5 1 [19,25,39,274,291] C D E I KP⟩
 |two j s u=>
  have H:1+s.size+u.size<=S:=H
  cases j with
  |false=>
   obtain⟨x,d,f,o,r⟩:=A s g b (by omega) B (by omega) n;obtain⟨y,e,l,G,z⟩:=A u g d (by omega) B (by omega) o;exact⟨.n2 .pair x y,e,⟨⟨⟨f.sc,l.sc⟩,by have:=f.cnt;have:=l.cnt;simp only[Tm.cnt];omega,by have:=f.tsz;have:=l.tsz;simp only[Tm.tsz];omega⟩,wJ f.ty l.ty (by simp only[Ty.size];omega)⟩,G,o8 1 [19,25,39,301,302,310,311,313] C D E p r p z (OE .pair x y)⟩
  |true=>
   obtain⟨x,d,f,o,r⟩:=A u (g++[s]) b (by omega) (PE B (by simp;omega)) (by simp;omega) n;have z:=JE g [s] (by simp;omega);exact⟨.lam s x,d,⟨⟨(by have:=f.sc;simpa[Tm.sc]using this),by have:=f.cnt;simp only[Tm.cnt];omega,by have:=f.tsz;simp only[Tm.tsz];omega⟩,qG f.ty (by simp only[Ty.size];omega)⟩,o,o7 1 [19,25,39,327,333,334,336] C D E z p r (VD s x)⟩
def kO{L:List Int}(b:Dk L){S:Nat}(c:3<=S)(a:S<=20):∀k,fF L S k|0=>Qw b S a|k+1=>Sw b c a (kO b c a k)
structure NX(K:Nat)(f:Fm):Prop where
 n0:K<=1->f.ne=0
 n1:K<=6->f.ne<=1
 x:K<=16->f.gx
def NX.eq{K:Nat}{a b:Tm}:NX K (.eq a b):=⟨λ_=>rfl,λ_=>c6 _,λ_=>trivial⟩
def NX.bin{K:Nat}{k:FB}{f g:Fm}(h:NX K f)(a:NX K g):NX (4+2*K) (.bin k f g):=
 ⟨λe=>absurd e a6,λe=>by have:=h.n0 a6;have:=a.n0 a6;grind[Fm.ne],λe=>⟨h.x a6,a.x a6⟩⟩
def NX.q{K:Nat}{k:FQ}{s:Ty}{f:Fm}(h:NX K f):NX (4+2*K) (.q k s f):=
 ⟨λe=>absurd e a6,λe=>by have:=h.n0 a6;cases k<;>simp only[Fm.ne]<;>omega,λe=>⟨h.x a6,λ_=>.inr (h.n1 a6)⟩⟩
structure FG(n C S K:Nat)(f:Fm):Prop where
 sc:f.sc n
 cnt:f.cnt<=C
 tsz:f.tsz<=S
 csz:f.csz<=K
 nx:NX K f
structure FT(g:List Ty)(C S K:Nat)(f:Fm):Prop extends FG g.length C S K f where
 ty:f.ty g
def fb:Nat->Nat|0=>1+2*tb 3 1|k+1=>1+2*fb k
def cb:Nat->Nat|0=>1|k+1=>4+2*cb k
abbrev Bb(L:List Int)(g:List Ty)(k a:Nat)(f:Fm)(b:Nat):Prop:=O 21 [.loc 0 0,.pv (rA g),.pv (num k)] [(0,dk L a)] (.pv f.p) [(0,dk L b)]
def Aj:∀k,473<=fb (k+1)|0=>by decide|k+1=>by have:=Aj k;have e:fb (k+1+1)=1+2*fb (k+1):=rfl;omega
def lF(L:List Int)(k:Nat):Prop:=∀(g:List Ty)(a:Nat),(∀s∈g,s.size<=3)->g.length+k<=100000->a<=L.length->∃(f:Fm)(b:Nat),FT g (fb k) 3 (cb k) f/\b<=L.length/\Bb L g k a f b
def iS{L:List Int}(c:Dk L){t:Ty}{g:List Ty}{a:Nat}(d:t.size<=3)(e:∀s∈g,s.size<=3)(j:g.length<=900000)(f:a<=L.length):∃(x:Tm)(b:Nat),TT g t 236 3 x/\b<=L.length/\JP L g t (num 1) a x b:=by
 have⟨x,b,q,i,h⟩:=kO c (S:=3) (e6 _) a6 1 t g a d e a6 f;exact⟨x,b,q,i,h⟩
def gE{L:List Int}(c:Dk L){t:Ty}{g:List Ty}{a:Nat}(d:t.size<=3)(e:∀s∈g,s.size<=3)(f:g.length<=900000)(i:a<=L.length):∃(x:Tm)(b:Nat),TG g.length 236 3 x/\b<=L.length/\JP L g t (num 1) a x b:=by
 have⟨x,b,q,h⟩:=iS c d e f i;exact⟨x,b,q.toTG,h⟩
def Cb{s:Ty}(h:s.size<=64:=by omega):Nat.beq s.chk 0=true:=by rw[RH,ckE_0.2 h];rfl
def sI:∀t:Tm,t.tsz<=64->t.shp=true
 |.v _,_=>rfl|.lam s b,h=>by
  have h:max s.size b.tsz<=64:=h;show(_&&_)=true;rw[sI b a6,Cb];rfl
 |.n0 _,_=>rfl|.n1 _ a,h=>sI a h|.n2 _ a b,h=>by
  have h:max a.tsz b.tsz<=64:=h;show(_&&_)=true;rw[sI a a6,sI b a6];rfl
 |.n3 _ s a b c,h=>by
  simp only[Tm.tsz]at h;simp only[Tm.shp];rw[sI a a6,sI b a6,sI c a6,Cb];rfl
def TT.ck{g:List Ty}{t:Ty}{C S:Nat}{x:Tm}(h:TT g t C S x)(a:C<=4096)(a:S<=64):x.chk=0:=by
 have:=h.cnt;have:=h.tsz;unfold Tm.chk;rw[sI x a6];simp only;rw[iA a6]
theorem Tw{L:List Int}(f:Dk L):lF L 0:=by
 intro g a h n i;have:fb 0=473:=rfl;have ek:cb 0=1:=rfl;have⟨x,c,b,j,k⟩:=iS f (t:=.nat) (g:=g) bb h a6 i;have⟨y,d,e,l,m⟩:=iS f (t:=.nat) (g:=g) bb h a6 j;exact⟨.eq x y,d,⟨⟨⟨b.sc,e.sc⟩,by have:=b.cnt;have:=e.cnt;grind[Fm.cnt],by have:=b.tsz;have:=e.tsz;grind[Fm.tsz],by grind[Fm.csz],.eq⟩,⟨⟨b.ck bb bb,b.ty⟩,e.ck bb bb,e.ty⟩⟩,l,o4 1 [88,92,96,97] DA k m (kG x y)⟩
theorem Uw{L:List Int}(z:Dk L){k:Nat}(o:lF L k)(C:k<=100):lF L (k+1):=by
 intro g a n E D;have F:=zA;have G:=yA;have H:fb (k+1)=1+2*fb k:=rfl;have ek:cb (k+1)=4+2*cb k:=rfl;have I:473<=fb k:=by cases k with|zero=>exact e6 _|succ k=>exact Aj _
 have p:=lC (a:=k+1);have⟨w,b,J,h,t⟩:=nx z D (n:=9) a6 a6;rcases w with _|_|_|_|_|_|_|w
 ·have⟨x,c,e,m,l⟩:=o g b n a6 h;have⟨y,d,f,i,j⟩:=o g c n a6 m;exact⟨.bin .and x y,d,⟨⟨⟨e.sc,f.sc⟩,by have:=e.cnt;have:=f.cnt;grind[Fm.cnt],by have:=e.tsz;have:=f.tsz;grind[Fm.tsz],by have:=e.csz;have:=f.csz;grind[Fm.csz],.bin e.nx f.nx⟩,⟨e.ty,f.ty⟩⟩,i,o6 1 [14,20,21,25,26,27] t p l p j (TS .and x y)⟩
 ·have⟨x,c,e,m,l⟩:=o g b n a6 h;have⟨y,d,f,i,j⟩:=o g c n a6 m;exact⟨.bin .imp x y,d,⟨⟨⟨e.sc,f.sc⟩,by have:=e.cnt;have:=f.cnt;grind[Fm.cnt],by have:=e.tsz;have:=f.tsz;grind[Fm.tsz],by have:=e.csz;have:=f.csz;grind[Fm.csz],.bin e.nx f.nx⟩,⟨e.ty,f.ty⟩⟩,i,o6 1 [14,34,35,39,40,41] t p l p j (TS .imp x y)⟩
 ·have⟨x,c,e,m,l⟩:=o g b n a6 h;have⟨y,d,f,i,j⟩:=o g c n a6 m;exact⟨.bin .imp x y,d,⟨⟨⟨e.sc,f.sc⟩,by have:=e.cnt;have:=f.cnt;grind[Fm.cnt],by have:=e.tsz;have:=f.tsz;grind[Fm.tsz],by have:=e.csz;have:=f.csz;grind[Fm.csz],.bin e.nx f.nx⟩,⟨e.ty,f.ty⟩⟩,i,o6 1 [14,34,35,39,40,41] t p l p j (TS .imp x y)⟩
 ·have⟨s,c,r,m,l⟩:=PD z 1 a6 h;have r:s.size<=3:=hV r bb;have⟨x,d,e,i,j⟩:=o (g++[s]) c (PE n a9) a9 m;have u:=JE g [s] a9;exact⟨.q .all s x,d,⟨⟨by have:=e.sc;grind[Fm.sc],by have:=e.cnt;grind[Fm.cnt],by have:=e.tsz;grind[Fm.tsz],by have:=e.csz;grind[Fm.csz],.q e.nx⟩,e.ty⟩,i,o6 1 [14,46,52,54,55,56] t l u p j (EE .all s x)⟩
 ·have⟨s,c,r,m,l⟩:=PD z 1 a6 h;have r:s.size<=3:=hV r bb;have⟨x,d,e,i,j⟩:=o (g++[s]) c (PE n a9) a9 m;have u:=JE g [s] a9;exact⟨.q .all s x,d,⟨⟨by have:=e.sc;grind[Fm.sc],by have:=e.cnt;grind[Fm.cnt],by have:=e.tsz;grind[Fm.tsz],by have:=e.csz;simp only[Fm.csz];omega,.q e.nx⟩,e.ty⟩,i,o6 1 [14,46,52,54,55,56] t l u p j (EE .all s x)⟩
 ·have⟨s,c,r,m,l⟩:=PD z 1 a6 h;have r:s.size<=3:=hV r bb;have⟨x,d,e,i,j⟩:=o (g++[s]) c (PE n a9) a9 m;have u:=JE g [s] a9;exact⟨.q .ex s x,d,⟨⟨by have:=e.sc;simpa[Fm.sc]using this,by have:=e.cnt;simp only[Fm.cnt];omega,by have:=e.tsz;simp only[Fm.tsz];omega,by have:=e.csz;simp only[Fm.csz];omega,.q e.nx⟩,e.ty⟩,i,o6 1 [14,60,66,68,69,70] t l u p j (EE .ex s x)⟩
 ·have⟨s,c,r,m,l⟩:=PD z 0 a6 h;have r:s.size<=3:=hV r bb;have⟨v,B,K,A,gv⟩:=nx z m (n:=2) a6 a6;rcases v with _|_|v
  ·have⟨x,d,e,i,j⟩:=o (g++[s]) B (PE n a9) a9 A;have u:=JE g [s] a9;exact⟨.q .allU s x,d,⟨⟨by have:=e.sc;simpa[Fm.sc]using this,by have:=e.cnt;simp only[Fm.cnt];omega,by have:=e.tsz;simp only[Fm.tsz];omega,by have:=e.csz;simp only[Fm.csz];omega,.q e.nx⟩,e.ty⟩,i,o7 1 [14,74,76,83,85,86,87] t l gv u p j (EE .allU s x)⟩
  ·have⟨x,d,e,i,j⟩:=o (g++[s]) B (PE n a9) a9 A;have u:=JE g [s] a9;exact⟨.q .exU s x,d,⟨⟨by have:=e.sc;simpa[Fm.sc]using this,by have:=e.cnt;simp only[Fm.cnt];omega,by have:=e.tsz;simp only[Fm.tsz];omega,by have:=e.csz;simp only[Fm.csz];omega,.q e.nx⟩,e.ty⟩,i,o7 1 [14,74,76,83,85,86,87] t l gv u p j (EE .exU s x)⟩
  omega
 have⟨x,c,e,m,l⟩:=iS z (t:=.nat) (g:=g) bb n a6 h;have⟨y,d,f,i,j⟩:=iS z (t:=.nat) (g:=g) bb n a6 m;exact⟨.eq x y,d,⟨⟨⟨e.sc,f.sc⟩,by have:=e.cnt;have:=f.cnt;simp only[Fm.cnt];omega,by have:=e.tsz;have:=f.tsz;simp only[Fm.tsz];omega,by simp only[Fm.csz];omega,.eq⟩,⟨⟨e.ck bb bb,e.ty⟩,f.ck bb bb,f.ty⟩⟩,i,o5 1 [14,88,92,96,97] t DA l j (kG x y)⟩
def QE{L:List Int}(a:Dk L):∀k,k<=100->lF L k
 :=by intro x;induction x<;>grind[Tw,Uw,lF]
abbrev FS(g:List Ty)(f:Fm):Prop:=FT g 1895 3 16 f
def RV{L:List Int}(c:Dk L){g:List Ty}{a:Nat}(d:∀s∈g,s.size<=3)(e:g.length<=1000)(e:a<=L.length):∃(f:Fm)(b:Nat),FS g f/\b<=L.length/\Bb L g 2 a f b:=
 QE c 2 a6 g a d a6 e
def Vw{L:List Int}(c:Dk L){g:List Ty}{a:Nat}(d:∀s∈g,s.size<=3)(i:g.length<=1000)(e:a<=L.length):∃(f:Fm)(b:Nat),FG g.length 947 3 6 f/\b<=L.length/\Bb L g 1 a f b:=by
 have⟨f,b,q,h⟩:=QE c 1 a6 g a d a6 e;exact⟨f,b,q.toFG,h⟩
open Go.Lg
abbrev Bj:Kp:=⟨[1,4,5,14,15,16],[1,2,4],5,[]⟩
abbrev oS:List PV:=[.nils,.nils]
def Cj(G:PV)(t:Ty){hs:List Fm}(i:hs.length<=qA):∀(r:List Fm)(k v:Nat)(A:List (List PV)),hs.drop k=r->A.length=k->(∀f∈r,f.mx<=qA*qA/\f.cnt<=qA)->
  ∃a,Lp 68 0 0 (st [(1,.pv (rA [t])),(4,.loc 1 0),(5,.loc 2 0),(14,.pv (uA hs)),(15,.pv (num (hs.map Fm.c).length)),(16,.pv (num k))] [(1,bx oS),(2,.box [.pv G,.arr 4 v A.length]),(4,.arr v 5 41 (vA A))] 5 []) (.exit 0) (st [(4,.loc 1 0),(5,.loc 2 0)] [(1,bx oS),(2,.box [.pv G,.arr 4 a (A.length+r.length)]),(4,.arr a 5 41 (vA (A++r.map λf=>(f.sh 0 1).c)))] 5 [])
 |[],k,v,A,h,d,b=>by
  have e:dA (.ofNat k) (.ofNat (hs.map Fm.c).length)=false:=iA bS;simp only[i2,hI,iq,ir];exact⟨v,y1 [17] ⟨[4,5],[1,2,4],5,[]⟩ e (BB A)⟩
 |f::r,k,v,A,h,d,b=>by
  have:=zA;have⟨j,s,l⟩:=uC h;have e:dA (.ofNat k) (.ofNat (hs.map Fm.c).length)=true:=KA bS;have c:=b f a8;have m:=WD f 0 1 a6 a6 c.1 a6;have n:=YD (A:=A) (v:=v) (ty:=41) (m:=88) (c:=(f.sh 0 1).c) (show 0<5 by decide) rfl rfl (by simp only[maxLen];omega) a6;have o:=BA (show k+1<=_ by omega);have⟨a,g⟩:=Cj G t i r (k+1) (v+1) (A++[(f.sh 0 1).c]) l (by simp[d]) (λf c=>b f (by simp[c]));rw[gD,show(A++[(f.sh 0 1).c]).length=A.length+1 by simp,show A.length+1+r.length=A.length+(f::r).length by simp;omega,gy]at g;exact⟨a,n7 [17,(18,.i f.c),25,(27,.ok),(29,.ok)] Bj e (EA j Fm.c_len) m n o (dB A (f.sh 0 1).c) g⟩
abbrev iD(hs:List Fm):List Fm:=hs.map (Fm.sh 0 1)
def MP(g:List Ty)(hs:List Fm)(t:Ty)(m:g.length<=1000000)(h:hs.length<=qA)(b:∀f∈hs,f.mx<=qA*qA/\f.cnt<=qA):A 68 [AA g hs,rA [t]] (AA (g++[t]) (iD hs)):=by
 have:=zA;have c:=JE g [t] a9
 cases hs with
 |nil=>exact f1 [11] c|cons f r=>
  generalize o:rA (g++[t])=G at *
  have i:=b f a8;have⟨v,d⟩:=Cj G t (hs:=f::r) h r 1 1 [(f.sh 0 1).c] rfl rfl (λx j=>b x (by simp[j]));have k:[(f.sh 0 1).c]++r.map (λf=>(f.sh 0 1).c)=(iD (f::r)).map Fm.c:=by simp[abl]
  rw[k]at d;have a:=LoopIs.fz a8 d 4 (ver:=v) (sz:=5) (ty:=41) (ps:=(iD (f::r)).map Fm.c) rfl bG;rw[show([(f.sh 0 1).c]:List (List PV)).length+r.length=r.length+1 by simp;omega]at a;simp (decide:=true) only[eD,XC,VB,sC,UC,bx,List.map,BC,and_self,↓reduceIte]at a;rw[gu a8]at a;have e:dA (.ofNat 0) (.ofNat ((f::r).map Fm.c).length)=true:=KA a8;have l:Lp 68 0 0 (st [(1,.pv (rA [t])),(4,.loc 1 0),(5,.loc 2 0),(14,.pv (uA (f::r))),(15,.pv (num ((f::r).map Fm.c).length)),(16,.pv (num 0))] [(1,bx oS),(2,bx [G,.nils])] 3 []) (.exit 0) (st [(4,.loc 1 0),(5,.loc 2 0)] [(1,bx oS),(2,bx [G,uA (iD (f::r))])] 5 []):=
   n6 [17,(18,.i f.c),25,(29,.ok)] Bj e (EA (g:=f::r) (k:=0) rfl Fm.c_len) (WD f 0 1 a6 a6 i.1 a6) (BA (show 0+1<=_ by omega)) (dB [] (f.sh 0 1).c) a
  exact f2 [11,(100003,.l ⟨[1,4,5,14,15,16],[1,2],3,[]⟩ (.exit 0) (st [(4,.loc 1 0),(5,.loc 2 0)] [(1,bx oS),(2,bx [rA (g++[t]),uA (iD (f::r))])] 5 []))] c l
structure PG(C X:Nat)(p:Pf):Prop where
 cnt:p.cnt<=C
 tsz:p.tsz<=qA
 mx:p.mx<=X
 gx:p.gx
abbrev kC:Nat:=1048576
abbrev tI:Nat:=mA*16384
def SV:tI=137438953472:=rfl
def cp:Nat->Nat|0=>300|k+1=>2*cp k+10000
def cm:Nat->Nat|0=>kC|k+1=>2*cm k+tI+4*kC
def NP:∀k,kC<=cm k|0=>e6 _|k+1=>by have:=NP k;have e:cm (k+1)=2*cm k+tI+4*kC:=rfl;omega
abbrev FBd(Z:Nat)(f:Fm):Prop:=f.cnt<=4096/\f.tsz<=qA/\f.mx<=Z
structure S19(Z:Nat)(ls:List Fm)(g:List Ty)(hs:List Fm):Prop where
 ll:ls.length<=3
 lb:∀f∈ls,FBd Z f
 gl:g.length<=10
 gs:∀s∈g,s.size<=3
 hl:hs.length<=10
 hb:∀f∈hs,FBd Z f
 z:kC<=Z
 lx:∀f∈ls,f.gx
 hx:∀f∈hs,f.gx
def FG.fbd{n C K Z:Nat}{f:Fm}(h:FG n C 3 K f)(a:n<=1000)(a:C<=4096)(a:kC<=Z):FBd Z f:=by
 have:=zA;have:=h.cnt;have:=h.tsz;have:=iQ f n h.sc;have e:kC=1048576:=rfl;omega
theorem TG.mx{n C S:Nat}{x:Tm}(h:TG n C S x):x.mx<=n+C:=by have:=kX x n h.sc;have:=h.cnt;omega
def S19.with{Z b:Nat}{e:List Fm}{g:List Ty}{hs:List Fm}{f:Fm}(h:S19 Z e g hs)(j:FBd b f)(i:f.gx)(d:Z<=b)(k:hs.length<10):S19 b e g (hs++[f]):=
 ⟨h.ll,λx a=>⟨(h.lb x a).1,(h.lb x a).2.1,hV (h.lb x a).2.2 d⟩,h.gl,h.gs,a9,λx a=>by
  rcases eh.1 a with a|a
  ·exact⟨(h.hb x a).1,(h.hb x a).2.1,hV (h.hb x a).2.2 d⟩
  grind,hV h.z d,h.lx,uR h.hx i⟩
def FBd.up{Z:Nat}{f:Fm}(h:FBd Z f):FBd (Z+1) (f.sh 0 1):=by
 have:=yH 1 f 0
 grind[MD,kH]
def S19.below{Z:Nat}{b:List Fm}{g:List Ty}{c:List Fm}{t:Ty}(h:S19 Z b g c)(e:t.size<=3)(i:g.length<10):S19 (Z+1) b (g++[t]) (iD c):=
 ⟨h.ll,λx a=>⟨(h.lb x a).1,(h.lb x a).2.1,aaR (h.lb x a).2.2⟩,a9,PE h.gs bS,by simp;exact h.hl,λx a=>by
  obtain⟨f,d,rfl⟩:=iy.1 a;exact FBd.up (h.hb f d),aaR h.z,h.lx,yR (k:=1) h.hx⟩
def IL(t:Tm):Pf:=.ind false (.eq pl0 (.v 0)) t (.refl (AB 0)) stepP
def Ww(t:Tm):A 76 [t.p] (IL t).p:=by
 have b:=SS;have a:=PJ (n:=0);have c:A 61 [plusT.p,row [AB 0,.v 0]] pl0.p:=jL plusT (AB 0) (.v 0);have d:=kG pl0 (.v 0);have e:A 46 [num 5,row [.v 0]] (Tm.n1 .succ (.v 0)).p:=QS 5 (.v 0);have f:A 59 [num 2,Ty.nat.p,row [.n1 .succ (.v 0)]] sucT.p:=VD .nat (.n1 .succ (.v 0));exact Hz [7,8,9,11,13,14,16,17,19,21,23,24,25,30,31,33] b a (EF 0) c (EF 0) d DA (EF 0) e f (EF 0) (bH 0) C0 a (JB (AB 0)) (Zc false (.eq pl0 (.v 0)) t (.refl (AB 0)) stepP)
abbrev zG(x:Tm):Pf:=.ex false (.q .ex .nat (.eq (x.sh 0 1) (.v 0))) x (.refl x)
def Xw{L:List Int}(c:Dk L){g:List Ty}{hs:List Fm}{a:Nat}(d:∀s∈g,s.size<=3)(k:g.length<=100)(e:a<=L.length):∃(x:Tm)(b:Nat),TG g.length 236 3 x/\b<=L.length/\O 78 [.loc 0 0,.pv (AA g hs)] [(0,dk L a)] (.pv (zG x).p) [(0,dk L b)]:=by
 have f:=zA;have⟨x,b,q,h,i⟩:=gE c (t:=.nat) bb d a6 e;have:=q.cnt;have:=q.mx;have j:=eY x a6 (by rw[f];omega);exact⟨x,b,q,h,o8 1 [7,12,15,16,17,18,21,22] DA i j (EF 0) (kG (x.sh 0 1) (.v 0)) (EE .ex .nat (.eq (x.sh 0 1) (.v 0))) (JB x) (eK false (.q .ex .nat (.eq (x.sh 0 1) (.v 0))) x (.refl x))⟩
abbrev TV(L:List Int)(ls:List Fm)(g:List Ty)(hs:List Fm)(k a:Nat)(p:Pf)(b:Nat):Prop:=O 25 [.loc 0 0,.pv (uA ls),.pv (AA g hs),.pv (num k)] [(0,dk L a)] (.pv p.p) [(0,dk L b)]
def UD(L:List Int)(k:Nat):Prop:=∀(Z:Nat)(c:List Fm)(g:List Ty)(d:List Fm)(a:Nat),S19 Z c g d->Z+cm k<=281474976710656->a<=L.length->∃(p:Pf)(b:Nat),PG (cp k) (Z+cm k) p/\b<=L.length/\TV L c g d k a p b
def Db(L:List Int)(k:Nat):Prop:=∀(Z:Nat)(d:List Fm)(g:List Ty)(c:List Fm)(a:Nat),S19 Z d g c->g.length<10->c.length<10->Z+cm (k+1)<=281474976710656->a<=L.length->∃(p:Pf)(b:Nat),PG (cp (k+1)) (Z+cm (k+1)) p/\b<=L.length/\O 73 [.loc 0 0,.pv (uA d),.pv (AA g c),.pv (num (k+1))] [(0,dk L a)] (.pv p.p) [(0,dk L b)]
def OP:∀k,k<=10->cp k<=20000000|0,_=>by decide|1,_=>by decide|2,_=>by decide|3,_=>by decide|4,_=>by decide|5,_=>by decide|6,_=>by decide|7,_=>by decide|8,_=>by decide|9,_=>by decide|10,_=>by decide|k+11,h=>absurd h a6
def UV(H:MF){Z k:Nat}{ls:List Fm}{g:List Ty}{hs:List Fm}{p:Pf}(a:S19 Z ls g hs)(b:PG (cp k) (Z+cm k) p)(i:k<=10)(o:Z+cm (k+1)<=281474976710656):∃r:PR,A 26 [uA ls,AA g hs,p.p] r.p/\∀f u,r=.ok f u->FBd (Z+cm k+tI) f/\f.gx:=by
 have:=zA;have:=yA;have:cm (k+1)=2*cm k+tI+4*kC:=rfl;have:=OP k i;have:=a.ll;have:=a.gl;have:=a.hl;have:eB=1125899902742528:=rfl;have:mA=8388608:=rfl;have⟨r,m,q,_⟩:=Df H (X:=Z+cm k) (ls:=ls) (g:=g) (hs:=hs) (p:=p) ⟨λf c=>by have:=a.lb f c;omega,λf c=>by have:=a.hb f c;omega,λs d=>by have:=a.gs s d;omega,a6,a6,a6,by have:=b.cnt;omega,b.tsz,b.mx,a6⟩;exact⟨r,m,λf u e=>by
  obtain⟨_,_,_,h,_,⟨j,rfl,rfl,n,_⟩,_⟩:=q f u e;exact⟨⟨h.1,h.2.2,h.2.1⟩,vI j (sF a.lx j g hs a.hx n b.gx)⟩⟩
open Go.Lg
theorem Yw{L:List Int}(j:Dk L):UD L 0:=by
 intro Z o g p a b A s;have:=zA;have:kC=1048576:=rfl;have:=b.z;have:=b.gl;have:=b.hl;have:cp 0=300:=rfl;have:cm 0=kC:=rfl;have⟨w,c,E,k,h⟩:=nx j s (n:=4) a6 a6;have⟨x,d,q,l,gx⟩:=gE j (t:=.nat) (g:=g) bb b.gs a6 k;have:=q.cnt;have mx:=q.mx;have:=q.tsz;rcases w with _|_|w
 ·cases p with
  |nil=>exact⟨.refl x,d,⟨by grind[Pf.cnt],by grind[Pf.tsz],by grind[Pf.mx],trivial⟩,l,o4 1 [36,388,415,416] DA h gx (JB x)⟩|cons f r=>
   have⟨i,e,z,m,n⟩:=nx j k (n:=((f::r).map Fm.c).length) a8 c5;exact⟨.leaf false i,e,⟨by grind[Pf.cnt],c6 _,c6 _,trivial⟩,m,o4 1 [36,388,399,400] DA h n (bH i)⟩
 ·cases o with
  |nil=>exact⟨.refl x,d,⟨by grind[Pf.cnt],by grind[Pf.tsz],by grind[Pf.mx],trivial⟩,l,o4 1 [36,388,415,416] DA h gx (JB x)⟩|cons f r=>
   have:=b.ll;have⟨i,e,z,m,n⟩:=nx j k (n:=((f::r).map Fm.c).length) a8 c5;exact⟨.leaf true i,e,⟨by grind[Pf.cnt],c6 _,c6 _,trivial⟩,m,o3 1 [36,388,409] DA h n⟩
 exact⟨.refl x,d,⟨by grind[Pf.cnt],by grind[Pf.tsz],by grind[Pf.mx],trivial⟩,l,o4 1 [36,388,415,416] DA h gx (JB x)⟩
theorem Zw{L:List Int}(l:Dk L){k:Nat}(F:UD L k)(y:k<=9){Z:Nat}{n:List Fm}{g:List Ty}{o:List Fm}{a:Nat}(m:S19 Z n g o)(G:Z+cm (k+1)<=281474976710656)(z:a<=L.length)(H:¬g.length<10):∃(p:Pf)(b:Nat),PG (cp (k+1)) (Z+cm (k+1)) p/\b<=L.length/\TV L n g o (k+1) a p b:=by
 have:=zA;have:=yA;have:kC=1048576:=rfl;have:=SV;have:=m.gl;have:=m.hl;have:cp (k+1)=2*cp k+10000:=rfl;have:cm (k+1)=2*cm k+tI+4*kC:=rfl;have:=NP k;have h:dA (.ofNat (g.map Ty.c).length) (.ofNat 10)=false:=iA a9;have⟨w,c,O,s,j⟩:=nx l z (n:=4) a6 a6;have⟨x,d,q,t,gx⟩:=gE l (t:=.nat) (g:=g) bb m.gs a6 s;have:=q.cnt;have mx:=q.mx;have:=q.tsz;rcases w with _|_|w
 ·cases o with
  |nil=>exact⟨.refl x,d,⟨by grind[Pf.cnt],by grind[Pf.tsz],by grind[Pf.mx],trivial⟩,t,o5 1 [36,43,388,415,416] DA h j gx (JB x)⟩|cons f r=>
   have⟨i,e,E,u,v⟩:=nx l s (n:=((f::r).map Fm.c).length) a8 c5;exact⟨.leaf false i,e,⟨by grind[Pf.cnt],c6 _,c6 _,trivial⟩,u,o5 1 [36,43,388,399,400] DA h j v (bH i)⟩
 ·cases n with
  |nil=>exact⟨.refl x,d,⟨by grind[Pf.cnt],by grind[Pf.tsz],by grind[Pf.mx],trivial⟩,t,o5 1 [36,43,388,415,416] DA h j gx (JB x)⟩|cons f r=>
   have:=m.ll;have⟨i,e,E,u,v⟩:=nx l s (n:=((f::r).map Fm.c).length) a8 c5;exact⟨.leaf true i,e,⟨by grind[Pf.cnt],c6 _,c6 _,trivial⟩,u,o4 1 [36,43,388,409] DA h j v⟩
 exact⟨.refl x,d,⟨by grind[Pf.cnt],by grind[Pf.tsz],by grind[Pf.mx],trivial⟩,t,o5 1 [36,43,388,415,416] DA h j gx (JB x)⟩
theorem zx{L:List Int}(j:Dk L){k:Nat}(F:UD L k)(z:k<=9){Z:Nat}{o:List Fm}{g:List Ty}{h:List Fm}{a:Nat}(s:S19 Z o g h)(G:Z+cm (k+1)<=281474976710656)(A:a<=L.length)(H:g.length<10)(I:¬h.length<10):∃(p:Pf)(b:Nat),PG (cp (k+1)) (Z+cm (k+1)) p/\b<=L.length/\TV L o g h (k+1) a p b:=by
 have:=zA;have:=yA;have:kC=1048576:=rfl;have:=SV;have:=s.hl;have:cp (k+1)=2*cp k+10000:=rfl;have:cm (k+1)=2*cm k+tI+4*kC:=rfl;have:=NP k;have l:dA (.ofNat (g.map Ty.c).length) (.ofNat 10)=true:=KA bS;have m:dA (.ofNat (h.map Fm.c).length) (.ofNat 10)=false:=iA a9;have⟨w,c,P,t,n⟩:=nx j A (n:=4) a6 a6;have⟨x,d,q,y,gx⟩:=gE j (t:=.nat) (g:=g) bb s.gs a6 t;have:=q.cnt;have mx:=q.mx;have:=q.tsz;rcases w with _|_|w
 ·cases h with
  |nil=>simp_all|cons f r=>
   have⟨i,e,E,u,v⟩:=nx j t (n:=((f::r).map Fm.c).length) a8 c5;exact⟨.leaf false i,e,⟨by grind[Pf.cnt],c6 _,c6 _,trivial⟩,u,o6 1 [36,43,49,388,399,400] DA l m n v (bH i)⟩
 ·cases o with
  |nil=>exact⟨.refl x,d,⟨by grind[Pf.cnt],by grind[Pf.tsz],by grind[Pf.mx],trivial⟩,y,o6 1 [36,43,49,388,415,416] DA l m n gx (JB x)⟩|cons f r=>
   have:=s.ll;have⟨i,e,E,u,v⟩:=nx j t (n:=((f::r).map Fm.c).length) a8 c5;exact⟨.leaf true i,e,⟨by grind[Pf.cnt],c6 _,c6 _,trivial⟩,u,o5 1 [36,43,49,388,409] DA l m n v⟩
 exact⟨.refl x,d,⟨by grind[Pf.cnt],by grind[Pf.tsz],by grind[Pf.mx],trivial⟩,y,o6 1 [36,43,49,388,415,416] DA l m n gx (JB x)⟩
structure DE(L:List Int)(k Z a b:Nat)(ls hs:List Fm)(g:List Ty):Prop where
 hL:Dk L
 hk:UD L k
 hkl:k<=9
 hS:S19 Z ls g hs
 hZ:Z+cm (k+1)<=281474976710656
 ha:a<=L.length
 hg:g.length<10
 hh:hs.length<10
 hb:b<=L.length
 hm:qA=33554432
 hbg:bA=1152921504606846976
 e20:kC=1048576
 eW:tI=137438953472
 hz1:kC<=Z
 hhl:hs.length<=10
 hgl:g.length<=10
 e1:cp (k+1)=2*cp k+10000
 e2:cm (k+1)=2*cm k+tI+4*kC
 e3:kC<=cm k
 gs:xA (Int.ofNat (k+1)-1)=true/\Int.ofNat (k+1)-1=.ofNat k
 b1:dA (.ofNat (g.map Ty.c).length) (.ofNat 10)=true
 b2:dA (.ofNat (hs.map Fm.c).length) (.ofNat 10)=true
abbrev RE(L:List Int)(a b n:Nat):Prop:=O 20 [.loc 0 0,.pv (num 17)] [(0,dk L a)] (.pv (num n)) [(0,dk L b)]
abbrev SE(L:List Int)(k Z a:Nat)(ls hs:List Fm)(g:List Ty):Prop:=∃(p:Pf)(b:Nat),PG (cp (k+1)) (Z+cm (k+1)) p/\b<=L.length/\TV L ls g hs (k+1) a p b
section
variable{L:List Int}{k Z a b:Nat}{ls hs:List Fm}{g:List Ty}
def jx(h:DE L k Z a b ls hs g)(gv:RE L a b 0):SE L k Z a ls hs g:=by
 have⟨C,i,m,j,D,E,F,G,n,H,o,s,I,t,u,v,J,K,M,l,w,x⟩:=h;have⟨p,c,e,y,z⟩:=i Z ls g hs b j a6 n;have⟨r,d,f,A,B⟩:=i Z ls g hs c j a6 y;have:=e.cnt;have:=e.tsz;have:=e.mx;have:=f.cnt;have:=f.tsz;have:=f.mx;exact⟨.p2 .andI p r,d,⟨by grind[Pf.cnt],by grind[Pf.tsz],by grind[Pf.mx],⟨e.gx,f.gx⟩⟩,A,o9 1 [36,43,49,52,59,60,65,66,68] DA w x gv l z l B (pJ 3 p r)⟩
def vx(i:DE L k Z a b ls hs g)(gv:RE L a b 1):SE L k Z a ls hs g:=by
 have⟨x,l,y,m,H,I,J,K,z,M,A,B,N,C,D,E,O,P,Q,h,n,o⟩:=i;have⟨v,F,R,j,s⟩:=nx x z (n:=2) a6 a6;have⟨p,c,e,G,t⟩:=l Z ls g hs F m a6 j;have⟨r,d,f,u,w⟩:=l Z ls g hs c m a6 G;have:=e.cnt;have:=e.tsz;have:=e.mx;have:=f.cnt;have:=f.tsz;have:=f.mx;rcases v with _|_|v
 ·exact⟨.p1 .andL (.p2 .andI p r),d,⟨by grind[Pf.cnt],by grind[Pf.tsz],by grind[Pf.mx],⟨e.gx,f.gx⟩⟩,u,dK 1 [36,43,49,52,72,78,79,84,85,87,89] DA n o gv s h t h w (pJ 3 p r) (fQ 4 (.p2 .andI p r))⟩
 ·exact⟨.p1 .andR (.p2 .andI p r),d,⟨by grind[Pf.cnt],by grind[Pf.tsz],by grind[Pf.mx],⟨e.gx,f.gx⟩⟩,u,dK 1 [36,43,49,52,72,78,79,84,85,87,89] DA n o gv s h t h w (pJ 3 p r) (fQ 5 (.p2 .andI p r))⟩
 omega
def wx(h:DE L k Z a b ls hs g)(gv:RE L a b 2):SE L k Z a ls hs g:=by
 have⟨l,m,n,j,D,E,F,o,r,G,s,t,H,i,u,v,I,J,K,w,x,y⟩:=h;have⟨f,c,qf,z,A⟩:=Vw l j.gs a6 r;have ff:=qf.fbd a6 a6 i;have⟨p,d,e,B,C⟩:=m Z ls g (hs++[f]) c (j.with ff (qf.nx.x bb) (e6 _) o) a6 z;have:=e.cnt;have:=e.tsz;have:=e.mx;exact⟨.impI f p,d,⟨by grind[Pf.cnt],by grind[Pf.tsz],by grind[Pf.mx],⟨qf.nx.x bb,e.gx⟩⟩,B,o9 1 [36,43,49,52,95,101,103,104,105] DA x y gv A (If g hs f) w C (Hl f p)⟩
def yx(H:MF)(E:DE L k Z a b ls hs g)(gv:RE L a b 3):SE L k Z a ls hs g:=by
 have⟨B,J,N,j,O,ha,hg,P,Q,hm,R,S,eW,T,U,V,e1,e2,e3,h,l,m⟩:=E;have⟨p,c,v,y,o⟩:=J Z ls g hs b j a6 Q;have:=v.cnt;have:=v.tsz;have:=v.mx;have⟨r,t,W⟩:=UV H j v a6 O;have:=OP k a6
 cases r with
 |er n=>
  have⟨w,X,hw,F,z⟩:=nx B y (n:=4) a6 a6;have⟨x,d,q,A,gx⟩:=gE B (t:=.nat) (g:=g) bb j.gs a6 F;have:=q.cnt;have mx:=q.mx;have:=q.tsz;rcases w with _|_|w
  ·cases hs with
   |nil=>exact⟨.refl x,d,⟨by grind[Pf.cnt],by grind[Pf.tsz],by grind[Pf.mx],trivial⟩,A,GC 1 [36,43,49,52,112,113,118,388,415,416] DA l m gv h o t z gx (JB x)⟩|cons f r=>
    have K:=j.hl;have⟨i,e,Y,G,I⟩:=nx B F (n:=((f::r).map Fm.c).length) a8 c5;exact⟨.leaf false i,e,⟨by grind[Pf.cnt],c6 _,c6 _,trivial⟩,G,GC 1 [36,43,49,52,112,113,118,388,399,400] DA l m gv h o t z I (bH i)⟩
  ·cases ls with
   |nil=>exact⟨.refl x,d,⟨by grind[Pf.cnt],by grind[Pf.tsz],by grind[Pf.mx],trivial⟩,A,GC 1 [36,43,49,52,112,113,118,388,415,416] DA l m gv h o t z gx (JB x)⟩|cons f r=>
    have K:=j.ll;have⟨i,e,Y,G,I⟩:=nx B F (n:=((f::r).map Fm.c).length) a8 (by simp at K⊢;omega);exact⟨.leaf true i,e,⟨by simp only[Pf.cnt];omega,c6 _,c6 _,trivial⟩,G,o9 1 [36,43,49,52,112,113,118,388,409] DA l m gv h o t z I⟩
  exact⟨.refl x,d,⟨by simp only[Pf.cnt];omega,by simp only[Pf.tsz];omega,by simp only[Pf.mx];omega,trivial⟩,A,GC 1 [36,43,49,52,112,113,118,388,415,416] DA l m gv h o t z gx (JB x)⟩
 |ok f u=>
  have⟨C,M⟩:=W f u rfl;have X:=C.1;have:=C.2.1;have:=C.2.2;have⟨s,d,D,A,g3⟩:=J (Z+cm k+tI) ls g (hs++[f]) c (j.with C M a6 P) a6 y;have:=D.cnt;have:=D.tsz;have:=D.mx;exact⟨.p2 .impE (.impI f s) p,d,⟨by simp only[Pf.cnt];omega,by simp only[Pf.tsz];omega,by simp only[Pf.mx];omega,⟨⟨M,D.gx⟩,v.gx⟩⟩,A,fK 1 [36,43,49,52,112,113,118,130,132,133,134,137] DA l m gv h o t (If g hs f) h g3 (Hl f s) (pJ 7 (.impI f s) p)⟩
def ux(h:DE L k Z a b ls hs g)(gv:RE L a b 4):SE L k Z a ls hs g:=by
 have⟨j,l,m,i,G,H,n,I,o,r,s,u,J,v,w,x,K,M,N,y,z,A⟩:=h;have⟨t,c,zt,B,C⟩:=PD j 1 a6 o;have zt:t.size<=3:=zt;have⟨p,d,e,D,E⟩:=l (Z+1) ls (g++[t]) (iD hs) c (i.below zt n) a6 B;have:=e.cnt;have:=e.tsz;have:=e.mx;exact⟨.all false t p,d,⟨by grind[Pf.cnt],by grind[Pf.tsz],by grind[Pf.mx],e.gx⟩,D,o9 1 [36,43,49,52,141,148,150,151,152] DA z A gv C (MP g hs t a6 a6 (λf F=>by have:=i.hb f F;rw[r];omega)) y E (XS false t p)⟩
def dx(h:DE L k Z a b ls hs g)(gv:RE L a b 5):SE L k Z a ls hs g:=by
 have⟨m,n,o,i,K,M,r,N,s,u,v,w,O,y,z,A,P,Q,R,B,C,D⟩:=h;have⟨t,c,zt,E,F⟩:=PD m 1 a6 s;have zt:t.size<=3:=zt;have⟨x,G,j,l,gx⟩:=gE m (t:=t) (g:=g) zt i.gs a6 E;have⟨p,d,e,H,I⟩:=n (Z+1) ls (g++[t]) (iD hs) G (i.below zt r) a6 l;have:=e.cnt;have:=e.tsz;have:=e.mx;have:=j.cnt;have:=j.tsz;have:=j.mx;exact⟨.ins false x (.all false t p),d,⟨by grind[Pf.cnt],by grind[Pf.tsz],by grind[Pf.mx],e.gx⟩,H,dK 1 [36,43,49,52,156,161,168,170,171,172,173] DA C D gv F gx (MP g hs t a6 a6 (λf J=>by have:=i.hb f J;rw[u];omega)) B I (XS false t p) (Il false x (.all false t p))⟩
def px(e:DE L k Z a b ls hs g)(gv:RE L a b 6):SE L k Z a ls hs g:=by
 have⟨h,B,o,p,C,D,E,F,r,s,t,u,G,w,y,z,H,I,J,K,i,j⟩:=e;have⟨x,c,f,A,gx⟩:=gE h (t:=.nat) (g:=g) bb p.gs a6 r;have⟨v,d,M,l,m⟩:=nx h A (n:=2) a6 a6;have:=f.cnt;have:=f.tsz;have:=f.mx;have:=vG 1 x 0;have n:=eY x a6 (by rw[s];omega);rcases v with _|_|v
 ·exact⟨.ex false (.q .ex .nat (.eq (x.sh 0 1) (.v 0))) x (.refl x),d,⟨by grind[Pf.cnt,Fm.cnt,LC,Tm.cnt],by grind[Pf.tsz,Fm.tsz,zH,Tm.tsz,Ty.size],by grind[Pf.mx,Fm.mx,Tm.mx],⟨⟨trivial,λ_=>.inr (c6 _)⟩,trivial⟩⟩,l,fK 1 [36,43,49,52,180,182,189,190,191,192,200,201] DA i j gv gx m n (EF 0) (kG (x.sh 0 1) (.v 0)) (EE .ex .nat (.eq (x.sh 0 1) (.v 0))) (JB x) (eK false (.q .ex .nat (.eq (x.sh 0 1) (.v 0))) x (.refl x))⟩
 ·exact⟨.ex true (.q .exU .nat (.eq (x.sh 0 1) (.v 0))) x (.refl x),d,⟨by grind[Pf.cnt,Fm.cnt,LC,Tm.cnt],by grind[Pf.tsz,Fm.tsz,zH,Tm.tsz,Ty.size],by grind[Pf.mx,Fm.mx,Tm.mx],⟨⟨trivial,λ_=>.inr (c6 _)⟩,trivial⟩⟩,l,fK 1 [36,43,49,52,180,182,189,190,191,192,200,201] DA i j gv gx m n (EF 0) (kG (x.sh 0 1) (.v 0)) (EE .exU .nat (.eq (x.sh 0 1) (.v 0))) (JB x) (eK true (.q .exU .nat (.eq (x.sh 0 1) (.v 0))) x (.refl x))⟩
 omega
def ax(H:MF)(G:DE L k Z a b ls hs g)(gv:RE L a b 7):SE L k Z a ls hs g:=by
 have⟨l,R,S,A,T,ha,hg,hh,U,V,W,X,eW,Y,hhl,hgl,e1,e2,e3,m,o,s⟩:=G;have⟨p,c,B,C,y⟩:=R Z ls g hs b A a6 U;have:=B.cnt;have:=B.tsz;have:=B.mx;have⟨r,z,qr⟩:=UV H A B a6 T;have:=OP k a6
 cases r with
 |er n=>
  have⟨w,c1,hw,I,j⟩:=nx l C (n:=4) a6 a6;have⟨x,d,q,D,gx⟩:=gE l (t:=.nat) (g:=g) bb A.gs a6 I;have:=q.cnt;have mx:=q.mx;have:=q.tsz;rcases w with _|_|w
  ·cases hs with
   |nil=>exact⟨.refl x,d,⟨by grind[Pf.cnt],by grind[Pf.tsz],by grind[Pf.mx],trivial⟩,D,GC 1 [36,43,49,52,208,209,214,388,415,416] DA o s gv m y z j gx (JB x)⟩|cons f r=>
    have N:=A.hl;have⟨i,e,hi,E,J⟩:=nx l I (n:=((f::r).map Fm.c).length) a8 c5;exact⟨.leaf false i,e,⟨by grind[Pf.cnt],c6 _,c6 _,trivial⟩,E,GC 1 [36,43,49,52,208,209,214,388,399,400] DA o s gv m y z j J (bH i)⟩
  ·cases ls with
   |nil=>exact⟨.refl x,d,⟨by simp only[Pf.cnt];omega,by simp only[Pf.tsz];omega,by simp only[Pf.mx];omega,trivial⟩,D,GC 1 [36,43,49,52,208,209,214,388,415,416] DA o s gv m y z j gx (JB x)⟩|cons f r=>
    have N:=A.ll;have⟨i,e,hi,E,J⟩:=nx l I (n:=((f::r).map Fm.c).length) a8 (by simp at N⊢;omega);exact⟨.leaf true i,e,⟨by simp only[Pf.cnt];omega,c6 _,c6 _,trivial⟩,E,o9 1 [36,43,49,52,208,209,214,388,409] DA o s gv m y z j J⟩
  exact⟨.refl x,d,⟨by simp only[Pf.cnt];omega,by simp only[Pf.tsz];omega,by simp only[Pf.mx];omega,trivial⟩,D,GC 1 [36,43,49,52,208,209,214,388,415,416] DA o s gv m y z j gx (JB x)⟩
 |ok f u=>
  have⟨K,O⟩:=qr f u rfl;have c1:=K.1;have:=K.2.1;have:=K.2.2;have:=yH 1 f 0;have:(1:Int).toNat=1:=rfl;have P:=WD f 0 1 a6 a6 (by rw[V];omega) a6;have⟨t,d,zt,D,Q⟩:=PD l 1 a6 C;have zt:t.size<=3:=zt;have⟨v,e,hv,E,j⟩:=nx l D (n:=2) a6 a6;have⟨x,h,M,F,gx⟩:=gE l (t:=t) (g:=g) zt A.gs a6 E;have:=M.cnt;have:=M.tsz;have:=M.mx;rcases v with _|_|v
  ·exact⟨.ex false (.q .ex t (f.sh 0 1)) x p,h,⟨by simp only[Pf.cnt,Fm.cnt,MD];omega,by simp only[Pf.tsz,Fm.tsz,kH];omega,by simp only[Pf.mx,Fm.mx];omega,⟨⟨LI f 0 1 O,λ_=>.inl (zf f)⟩,B.gx⟩⟩,F,o13 1 [36,43,49,52,208,209,214,220,222,230,231,241,243] DA o s gv m y z Q j P (EE .ex t (f.sh 0 1)) gx (eK false (.q .ex t (f.sh 0 1)) x p)⟩
  ·exact⟨.ex true (.q .exU t (f.sh 0 1)) x p,h,⟨by simp only[Pf.cnt,Fm.cnt,MD];omega,by simp only[Pf.tsz,Fm.tsz,kH];omega,by simp only[Pf.mx,Fm.mx];omega,⟨⟨LI f 0 1 O,λ_=>.inl (zf f)⟩,B.gx⟩⟩,F,o13 1 [36,43,49,52,208,209,214,220,222,230,231,241,243] DA o s gv m y z Q j P (EE .exU t (f.sh 0 1)) gx (eK true (.q .exU t (f.sh 0 1)) x p)⟩
  omega
def ox(e:Db L k)(d:DE L k Z a b ls hs g)(gv:RE L a b 8):SE L k Z a ls hs g:=by
 have⟨z,A,f,h,i,B,j,l,m,C,n,o,D,r,s,t,E,F,G,H,u,v⟩:=d;have⟨p,c,w,x,y⟩:=e Z ls g hs b h j l i m;exact⟨p,c,w,x,o5 1 [36,43,49,52,250] DA u v gv y⟩
def xx(H:MF)(B:DE L k Z a b ls hs g)(gv:RE L a b 9):SE L k Z a ls hs g:=by
 have⟨t,J,K,h,M,ha,hg,hh,N,O,P,Q,eW,R,S,T,e1,e2,e3,j,l,m⟩:=B;have⟨p,c,v,y,o⟩:=J Z ls g hs b h a6 N;have:=v.cnt;have:=v.tsz;have:=v.mx;have⟨r,s,U⟩:=UV H h v a6 M;have:=OP k a6
 cases r with
 |er n=>
  have⟨w,V,hw,C,z⟩:=nx t y (n:=4) a6 a6;have⟨x,d,q,A,gx⟩:=gE t (t:=.nat) (g:=g) bb h.gs a6 C;have:=q.cnt;have mx:=q.mx;have:=q.tsz;rcases w with _|_|w
  ·cases hs with
   |nil=>exact⟨.refl x,d,⟨by grind[Pf.cnt],by grind[Pf.tsz],by grind[Pf.mx],trivial⟩,A,GC 1 [36,43,49,52,257,258,263,388,415,416] DA l m gv j o s z gx (JB x)⟩|cons f r=>
    have I:=h.hl;have⟨i,e,W,D,E⟩:=nx t C (n:=((f::r).map Fm.c).length) a8 c5;exact⟨.leaf false i,e,⟨by grind[Pf.cnt],c6 _,c6 _,trivial⟩,D,GC 1 [36,43,49,52,257,258,263,388,399,400] DA l m gv j o s z E (bH i)⟩
  ·cases ls with
   |nil=>exact⟨.refl x,d,⟨by grind[Pf.cnt],by grind[Pf.tsz],by grind[Pf.mx],trivial⟩,A,GC 1 [36,43,49,52,257,258,263,388,415,416] DA l m gv j o s z gx (JB x)⟩|cons f r=>
    have I:=h.ll;have⟨i,e,W,D,E⟩:=nx t C (n:=((f::r).map Fm.c).length) a8 (by simp at I⊢;omega);exact⟨.leaf true i,e,⟨by simp only[Pf.cnt];omega,c6 _,c6 _,trivial⟩,D,o9 1 [36,43,49,52,257,258,263,388,409] DA l m gv j o s z E⟩
  exact⟨.refl x,d,⟨by simp only[Pf.cnt];omega,by simp only[Pf.tsz];omega,by simp only[Pf.mx];omega,trivial⟩,A,GC 1 [36,43,49,52,257,258,263,388,415,416] DA l m gv j o s z gx (JB x)⟩
 |ok f u=>
  have⟨F,X⟩:=U f u rfl;have V:=F.1;have:=F.2.1;have:=F.2.2;have:=yH 1 f 0;have:(1:Int).toNat=1:=rfl;have Y:=WD f 0 1 a6 a6 (by rw[O];omega) a6;have⟨x,d,G,A,gx⟩:=gE t (t:=.nat) (g:=g) bb h.gs a6 y;have:=G.cnt;have:=G.tsz;have:=G.mx;exact⟨.ind false (f.sh 0 1) x p (.leaf false 0),d,⟨by simp only[Pf.cnt,MD];omega,by simp only[Pf.tsz,kH];omega,by simp only[Pf.mx];omega,⟨LI f 0 1 X,v.gx,trivial⟩⟩,A,dK 1 [36,43,49,52,257,258,263,270,275,277,278] DA l m gv j o s Y gx (bH 0) (Zc false (f.sh 0 1) x p (.leaf false 0))⟩
def Ax(H:MF)(B:DE L k Z a b ls hs g)(gv:RE L a b 10):SE L k Z a ls hs g:=by
 have⟨t,J,K,h,M,ha,hg,hh,N,O,P,Q,eW,R,S,T,e1,e2,e3,j,l,m⟩:=B;have⟨p,c,v,y,o⟩:=J Z ls g hs b h a6 N;have:=v.cnt;have:=v.tsz;have:=v.mx;have⟨r,s,U⟩:=UV H h v a6 M;have:=OP k a6
 cases r with
 |er n=>
  have⟨w,V,hw,C,z⟩:=nx t y (n:=4) a6 a6;have⟨x,d,q,A,gx⟩:=gE t (t:=.nat) (g:=g) bb h.gs a6 C;have:=q.cnt;have mx:=q.mx;have:=q.tsz;rcases w with _|_|w
  ·cases hs with
   |nil=>exact⟨.refl x,d,⟨by grind[Pf.cnt],by grind[Pf.tsz],by grind[Pf.mx],trivial⟩,A,GC 1 [36,43,49,52,285,286,291,388,415,416] DA l m gv j o s z gx (JB x)⟩|cons f r=>
    have I:=h.hl;have⟨i,e,W,D,E⟩:=nx t C (n:=((f::r).map Fm.c).length) a8 c5;exact⟨.leaf false i,e,⟨by grind[Pf.cnt],c6 _,c6 _,trivial⟩,D,GC 1 [36,43,49,52,285,286,291,388,399,400] DA l m gv j o s z E (bH i)⟩
  ·cases ls with
   |nil=>exact⟨.refl x,d,⟨by grind[Pf.cnt],by grind[Pf.tsz],by grind[Pf.mx],trivial⟩,A,GC 1 [36,43,49,52,285,286,291,388,415,416] DA l m gv j o s z gx (JB x)⟩|cons f r=>
    have I:=h.ll;have⟨i,e,W,D,E⟩:=nx t C (n:=((f::r).map Fm.c).length) a8 (by simp at I⊢;omega);exact⟨.leaf true i,e,⟨by simp only[Pf.cnt];omega,c6 _,c6 _,trivial⟩,D,o9 1 [36,43,49,52,285,286,291,388,409] DA l m gv j o s z E⟩
  exact⟨.refl x,d,⟨by simp only[Pf.cnt];omega,by simp only[Pf.tsz];omega,by simp only[Pf.mx];omega,trivial⟩,A,GC 1 [36,43,49,52,285,286,291,388,415,416] DA l m gv j o s z gx (JB x)⟩
 |ok f u=>
  have⟨F,X⟩:=U f u rfl;have V:=F.1;have:=F.2.1;have:=F.2.2;have:=yH 1 f 0;have:(1:Int).toNat=1:=rfl;have Y:=WD f 0 1 a6 a6 (by rw[O];omega) a6;have⟨x,d,G,A,gx⟩:=gE t (t:=.list) (g:=g) bb h.gs a6 y;have:=G.cnt;have:=G.tsz;have:=G.mx;exact⟨.ind true (f.sh 0 1) x p (.leaf false 0),d,⟨by simp only[Pf.cnt,MD];omega,by simp only[Pf.tsz,kH];omega,by simp only[Pf.mx];omega,⟨LI f 0 1 X,v.gx,trivial⟩⟩,A,fK 1 [36,43,49,52,285,286,291,298,302,303,305,306] DA l m gv j o s Y dN gx (bH 0) (Zc true (f.sh 0 1) x p (.leaf false 0))⟩
def Bx(d:DE L k Z a b ls hs g)(gv:RE L a b 11):SE L k Z a ls hs g:=by
 have⟨f,u,h,i,v,w,y,z,j,A,l,m,B,n,o,p,C,D,E,F,r,s⟩:=d;have⟨x,c,e,t,gx⟩:=gE f (t:=.nat) (g:=g) bb i.gs a6 j;have:=e.cnt;have:=e.tsz;have:=e.mx;have:(IL x).cnt<=x.cnt+1000:=by
  simp only[IL,Pf.cnt];have:stepP.cnt<=900:=bb
  have:(Fm.eq pl0 (.v 0)).cnt<=50:=bb
  have:(AB 0).cnt<=10:=bb
  omega
 have:(IL x).tsz<=x.tsz+10:=by
  simp only[IL,Pf.tsz];have:stepP.tsz<=10:=bb
  have:(Fm.eq pl0 (.v 0)).tsz<=10:=bb
  have:(AB 0).tsz<=10:=bb
  omega
 have:(IL x).mx<=x.mx+10:=by
  simp only[IL,Pf.mx];have:stepP.mx<=10:=bb
  have:(Fm.eq pl0 (.v 0)).mx<=10:=bb
  have:(AB 0).mx<=10:=bb
  omega
 exact⟨IL x,c,⟨a6,a6,a6,⟨trivial,trivial,⟨trivial,trivial,trivial⟩⟩⟩,t,o6 1 [36,43,49,52,313,314] DA r s gv gx (Ww x)⟩
def Cx(e:DE L k Z a b ls hs g)(gv:RE L a b 12):SE L k Z a ls hs g:=by
 have⟨i,C,m,j,D,E,F,G,n,o,p,r,H,s,t,u,I,J,K,M,v,w⟩:=e;have⟨x,c,f,z,gx⟩:=gE i (t:=.nat) (g:=g) bb j.gs a6 n;have⟨y,d,h,A,B⟩:=gE i (t:=.nat) (g:=g) bb j.gs a6 z;have:=f.cnt;have:=f.tsz;have:=f.mx;have:=h.cnt;have:=h.tsz;have:=h.mx;have:=vG 1 y 0;have l:=eY y a6 (by rw[o];omega);exact⟨.subst (.eq (y.sh 0 1) (y.sh 0 1)) (.refl x) (.refl y),d,⟨by grind[Pf.cnt,Fm.cnt,LC],by grind[Pf.tsz,Fm.tsz,zH],by grind[Pf.mx,Fm.mx],⟨trivial,trivial,trivial⟩⟩,A,fK 1 [36,43,49,52,321,326,328,330,331,333,335,336] DA v w gv gx B l l (kG (y.sh 0 1) (y.sh 0 1)) (JB x) (JB y) (Jl (.eq (y.sh 0 1) (y.sh 0 1)) (.refl x) (.refl y))⟩
def Dx(e:DE L k Z a b ls hs g)(gv:RE L a b 13):SE L k Z a ls hs g:=by
 have⟨i,D,l,j,E,F,G,H,m,n,o,p,I,r,s,u,J,K,M,N,v,w⟩:=e;have⟨t,c,zt,y,z⟩:=PD i 0 a6 m;have zt:t.size<=3:=hV zt bb;have⟨x,d,h,A,B⟩:=Xw i (g:=g++[t]) (hs:=iD hs) (PE j.gs bS) a9 y;have:=h.cnt;have:=h.tsz;have:=h.mx;have:=vG 1 x 0;exact⟨.p1 .choice (.all false t (zG x)),d,⟨by grind[Pf.cnt,Fm.cnt,LC,Tm.cnt],by grind[Pf.tsz,Fm.tsz,zH,Tm.tsz,Ty.size],by grind[Pf.mx,Fm.mx,Tm.mx],⟨⟨trivial,λ_=>.inr (c6 _)⟩,trivial⟩⟩,A,o9 1 [36,43,49,52,340,346,347,348,350] DA v w gv z (MP g hs t a6 a6 (λf C=>by have:=j.hb f C;rw[n];omega)) B (XS false t (zG x)) (fQ 20 (.all false t (zG x)))⟩
def Ex(h:DE L k Z a b ls hs g)(gv:RE L a b 14):SE L k Z a ls hs g:=by
 have⟨j,l,m,i,G,H,n,I,o,r,s,u,J,v,w,x,K,M,N,y,z,A⟩:=h;have⟨t,c,zt,B,C⟩:=PD j 1 a6 o;have zt:t.size<=3:=zt;have⟨p,d,e,D,E⟩:=l (Z+1) ls (g++[t]) (iD hs) c (i.below zt n) a6 B;have:=e.cnt;have:=e.tsz;have:=e.mx;exact⟨.all true t p,d,⟨by grind[Pf.cnt],by grind[Pf.tsz],by grind[Pf.mx],e.gx⟩,D,o9 1 [36,43,49,52,354,361,363,364,365] DA z A gv C (MP g hs t a6 a6 (λf F=>by have:=i.hb f F;rw[r];omega)) y E (XS true t p)⟩
def Fx(h:DE L k Z a b ls hs g)(gv:RE L a b 15):SE L k Z a ls hs g:=by
 have⟨m,n,o,i,K,M,r,N,s,u,v,w,O,y,z,A,P,Q,R,B,C,D⟩:=h;have⟨t,c,zt,E,F⟩:=PD m 1 a6 s;have zt:t.size<=3:=zt;have⟨x,G,j,l,gx⟩:=gE m (t:=t) (g:=g) zt i.gs a6 E;have⟨p,d,e,H,I⟩:=n (Z+1) ls (g++[t]) (iD hs) G (i.below zt r) a6 l;have:=e.cnt;have:=e.tsz;have:=e.mx;have:=j.cnt;have:=j.tsz;have:=j.mx;exact⟨.ins true x (.all true t p),d,⟨by grind[Pf.cnt],by grind[Pf.tsz],by grind[Pf.mx],e.gx⟩,H,dK 1 [36,43,49,52,369,374,381,383,384,385,386] DA C D gv F gx (MP g hs t a6 a6 (λf J=>by have:=i.hb f J;rw[u];omega)) B I (XS true t p) (Il true x (.all true t p))⟩
def Gx(n:DE L k Z a b ls hs g)(gv:RE L a b 16):SE L k Z a ls hs g:=by
 have⟨m,F,v,u,G,H,I,J,y,K,z,A,M,B,C,D,N,O,P,Q,h,j⟩:=n;have⟨w,c,R,o,l⟩:=nx m y (n:=4) a6 a6;have⟨x,d,q,p,gx⟩:=gE m (t:=.nat) (g:=g) bb u.gs a6 o;have:=q.cnt;have mx:=q.mx;have:=q.tsz;rcases w with _|_|w
 ·cases hs with
  |nil=>exact⟨.refl x,d,⟨by grind[Pf.cnt],by grind[Pf.tsz],by grind[Pf.mx],trivial⟩,p,o7 1 [36,43,49,52,388,415,416] DA h j gv l gx (JB x)⟩|cons f r=>
   have⟨i,e,E,s,t⟩:=nx m o (n:=((f::r).map Fm.c).length) a8 c5;exact⟨.leaf false i,e,⟨by grind[Pf.cnt],c6 _,c6 _,trivial⟩,s,o7 1 [36,43,49,52,388,399,400] DA h j gv l t (bH i)⟩
 ·cases ls with
  |nil=>exact⟨.refl x,d,⟨by grind[Pf.cnt],by grind[Pf.tsz],by grind[Pf.mx],trivial⟩,p,o7 1 [36,43,49,52,388,415,416] DA h j gv l gx (JB x)⟩|cons f r=>
   have:=u.ll;have⟨i,e,E,s,t⟩:=nx m o (n:=((f::r).map Fm.c).length) a8 c5;exact⟨.leaf true i,e,⟨by grind[Pf.cnt],c6 _,c6 _,trivial⟩,s,o6 1 [36,43,49,52,388,409] DA h j gv l t⟩
 exact⟨.refl x,d,⟨by grind[Pf.cnt],by grind[Pf.tsz],by grind[Pf.mx],trivial⟩,p,o7 1 [36,43,49,52,388,415,416] DA h j gv l gx (JB x)⟩
end
theorem Hx(H:MF){L:List Int}(h:Dk L){k:Nat}(l:UD L k)(m:Db L k)(e:k<=9):UD L (k+1):=by
 intro Z n g i a d o j;have p:=zA;have r:=yA;by_cases s:g.length<10
 ·by_cases t:i.length<10
  ·have⟨w,b,u,f,gv⟩:=nx h j (n:=17) a6 a6;have c:DE L k Z a b n i g:=⟨h,l,e,d,o,j,s,t,f,p,r,rfl,SV,d.z,d.hl,d.gl,rfl,rfl,NP k,lC (a:=k+1),KA bS,KA bS⟩;rcases w with _|_|_|_|_|_|_|_|_|_|_|_|_|_|_|_|_|w
   ·exact jx c gv
   ·exact vx c gv
   ·exact wx c gv
   ·exact yx H c gv
   ·exact ux c gv
   ·exact dx c gv
   ·exact px c gv
   ·exact ax H c gv
   ·exact ox m c gv
   ·exact xx H c gv
   ·exact Ax H c gv
   ·exact Bx c gv
   ·exact Cx c gv
   ·exact Dx c gv
   ·exact Ex c gv
   ·exact Fx c gv
   ·exact Gx c gv
   omega
  grind[zx]
 grind[Zw]
def Ix(f:Fm):O 82 [.pv f.p] [] (.agg [.undef,.pv (num f.tk),.pv (.slice f.te),.pv (.slice f.ts),.pv (.slice f.es)]) []:=by
 have h:A 82 [f.p] f.p:=mE f;refine⟨h.direct,λn i=>by simp[Out.names,V.names,GA]at i,h.namesO,λE w j k l m=>(h.calls E w j k l m).mono ?_⟩
 rintro e y ⟨o,p,v,r,s⟩
 refine⟨o,p,v,r,?_⟩;have⟨us,t,x,d⟩:=s;refine⟨us,t,x,?_⟩
 match us,d with
 |[],d=>exact d.elim|u::us,d=>
  refine⟨trivial,?_⟩;have a:=d.2
  match us,a with
  |[],a=>exact a.elim|z::us,a=>
   refine⟨a.1,?_⟩;have b:=a.2
   match us,b with
   |[],b=>exact b.elim|B::us,b=>
    refine⟨b.1,?_⟩;have c:=b.2
    match us,c with
    |[],c=>exact c.elim|C::us,c=>
     refine⟨c.1,?_⟩;have g:=c.2
     match us,g with|[],g=>exact g.elim|D::us,g=>exact⟨g.1,trivial⟩
abbrev qE(x:Tm):Fm:=.eq (x.sh 0 1) (.v 0)
abbrev JL(x:Tm):Pf:=.ex true (.q .exU .nat (qE x)) x (.refl x)
theorem Jx{L:List Int}(B:Dk L){k:Nat}(J:UD L k)(K:k<=9):Db L k:=by
 intro Z E g h a m M hh hZ N;have C:=zA;have:=yA;have:kC=1048576:=rfl;have:=SV;have:=m.z;have:cp (k+1)=2*cp k+10000:=rfl;have:cm (k+1)=2*cm k+tI+4*kC:=rfl;have:=NP k;have n:=lC (a:=k+1);have⟨x,b,D,T,o⟩:=gE B (t:=.nat) (g:=g) bb m.gs a6 N;have:=D.cnt;have:=D.tsz;have:=D.mx;have:=vG 1 x 0;have:(1:Int).toNat=1:=rfl;have p:=eY x a6 (by rw[C];omega);have U:FBd (Z+1) (qE x):=⟨by grind[Fm.cnt,LC,Tm.cnt],by grind[Fm.tsz,zH,Tm.tsz],by grind[Fm.mx,Tm.mx]⟩;have⟨w,c,hw,V,r⟩:=nx B T (n:=3) a6 a6;have s:=MP g h .nat a6 a6 (λf W=>by have:=m.hb f W;rw[C];omega);have t:=If (g++[.nat]) (iD h) (qE x) a9;have X:S19 (Z+1) E (g++[.nat]) (iD h++[qE x]):=(m.below (t:=.nat) bb M).with U trivial (e6 _) bS;have⟨q,d,l,Y,y⟩:=J (Z+1) E (g++[.nat]) (iD h++[qE x]) c X a6 V;have:=l.cnt;have F:=l.tsz;have:=l.mx;have⟨v,e,hv,z,gv⟩:=nx B Y (n:=2) a6 a6;have bd:∀(u:P2)(P Q:Pf),P.cnt<=800->P.tsz<=qA->P.mx<=Z+cm k+10->Q.cnt<=cp k+800->Q.tsz<=qA->Q.mx<=Z+cm k+10->P.gx/\Q.gx->PG (cp (k+1)) (Z+cm (k+1)) (.p2 u P Q):=λu P Q b1 b2 b3 b4 b5 b6 b9=>
  ⟨by grind[Pf.cnt],by grind[Pf.tsz],by grind[Pf.mx],b9⟩
 have i:∀(u:Bool)(kk:FQ),(Pf.ex u (.q kk .nat (qE x)) x (.refl x)).cnt<=800/\(Pf.ex u (.q kk .nat (qE x)) x (.refl x)).tsz<=qA/\(Pf.ex u (.q kk .nat (qE x)) x (.refl x)).mx<=Z+cm k+10:=λu kk=>
  ⟨by grind[Pf.cnt,Fm.cnt,LC,Tm.cnt],by grind[Pf.tsz,Fm.tsz,zH,Tm.tsz,Ty.size],by grind[Pf.mx,Fm.mx,Tm.mx]⟩
 have j:∀(u:Bool)(kk:FQ),(Pf.ex u ((Fm.q kk .nat (qE x)).sh 0 1) (.v 0) (.leaf false 0)).cnt<=cp k+800/\(Pf.ex u ((Fm.q kk .nat (qE x)).sh 0 1) (.v 0) (.leaf false 0)).tsz<=qA/\(Pf.ex u ((Fm.q kk .nat (qE x)).sh 0 1) (.v 0) (.leaf false 0)).mx<=Z+cm k+10:=λu kk=>by
  have:=yH 1 (Fm.q kk .nat (qE x)) 0;have:(Fm.q kk .nat (qE x)).mx<=x.mx+1:=by simp only[Fm.mx,Tm.mx];omega
  exact⟨by simp only[Pf.cnt,MD,Fm.cnt,LC,Tm.cnt];omega,by simp only[Pf.tsz,kH,Fm.tsz,zH,Tm.tsz,Ty.size];omega,by simp only[Pf.mx,Tm.mx];omega⟩
 have G:∀kk:FQ,A 72 [(Fm.q kk .nat (qE x)).p,num 0,.int 1] ((Fm.q kk .nat (qE x)).sh 0 1).p:=λkk=>WD _ 0 1 a6 a6 (by simp only[Fm.mx,Tm.mx];rw[C];omega) (by simp only[Fm.cnt,LC,Tm.cnt];omega)
 cases w with
 |zero=>
  have H:A 69 [num 10,x.p,(Pf.refl x).p] (pn 10 [x.c] [] [(Pf.refl x).c]):=Yc 10 x (.refl x);have I:=Ix (.q .ex .nat (qE x))
  cases v with|zero=>exact⟨.p2 .exUE (JL x) (.ex true ((Fm.q .exU .nat (qE x)).sh 0 1) (.v 0) (.leaf false 0)),e,(bd .exUE (JL x) (.ex true ((Fm.q .exU .nat (qE x)).sh 0 1) (.v 0) (.leaf false 0)) (i true .exU).1 (i true .exU).2.1 (i true .exU).2.2 (j true .exU).1 (j true .exU).2.1 (j true .exU).2.2 ⟨⟨⟨trivial,λ_=>.inr (c6 _)⟩,trivial⟩,⟨trivial,λ_=>.inr (c6 _)⟩,trivial⟩),z,Oz 1 [(16,.n [(7,.Y),(12,.D L b (.pv x.p)),(15,.r (x.sh 0 1).p),(16,.r (Tm.v 0).p),(17,.r (qE x).p),(18,.r (Fm.q .ex .nat (qE x)).p),(21,.r (Pf.refl x).p),(22,.n [(13,.r (pn 10 [x.c] [] [(Pf.refl x).c])),(15,.o [] [] (.agg [.undef,.pv (num (Fm.q .ex .nat (qE x)).tk),.pv (.slice (Fm.q .ex .nat (qE x)).te),.pv (.slice (Fm.q .ex .nat (qE x)).ts),.pv (.slice (Fm.q .ex .nat (qE x)).es)]))])]),(18,.D L c (.pv (num 0))),(300005,.f 12 [(Fm.q .exU .nat (qE x)).c]),(35,.Y),(37,.r (AA (g++[.nat]) (iD h))),(39,.r (AA (g++[.nat]) (iD h++[qE x]))),(41,.z k),(42,.D L d (.pv q.p)),(44,.D L e (.pv (num 0))),(50,.r ((Fm.q .exU .nat (qE x)).sh 0 1).p),(54,.r (Tm.v 0).p),(55,.r (Pf.leaf false 0).p),(56,.r (Pf.ex true ((Fm.q .exU .nat (qE x)).sh 0 1) (.v 0) (.leaf false 0)).p),(61,.r (Pf.p2 .exUE (JL x) (.ex true ((Fm.q .exU .nat (qE x)).sh 0 1) (.v 0) (.leaf false 0))).p)] DA o p (EF 0) (kG (x.sh 0 1) (.v 0)) (EE .ex .nat (qE x)) (JB x) H I r (rfl:vA [(Fm.q .exU .nat (qE x)).c]=vA [(Fm.q .exU .nat (qE x)).c]) DA s t n y gv (G .exU) (EF 0) (bH 0) (eK true ((Fm.q .exU .nat (qE x)).sh 0 1) (.v 0) (.leaf false 0)) (pJ 15 (JL x) (.ex true ((Fm.q .exU .nat (qE x)).sh 0 1) (.v 0) (.leaf false 0)))⟩|succ v=>exact⟨.p2 .exUE (JL x) q,e,(bd .exUE (JL x) q (i true .exU).1 (i true .exU).2.1 (i true .exU).2.2 a6 F a6 ⟨⟨⟨trivial,λ_=>.inr (c6 _)⟩,trivial⟩,l.gx⟩),z,il 1 [(16,.n [(7,.Y),(12,.D L b (.pv x.p)),(15,.r (x.sh 0 1).p),(16,.r (Tm.v 0).p),(17,.r (qE x).p),(18,.r (Fm.q .ex .nat (qE x)).p),(21,.r (Pf.refl x).p),(22,.n [(13,.r (pn 10 [x.c] [] [(Pf.refl x).c])),(15,.o [] [] (.agg [.undef,.pv (num (Fm.q .ex .nat (qE x)).tk),.pv (.slice (Fm.q .ex .nat (qE x)).te),.pv (.slice (Fm.q .ex .nat (qE x)).ts),.pv (.slice (Fm.q .ex .nat (qE x)).es)]))])]),(18,.D L c (.pv (num 0))),(300005,.f 12 [(Fm.q .exU .nat (qE x)).c]),(35,.Y),(37,.r (AA (g++[.nat]) (iD h))),(39,.r (AA (g++[.nat]) (iD h++[qE x]))),(41,.z k),(42,.D L d (.pv q.p)),(44,.D L e (.pv (num (v+1)))),(61,.r (Pf.p2 .exUE (JL x) q).p)] DA o p (EF 0) (kG (x.sh 0 1) (.v 0)) (EE .ex .nat (qE x)) (JB x) H I r (rfl:vA [(Fm.q .exU .nat (qE x)).c]=vA [(Fm.q .exU .nat (qE x)).c]) DA s t n y gv (pJ 15 (JL x) q)⟩
 |succ w=>
  cases v with|zero=>exact⟨.p2 .exE (zG x) (.ex false ((Fm.q .ex .nat (qE x)).sh 0 1) (.v 0) (.leaf false 0)),e,(bd .exE (zG x) (.ex false ((Fm.q .ex .nat (qE x)).sh 0 1) (.v 0) (.leaf false 0)) (i false .ex).1 (i false .ex).2.1 (i false .ex).2.2 (j false .ex).1 (j false .ex).2.1 (j false .ex).2.2 ⟨⟨⟨trivial,λ_=>.inr (c6 _)⟩,trivial⟩,⟨trivial,λ_=>.inr (c6 _)⟩,trivial⟩),z,Nz 1 [(16,.n [(7,.Y),(12,.D L b (.pv x.p)),(15,.r (x.sh 0 1).p),(16,.r (Tm.v 0).p),(17,.r (qE x).p),(18,.r (Fm.q .ex .nat (qE x)).p),(21,.r (Pf.refl x).p),(22,.r (zG x).p)]),(18,.D L c (.pv (num (w+1)))),(35,.Y),(37,.r (AA (g++[.nat]) (iD h))),(39,.r (AA (g++[.nat]) (iD h++[qE x]))),(41,.z k),(42,.D L d (.pv q.p)),(44,.D L e (.pv (num 0))),(50,.r ((Fm.q .ex .nat (qE x)).sh 0 1).p),(54,.r (Tm.v 0).p),(55,.r (Pf.leaf false 0).p),(56,.r (Pf.ex false ((Fm.q .ex .nat (qE x)).sh 0 1) (.v 0) (.leaf false 0)).p),(61,.r (Pf.p2 .exE (zG x) (.ex false ((Fm.q .ex .nat (qE x)).sh 0 1) (.v 0) (.leaf false 0))).p)] DA o p (EF 0) (kG (x.sh 0 1) (.v 0)) (EE .ex .nat (qE x)) (JB x) (eK false (.q .ex .nat (qE x)) x (.refl x)) r DA s t n y gv (G .ex) (EF 0) (bH 0) (eK false ((Fm.q .ex .nat (qE x)).sh 0 1) (.v 0) (.leaf false 0)) (pJ 11 (zG x) (.ex false ((Fm.q .ex .nat (qE x)).sh 0 1) (.v 0) (.leaf false 0)))⟩|succ v=>exact⟨.p2 .exE (zG x) q,e,(bd .exE (zG x) q (i false .ex).1 (i false .ex).2.1 (i false .ex).2.2 a6 F a6 ⟨⟨⟨trivial,λ_=>.inr (c6 _)⟩,trivial⟩,l.gx⟩),z,Nc 1 [(16,.n [(7,.Y),(12,.D L b (.pv x.p)),(15,.r (x.sh 0 1).p),(16,.r (Tm.v 0).p),(17,.r (qE x).p),(18,.r (Fm.q .ex .nat (qE x)).p),(21,.r (Pf.refl x).p),(22,.r (zG x).p)]),(18,.D L c (.pv (num (w+1)))),(35,.Y),(37,.r (AA (g++[.nat]) (iD h))),(39,.r (AA (g++[.nat]) (iD h++[qE x]))),(41,.z k),(42,.D L d (.pv q.p)),(44,.D L e (.pv (num (v+1)))),(61,.r (Pf.p2 .exE (zG x) q).p)] DA o p (EF 0) (kG (x.sh 0 1) (.v 0)) (EE .ex .nat (qE x)) (JB x) (eK false (.q .ex .nat (qE x)) x (.refl x)) r DA s t n y gv (pJ 11 (zG x) q)⟩
def NG(H:MF){L:List Int}(a:Dk L):∀k,k<=9->UD L k
 :=by intro x;induction x<;>grind[Yw,Hx,Jx,UD]
open Go.Lg
def a5(L:List Int):A 5 [.slice (L.map zL)] (.bool (decide (L.length<=500))):=by
 by_cases h:L.length<=500
 ·have e:(!dA (.ofNat 500) (.ofNat (L.map zL).length))=true:=by rw[iA bS];rfl
  rw[aaU h];exact f1 [5] e
 have e:(!dA (.ofNat 500) (.ofNat (L.map zL).length))=false:=by rw[KA bS];rfl
 rw[aaP h];exact f1 [5] e
def a7{L:List Int}(p:Dk L){a:Nat}(r:a<=L.length):∃(g:List Ty)(b:Nat),g.length<=3/\(∀s∈g,s.size<=3)/\b<=L.length/\O 19 [.loc 0 0] [(0,dk L a)] (.pv (rA g)) [(0,dk L b)]:=by
 have ty:∀{x:Nat},x<=L.length->∃(t:Ty)(c:Nat),t.size<=3/\c<=L.length/\O 49 [.loc 0 0,.pv (num 1)] [(0,dk L x)] (.pv t.p) [(0,dk L c)]:=λh=>by
  have⟨s,c,f,i,j⟩:=PD p 1 (by have:=zA;omega) h;exact⟨s,c,hV f bb,i,j⟩
 have⟨w,b,B,k,l⟩:=nx p r (n:=4) a6 (by have:=zA;omega);rcases w with _|_|_|_|w
 ·exact⟨[],b,bb,nofun,k,o1 1 [6] l⟩
 ·have⟨s,c,f,i,j⟩:=ty k;exact⟨[s],c,a8,by simp;exact f,i,o2 1 [6,13] l j⟩
 ·have⟨s,c,f,i,j⟩:=ty k;have⟨u,d,m,n,o⟩:=ty i;exact⟨[s,u],d,a8,by simp;exact⟨f,m⟩,n,o3 1 [6,13,13] l j o⟩
 ·have⟨s,c,f,i,j⟩:=ty k;have⟨u,d,m,n,o⟩:=ty i;have⟨v,e,y,z,A⟩:=ty n;exact⟨[s,u,v],e,a8,by simp;exact⟨f,m,y⟩,z,o4 1 [6,13,13,13] l j o A⟩
 omega
abbrev PR.v(r:PR):PV:=.agg [num r.k,num r.tk,.slice r.te,.slice r.ts,.slice r.es,NA r.u]
def Dj(a:List Fm)(g:List Ty)(b:List Fm)(p:Pf):Prop:=p.ck/\p.cnt<=16384/\p.gx/\∃j:Jt,j.p=p/\j.D a g b
def Ej:∀k,300<=cp k|0=>e6 _|k+1=>by have:=Ej k;have e:cp (k+1)=2*cp k+10000:=rfl;omega
def xS(H:MF){Z k:Nat}{ls:List Fm}{g:List Ty}{hs:List Fm}{p:Pf}(a:S19 Z ls g hs)(b:PG (cp k) (Z+cm k) p)(h:k<=10)(v:Z+cm k<=281474976710656):∃r:PR,A 26 [uA ls,AA g hs,p.p] r.p/\∀f u,r=.ok f u->Dj ls g hs p:=by
 have:=zA;have:=yA;have:=OP k h;have:=a.ll;have:=a.gl;have:=a.hl;have:eB=1125899902742528:=rfl;have:mA=8388608:=rfl;have⟨r,l,q,_⟩:=Df H (X:=Z+cm k) (ls:=ls) (g:=g) (hs:=hs) (p:=p) ⟨λf c=>by have:=a.lb f c;omega,λf c=>by have:=a.hb f c;omega,λs d=>by have:=a.gs s d;omega,a6,a6,a6,by have:=b.cnt;omega,b.tsz,b.mx,a6⟩;exact⟨r,l,λf u e=>by
  have⟨_,m,n,_,_,⟨j,o,E,t,_⟩,_⟩:=q f u e;exact⟨m,n,b.gx,j,o,t⟩⟩
def Kx(H:MF){L:List Int}(A:Dk L){e:List Fm}{g:List Ty}{h:List Fm}{a k:Nat}(I:k<=9)(c:kC+cm k<=281474976710656)(d:S19 kC e g h)(J:a<=L.length):∃(p:Pf)(r:PR)(b:Nat),Dj e g h p/\b<=L.length/\
  O 10 [.loc 0 0,.pv (uA e),.pv (AA g h),.pv (num k)] [(0,dk L a)] (.pv (.tuple [p.p,r.v])) [(0,dk L b)]:=by
 have:=zA;have s:=NG H A k I;have⟨p1,B,K,i,j⟩:=s kC e g h a d c J;have⟨M,l,N⟩:=xS H d K a6 c
 cases M with|ok f u=>exact⟨p1,.ok f u,B,N f u rfl,i,o2 1 [22,27] j l⟩|er n1=>
 have⟨p2,C,P,m,t⟩:=s kC e g h B d c i;have⟨Q,v,R⟩:=xS H d P a6 c
 cases Q with|ok f u=>exact⟨p2,.ok f u,C,R f u rfl,m,o4 1 [22,27,22,27] j l t v⟩|er n2=>
 have⟨S,D,T,n,w⟩:=s kC e g h C d c m;have⟨U,x,V⟩:=xS H d T a6 c
 cases U with|ok f u=>exact⟨S,.ok f u,D,V f u rfl,n,o6 1 [22,27,22,27,22,27] j l t v w x⟩|er n3=>
 have⟨W,X,Y,o,E⟩:=s kC e g h D d c n;have⟨Z,F,z4⟩:=xS H d Y a6 c
 cases Z with|ok f u=>exact⟨W,.ok f u,X,z4 f u rfl,o,o8 1 [22,27,22,27,22,27,22,27] j l t v w x E F⟩|er n4=>
 have⟨y,b5,hy,z,g5⟩:=nx A o (n:=4) a6 a6;have qr:(Pf.refl (AB y)).cnt<=300/\(Pf.refl (AB y)).tsz<=qA/\(Pf.refl (AB y)).mx<=kC/\(AB y).chk=0/\(Fm.eq (AB y) (AB y)).chk=0:=by
  rcases y with _|_|_|_|y
  ·exact⟨bb,bb,bb,rfl,rfl⟩
  ·exact⟨bb,bb,bb,rfl,rfl⟩
  ·exact⟨bb,bb,bb,rfl,rfl⟩
  ·exact⟨bb,bb,bb,rfl,rfl⟩
  omega
 have⟨c1,c2,c3,G,qe⟩:=qr;have:=Ej k;have:=NP k;have⟨r5,k5,_⟩:=xS H (p:=.refl (AB y)) d ⟨a6,c2,a6,trivial⟩ a6 c;exact⟨.refl (AB y),r5,b5,⟨G,a6,trivial,.refl (AB y),rfl,qe,G,pS g y⟩,z,fK 1 [22,27,22,27,22,27,22,27,36,37,38,43] j l t v w x E F g5 (PJ hy) (JB (AB y)) k5⟩
end Go.Proofs.YtbebdmlomjpamaaGreatDoor
