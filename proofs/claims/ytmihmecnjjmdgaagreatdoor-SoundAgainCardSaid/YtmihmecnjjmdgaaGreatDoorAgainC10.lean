/- Contracts of functions; no conditions. -/
import Derived.Test.YtmihmecnjjmdgaaGreatDoorAgainC9
import Derived.Test.YtmihmecnjjmdgaaGreatDoorAgainC5
import Derived.Test.YtmihmecnjjmdgaaGreatDoorAgainB3
import Derived.Test.YtmihmecnjjmdgaaGreatDoorAgainC8
import Derived.Test.YtmihmecnjjmdgaaGreatDoorAgainC7
set_option linter.all false
set_option maxHeartbeats 4000000
namespace Go.Proofs.YtmihmecnjjmdgaaGreatDoor
open Go.Lg
set_option maxRecDepth 100000
abbrev NB(n:Nat)(l:Bool):List (Nat×Ob):=[(1,bx [num n,.bool l])]
def Cg(k n:Nat)(l:Bool)(h:n+k<=yA):O 217 [.loc 1 0,.pv (num k),.pv (num 0)] (NB n l) (.pv (.bool true)) (NB (n+k) l):=by
 have g:=lA (a:=n) (b:=k) h;cases l<;>exact o1 2 [12] g
def Dg(k n:Nat)(l:Bool)(h:n+k<=yA:=by omega):O 217 [.loc 1 0,.pv (num k),.pv (num 4)] (NB n l) (.pv (.bool true)) (NB (n+k) true):=by
 have g:=lA (a:=n) (b:=k) h;cases l<;>exact o1 2 [12] g
def cT{t:Tm}(h:t.shp=true)(n:Nat)(l:Bool)(b:n+t.cnt<=yA:=by omega):∃(k e:Nat)(a:Bool),A 181 [t.p] (.tuple [num k,num e])/\k<=t.cnt/\(a=false->l=false/\t.chk=0)/\O 217 [.loc 1 0,.pv (num k),.pv (num e)] (NB n l) (.pv (.bool true)) (NB (n+k) a):=by
 have g:=oR t (by have:=VD t h;have:=uA;omega) (by omega);rcases Tm.chk_3 t with e|e|e
 ·rw[e,Tm.ckn0 e]at g;exact⟨_,_,l,g,Nat.le_refl _,λh=>⟨h,e⟩,Cg _ _ _ b⟩
 ·grind[Tm.chk]
 have c:t.ckn=0:=by unfold Tm.ckn;rw[e];rfl
 rw[e,c]at g;exact⟨_,_,true,g,Nat.zero_le _,nofun,Dg _ _ _⟩
def cF{t:Fm}(h:t.shp=true)(n:Nat)(l:Bool)(b:n+t.cnt<=yA:=by omega):∃(k e:Nat)(a:Bool),A 180 [t.p] (.tuple [num k,num e])/\k<=t.cnt/\(a=false->l=false/\t.chk=0)/\O 217 [.loc 1 0,.pv (num k),.pv (num e)] (NB n l) (.pv (.bool true)) (NB (n+k) a):=by
 have g:=xR t (by have:=FE t h;have:=uA;omega) (by omega);rcases Fm.chk_3 t with e|e|e
 ·rw[e,Fm.ckn0 e]at g;exact⟨_,_,l,g,Nat.le_refl _,λh=>⟨h,e⟩,Cg _ _ _ b⟩
 ·grind[Fm.chk]
 have c:t.ckn=0:=by unfold Fm.ckn;rw[e];rfl
 rw[e,c]at g;exact⟨_,_,true,g,Nat.zero_le _,nofun,Dg _ _ _⟩
def yH:∀(p:Pf)(n:Nat)(l:Bool),n+p.cnt<=yA->p.wk->∃(D:Nat)(E:Bool),D<=n+p.cnt/\(E=false->l=false/\p.ck)/\O 151 [.loc 1 0,.pv p.p] (NB n l) (.pv (.bool true)) (NB D E)
 |.leaf u i,n,l,c,_=>by
  have c:n+1<=yA:=c;exact⟨n+1,l,Nat.le_refl _,λh=>⟨h,trivial⟩,by cases u<;>cases i<;>exact o2 2 [66,81] (lA (a:=n) (b:=1)) FD⟩
 |.refl t,n,l,c,h=>by
  have c:n+(1+t.cnt)<=yA:=c;obtain⟨k,e,l1,gt,x,q,ut⟩:=cT (t:=t) h (n+1) l;exact⟨n+1+k,l1,by show _<=n+(1+t.cnt);omega,q,o4 2 [66,81,92,(95,.o [] (NB (n+1+k) l1) (.pv (.bool true)))] (lA (a:=n) (b:=1)) FD gt ut⟩
 |.p1 k a,n,l,c,h=>by
  have c:n+(1+a.cnt)<=yA:=c;obtain⟨n1,l1,F,g,ga⟩:=yH a (n+1) l (by omega) h;have o:=lA (a:=n) (b:=1);exact⟨n1,l1,by show _<=n+(1+a.cnt);omega,g,by cases k<;>exact o3 2 [66,81,(122,.o [] (NB n1 l1) (.pv (.bool true)))] o FD ga⟩
 |.p2 k a b,n,l,c,h=>by
  have c:n+(1+a.cnt+b.cnt)<=yA:=c;obtain⟨n1,l1,F,g,ga⟩:=yH a (n+1) l (by omega) h.1;obtain⟨n2,j,B,d,y⟩:=yH b n1 l1 (by omega) h.2;have o:=lA (a:=n) (b:=1);exact⟨n2,j,by show _<=n+(1+a.cnt+b.cnt);omega,λe=>⟨(g (d e).1).1,(g (d e).1).2,(d e).2⟩,by cases k<;>exact o4 2 [66,81,(122,.o [] (NB n1 l1) (.pv (.bool true))),(122,.o [] (NB n2 j) (.pv (.bool true)))] o FD ga y⟩
 |.impI f a,n,l,c,h=>by
  have c:n+(1+f.cnt+a.cnt)<=yA:=c;obtain⟨k,e,l1,v,x,g,w⟩:=cF h.1 (n+1) l;obtain⟨n2,j,B,d,ga⟩:=yH a (n+1+k) l1 (by omega) h.2;exact⟨n2,j,by show _<=n+(1+f.cnt+a.cnt);omega,λe=>⟨(g (d e).1).1,(g (d e).1).2,(d e).2⟩,o5 2 [66,81,107,(110,.o [] (NB (n+1+k) l1) (.pv (.bool true))),(122,.o [] (NB n2 j) (.pv (.bool true)))] (lA (a:=n) (b:=1)) FD v w ga⟩
 |.all u s a,n,l,c,h=>by
  have:=uA;have c:n+(1+a.cnt)<=yA:=c;have G:=CN s (by have:=h.1;omega);rw[(VJ h.1).1,(VJ h.1).2]at G;obtain⟨n1,l1,F,g,ga⟩:=yH a (n+1) l (by omega) h.2;have o:=lA (a:=n) (b:=1);exact⟨n1,l1,by show _<=n+(1+a.cnt);omega,λe=>⟨(g e).1,h.1,(g e).2⟩,by cases u<;>exact o3 2 [66,74,(122,.o [] (NB n1 l1) (.pv (.bool true)))] o G ga⟩
 |.ins u t a,n,l,c,h=>by
  have c:n+(1+t.cnt+a.cnt)<=yA:=c;obtain⟨k,e,l1,gt,x,g,ut⟩:=cT h.1 (n+1) l;obtain⟨n2,j,B,d,ga⟩:=yH a (n+1+k) l1 (by omega) h.2;have o:=lA (a:=n) (b:=1);exact⟨n2,j,by show _<=n+(1+t.cnt+a.cnt);omega,λe=>⟨(g (d e).1).1,(g (d e).1).2,(d e).2⟩,by cases u<;>exact o5 2 [66,81,92,(95,.o [] (NB (n+1+k) l1) (.pv (.bool true))),(122,.o [] (NB n2 j) (.pv (.bool true)))] o FD gt ut ga⟩
 |.ex u f t a,n,l,c,h=>by
  have c:n+(1+t.cnt+f.cnt+a.cnt)<=yA:=c;obtain⟨k,e,l1,gt,x,g,ut⟩:=cT h.1 (n+1) l;obtain⟨z,I,j,v,C,d,w⟩:=cF h.2.1 (n+1+k) l1;obtain⟨n3,r,H,m,ga⟩:=yH a (n+1+k+z) j (by omega) h.2.2;have o:=lA (a:=n) (b:=1);exact⟨n3,r,by show _<=n+(1+t.cnt+f.cnt+a.cnt);omega,λe=>⟨(g (d (m e).1).1).1,(g (d (m e).1).1).2,(d (m e).1).2,(m e).2⟩,by cases u<;>exact o7 2 [66,81,92,(95,.o [] (NB (n+1+k) l1) (.pv (.bool true))),107,(110,.o [] (NB (n+1+k+z) j) (.pv (.bool true))),(122,.o [] (NB n3 r) (.pv (.bool true)))] o FD gt ut v w ga⟩
 |.ind u f t a b,n,l,c,h=>by
  have c:n+(1+t.cnt+f.cnt+a.cnt+b.cnt)<=yA:=c;obtain⟨k,e,l1,gt,x,g,ut⟩:=cT h.1 (n+1) l;obtain⟨z,I,j,v,C,d,w⟩:=cF h.2.1 (n+1+k) l1;obtain⟨n3,r,H,m,ga⟩:=yH a (n+1+k+z) j (by omega) h.2.2.1;obtain⟨n4,l4,K,A,y⟩:=yH b n3 r (by omega) h.2.2.2;have o:=lA (a:=n) (b:=1);exact⟨n4,l4,by show _<=n+(1+t.cnt+f.cnt+a.cnt+b.cnt);omega,λe=>⟨(g (d (m (A e).1).1).1).1,(g (d (m (A e).1).1).1).2,(d (m (A e).1).1).2,(m (A e).1).2,(A e).2⟩,by cases u<;>exact o8 2 [66,81,92,(95,.o [] (NB (n+1+k) l1) (.pv (.bool true))),107,(110,.o [] (NB (n+1+k+z) j) (.pv (.bool true))),(122,.o [] (NB n3 r) (.pv (.bool true))),(122,.o [] (NB n4 l4) (.pv (.bool true)))] o FD gt ut v w ga y⟩
 |.subst f a b,n,l,c,h=>by
  have c:n+(1+f.cnt+a.cnt+b.cnt)<=yA:=c;obtain⟨k,e,l1,v,x,g,w⟩:=cF h.1 (n+1) l;obtain⟨n2,j,B,d,ga⟩:=yH a (n+1+k) l1 (by omega) h.2.1;obtain⟨n3,r,H,m,y⟩:=yH b n2 j (by omega) h.2.2;exact⟨n3,r,by show _<=n+(1+f.cnt+a.cnt+b.cnt);omega,λe=>⟨(g (d (m e).1).1).1,(g (d (m e).1).1).2,(d (m e).1).2,(m e).2⟩,o6 2 [66,81,107,(110,.o [] (NB (n+1+k) l1) (.pv (.bool true))),(122,.o [] (NB n2 j) (.pv (.bool true))),(122,.o [] (NB n3 r) (.pv (.bool true)))] (lA (a:=n) (b:=1)) FD v w ga y⟩
def Bs{p:Pf}(h:p.K):(p.ck/\A 25 [p.p] (num 0))\/A 25 [p.p] (num 4):=by
 by_cases d:p.ck
 ·grind[Ka]
 have:=uA;obtain⟨a,b,i,j,g⟩:=yH p 0 false (by omega) h.2;have e:b=true:=by
  simp_all
 subst e;have c:A 91 [p.p] (.tuple [num 0,num 4]):=f1 [(10,.o [] (NB a true) (.pv (.bool true)))] g;exact .inr (f1 [7] c)
def Cs(ρ:Operand->Value)(h:ρ (.tmp 5)=.nilIface)(c:ρ (.const .nilIface)=.nilIface)(w:World):(execOp ρ ({dst:=some 7,op:=Op.binOp BinOp.eql 20 (Operand.tmp 5) (Operand.const Value.nilIface) 20,type:=4,pos:= "sound.go:66",after:= #[],guard:=none}:Oper)).run Tryz.prog w=.ok (.value (.bool true)) w:=by
 have e:=evOK.T;have a:TIOK Tryz.prog 20 ⟨.iface,1,16,zV .nilif,[.nilif]⟩:=e 20 _ rfl;obtain⟨d,f,b⟩:=a.desc;simp only[KC]at b;have heq:(Op.equal 20 .nilIface .nilIface).run Tryz.prog w=.ok true w:=eF λd=>by
  obtain⟨i,rfl⟩:=b;simp[Op.equalIn,run_underlying f]
 have g:(eqGuard BinOp.eql 20 (Operand.tmp 5) (Operand.const Value.nilIface) Value.nilIface Value.nilIface).run Tryz.prog w=.ok () w:=by
  simp[eqGuard]
 simp[execOp,h,c,g,binOp,heq]
def Ds:AX Tryz.prog 23 2:=by
 intro w i j;obtain⟨x,y,rfl⟩:∃x y,i=[x,y]:=by
  match i,j with
  |[x,y],_=>exact⟨x,y,rfl⟩
 refine callsD_of_wpS (P:=Tryz.prog) (fn:=Tryz.f23) (evOK.F 23 _ rfl).1 rfl λk cs f=>?_
 apply wpS_seq;apply wpS_region;simp only[List.size_toArray,List.length_cons,List.length_nil,Nat.zero_add,List.range_succ,List.range_zero,List.nil_append];simp only[wpOpsS,List.getElem?_toArray,List.getElem?_cons_zero,Region.wanted,if_true];have a:∀ρ w,(execOp ρ ({dst:=some 5,op:=Op.call {callee:=Callee.builtin Builtin.recover,args:= #[],argTypes:= #[]},type:=20,pos:= "sound.go:66",after:= #[],guard:=none}:Oper)).run Tryz.prog w=.ok .recover w:=λ_ _=>rfl
 simp only[a,recoverD,f,Exit.thenS];refine wpS_of_wp ?_;have b:({tmps:=#[x,y]++Array.replicate (Tryz.f23.ntmps-(1+1)) undef,defers:=[]}:Act).put (some 5) Value.nilIface={tmps:=#[x,y,undef,undef,undef,.nilIface,undef,undef,undef,undef,undef,undef,undef],defers:=[]}:=rfl;rw[b];clear b a j;generalize l:(λ(e:Exit)(c:Act)(g:World)=>bodyPostS Tryz.prog Tryz.f23 k cs (λe m g=>(∃r,e=Ending.returned r)/\m=FrameMode.returning/\g=w) e c (k::cs) g)=Q;have d:∀c:Act,c.defers=[]->Q .normal c w:=by
  intro c n;rw[<-l];refine⟨n,.returning,by rw[<-f],.tuple #[],?_,⟨_,rfl⟩,rfl,rfl⟩;simp[results,Tryz.f23]
 clear l f;apply wp_block;apply wp_seq;apply wp_region_list;refine wpList_plain rfl λK h=>?_
 unfold Oper.wp;rw[Cs _ rfl rfl,Oper.upon_value];apply h;show Code.wp _ _ _ _ _;refine wp_cond_true rfl ?_;apply wp_region_list;refine wpList_plain rfl λK h=>?_
 unfold Oper.wp;have o:∀ρ w,(execOp ρ ({dst:=some 2,op:=Op.assign (Operand.tmp 5),type:=20,pos:= "sound.go:66",after:= #[],guard:=none}:Oper)).run Tryz.prog w=.ok (.value (ρ (.tmp 5))) w:=λ_ _=>rfl
 rw[o,Oper.upon_value];apply h;exact d _ rfl
abbrev oA:Oper:={dst:=some 40,op:=Op.makeFunc (Fn.func 23) #[] #[Operand.tmp 8,Operand.tmp 9],type:=1,pos:= "sound.go:65",after:= #[],guard:=none}
abbrev oB:Oper:={dst:=none,op:=Op.defer {callee:=Callee.value (Operand.tmp 40),args:= #[],argTypes:= #[]},type:=0,pos:= "sound.go:65",after:= #[{on:=0,ground:=Ground.data}],guard:=none}
abbrev RE:List V:=[.loc 2 0,.loc 3 0]
abbrev qR:Array Operand:=#[.tmp 8,.tmp 9]
def bU:kU ev Tryz.prog 8 oA oB qR RE 40 23:=⟨⟨Tryz.f23,(evOK.F 23 _ rfl).1,rfl,rfl⟩,rfl,rfl,rfl,rfl,rfl,rfl,Ds⟩
abbrev z9:List PV:=[num 0,num 0,num 0,.nils,.nils,.nils,.nils]
abbrev dU:List (Nat×Ob):=[(2,bx z9),(3,bx [num 0])]
abbrev fU:List (Nat×Ob):=[(2,bx z9),(3,bx [num 4])]
def Es:AQ Tryz.prog gl 23 RE dU pE fU:=by
 have h:jU ev Tryz.prog 100 6 23 RE dU 4 5 [] pE (.pv (.tuple [])) fU:=by
  have a:(some (bx z9)=some (bx z9)/\some (bx [num 4])=some (bx [num 4])/\V.pv (PV.tuple [])=V.pv (PV.tuple []))=jU ev Tryz.prog 100 6 23 RE dU 4 5 [] pE (.pv (.tuple [])) fU:=by kernel_rfl
  exact a▸⟨rfl,rfl,rfl⟩
 exact Br (fn:=Tryz.f23) evOK h rfl rfl (λ_ _=>rfl) rfl rfl (by decide) (by decide) (by simp[cE,BA,V.names,lC,bx,iA,Ob.names,jA]) (by simp[cE,BA,V.names,lC,bx,iA,Ob.names,jA])
abbrev Eg:PV:=.agg [num 0,num 0,num 0,.slice [],.slice [],.slice [],.slice []]
def w9:PV.w 4 (.tuple [.agg z9,num 4])=.tuple [Eg,num 4]:=rfl
section
variable{g:List Ty}(hg:g.length<=16)(hgs:∀s∈g,s.size<=64){j:Jt}(hD:j.D [] g [])(hc:j.p.ck)(hp:j.p.cnt<=16384)(hx:j.gx)
include hg hgs hD hc hp hx
theorem s9:j.OK [] g.length []/\(A 8 [dA [],row [],LA g [],j.p.p] (.tuple [Eg,num 4])\/((j.pv [] (wB g.length 0)).p.ck/\(j.pv [] (wB g.length 0)).p.cnt<=16384/\A 8 [dA [],row [],LA g [],j.p.p] (.tuple [(j.pv [] (wB g.length 0)).p.p,num 0]))):=by
 obtain⟨l,h⟩:=Jl hg hgs hD hc hp hx;refine⟨l,?_⟩;rcases h with h|⟨h,_⟩
 ·exact .inl (f1 [22] h)
 generalize m:(j.pv [] (wB g.length 0)).p=X;have H:=YD (ls:=[]) (tl:=[]) (λi f h=>by simp at h) j 84984 g.length [] (wB g.length 0) l hx (Il hg) (by omega);rw[m]at H;have d:=Yl hg hgs;rcases H with ⟨k,c⟩|c
 ·rcases Bs k with ⟨n,e⟩|e
  ·have a:(A 21 [dA [],row [],LA g [],j.p.p] (.tuple [j.ptr [],(wB g.length 0).p,(j.gl g.length).p,num 0])/\A 22 [LA g []] (.tuple [LA g [],num 0])/\ #[oA,oB]= #[oA,oB]/\RE=RE/\A 24 [aA [],j.ptr [],(wB g.length 0).p] X.p/\A 25 [X.p] (num 0)/\V.pv (.tuple [X.p,num 0])=V.pv (.tuple [X.p,num 0]))=wU ev Tryz.prog 100 6 8 7 [dA [],row [],LA g [],j.p.p] oA oB qR RE 40 23 [(22,.U [j.ptr [],(wB g.length 0).p,(j.gl g.length).p,num 0]),(33,.U [LA g [],num 0]),(45,.r X.p),(47,.N 0)] (.tuple [X.p,num 0]):=by kernel_rfl
   exact .inr ⟨n,k.1,qZ evOK (Eq.mp a ⟨h,d,rfl,rfl,c,e,rfl⟩) bU⟩
  have a:(A 21 [dA [],row [],LA g [],j.p.p] (.tuple [j.ptr [],(wB g.length 0).p,(j.gl g.length).p,num 0])/\A 22 [LA g []] (.tuple [LA g [],num 0])/\ #[oA,oB]= #[oA,oB]/\RE=RE/\A 24 [aA [],j.ptr [],(wB g.length 0).p] X.p/\A 25 [X.p] (num 4)/\V.pv (.tuple [.agg z9,num 4])=V.pv (.tuple [.agg z9,num 4]))=wU ev Tryz.prog 100 6 8 7 [dA [],row [],LA g [],j.p.p] oA oB qR RE 40 23 [(22,.U [j.ptr [],(wB g.length 0).p,(j.gl g.length).p,num 0]),(33,.U [LA g [],num 0]),(45,.r X.p),(47,.N 4)] (.tuple [.agg z9,num 4]):=by kernel_rfl
  have b:=AC.wO (ev:=ev) 4 (qZ evOK (Eq.mp a ⟨h,d,rfl,rfl,c,e,rfl⟩) bU);rw[w9]at b;exact .inl b
 have a:(A 21 [dA [],row [],LA g [],j.p.p] (.tuple [j.ptr [],(wB g.length 0).p,(j.gl g.length).p,num 0])/\A 22 [LA g []] (.tuple [LA g [],num 0])/\ #[oA,oB]= #[oA,oB]/\RE=RE/\Pn 24 [aA [],j.ptr [],(wB g.length 0).p]/\some (bx z9)=some (bx z9)/\some (bx [num 0])=some (bx [num 0])/\V.pv (.tuple [.agg z9,num 4])=V.pv (.tuple [.agg z9,num 4]))=Nf ev Tryz.prog 100 6 8 7 8 45 [dA [],row [],LA g [],j.p.p] oA oB qR RE 40 23 dU fU [(22,.U [j.ptr [],(wB g.length 0).p,(j.gl g.length).p,num 0]),(33,.U [LA g [],num 0]),(45,.N 0)] pE (.tuple [.agg z9,num 4]):=by kernel_rfl
 have b:=AC.wO (ev:=ev) 4 (Cr evOK (Eq.mp a ⟨h,d,rfl,rfl,c,rfl,rfl,rfl⟩) bU Es rfl (by simp[lC,bx,iA,Ob.names,BA,V.names,jA]) (by decide));rw[w9]at b;exact .inl b
end
open Go.Lg
def uH:∀p:Pf,p.ck->p.tsz<=64|.leaf _ _,_=>Nat.zero_le _|.refl t,h=>VD t (Tm.chk0 h).2|.p1 _ a,h=>uH a h|.p2 _ a b,h=>Nat.max_le.2 ⟨uH a h.1,uH b h.2⟩|.impI f a,h=>Nat.max_le.2 ⟨FE f (Fm.chk0 h.1).2,uH a h.2⟩|.all _ s a,h=>Nat.max_le.2 ⟨uH a h.2,h.1⟩|.ins _ t a,h=>Nat.max_le.2 ⟨VD t (Tm.chk0 h.1).2,uH a h.2⟩|.ex _ f t a,h=>Nat.max_le.2 ⟨Nat.max_le.2 ⟨VD t (Tm.chk0 h.1).2,FE f (Fm.chk0 h.2.1).2⟩,uH a h.2.2⟩|.ind _ f t a b,h=>Nat.max_le.2 ⟨Nat.max_le.2 ⟨Nat.max_le.2 ⟨VD t (Tm.chk0 h.1).2,FE f (Fm.chk0 h.2.1).2⟩,uH a h.2.2.1⟩,uH b h.2.2.2⟩|.subst f a b,h=>Nat.max_le.2 ⟨Nat.max_le.2 ⟨FE f (Fm.chk0 h.1).2,uH a h.2.1⟩,uH b h.2.2⟩
def bH{r:List Fm}:∀(p:Pf)(g:List Ty)(d:List Fm)(f:Fm),p.W r g d f->p.mx<=g.length+2*p.cnt
 |.leaf _ _,_,_,_,_=>Nat.zero_le _|.refl t,g,_,_,h=>by have:=fD h.2.1;grind[Pf.mx,Pf.cnt]|.p1 k a,g,d,f,h=>by
  have:∃j,a.W r g d j:=by
   cases k
   ·exact⟨_,h.choose_spec⟩
   ·exact⟨_,h.choose_spec⟩
   obtain⟨s,u,x,h,_⟩:=h;grind
  obtain⟨j,z⟩:=this;have:=bH a g d j z
  grind[Pf.mx,Pf.cnt]
 |.p2 k a b,g,d,f,h=>by
  have:∃j v m n,a.W r g d j/\b.W r v m n/\v.length<=g.length+1:=by
   cases k
   ·obtain⟨x,y,i,c,_⟩:=h;grind
   ·obtain⟨x,i,c⟩:=h;grind
   ·obtain⟨s,x,y,i,c,_⟩:=h;grind
   obtain⟨s,x,y,i,c,_⟩:=h;grind
  obtain⟨j,v,m,n,i,c,w⟩:=this;have:=bH a g d j i;have:=bH b v m n c
  grind[Pf.mx,Pf.cnt]
 |.impI x a,g,d,f,⟨i,y,c,_⟩=>by
  have:=uJ i.2;have:=bH a _ _ _ c
  grind[Pf.mx,Pf.cnt]
 |.all u s a,g,d,f,⟨_,y,c,_⟩=>by
  have:=bH a _ _ _ c
  grind[Pf.mx,Pf.cnt,List.length_append,List.length_singleton]
 |.ins u t a,g,d,f,⟨_,s,x,i,c,_⟩=>by
  have:=fD i;have:=bH a _ _ _ c
  grind[Pf.mx,Pf.cnt]
 |.ex u x t a,g,d,f,⟨o,_,s,y,i,_,c,_⟩=>by
  have:=uJ o.2;have:=fD i;have:=bH a _ _ _ c
  grind[Pf.mx,Pf.cnt]
 |.ind l x t a b,g,d,f,⟨o,i,c,w,_⟩=>by
  have:=uJ o.2;have:=fD i.2;have:=bH a _ _ _ c;have:=bH b _ _ _ w;have e:(lG l).length<=2:=by cases l<;>decide
  grind[Pf.mx,Pf.cnt,List.length_append,List.length_singleton]
 |.subst x a b,g,d,f,⟨o,t,u,c,w,_⟩=>by
  have:=uJ o.2;have:=bH a _ _ _ c;have:=bH b _ _ _ w
  grind[Pf.mx,Pf.cnt,List.length_append,List.length_singleton]
def Fs:mM [] [] []:=⟨nofun,λi t h=>by simp at h,λi f h=>by simp at h,λi f h=>by simp at h⟩
def wZ(g:List Ty):SoT g g [] [] (wB g.length 0):=by
 refine⟨QV g.length 0,⟨λi s h=>?_,λi f a=>absurd a (Nat.not_lt_zero i)⟩,rfl,rfl,nofun,nofun,λi f a=>absurd a (Nat.not_lt_zero i)⟩;show Ht g ((Tm.v i).ps (wB g.length 0).vs g.length 0) s;rw[F1 (MP h)];exact h
open Go.Lg
def gN{f:Nat}{args:List PV}{x:PV}(n:Nat)(e:(x=x)=JY ev Tryz.prog 100 n f args [] x):A f args x:=RY evOK (Eq.mp e rfl)
abbrev falF:Fm:=.eq (.n0 .zero) (.n1 .succ (.n0 .zero))
abbrev rf0:Pf:=.refl (.n0 .zero)
abbrev eq0:Fm:=.eq (.n0 .zero) (.n0 .zero)
abbrev rj0:Jt:=.refl (.n0 .zero)
def Fg:A 15 [] falF.p:=gN 20 (by kernel_rfl)
def Gs:A 35 [eq0.p,(Tm.n0 .unit).p] (FR.ok eq0).p:=gN 20 (by kernel_rfl)
def Hs:A 89 [rf0.p] rf0.p:=gN 20 (by kernel_rfl)
def Js:A 131 [(wB 0 0).p,eq0.p] (FR.ok eq0).p:=gN 20 (by kernel_rfl)
def Ks:A 35 [falF.p,(Tm.n0 .unit).p] (FR.ok falF).p:=gN 20 (by kernel_rfl)
def Ls:A 34 [dA [falF],row [.n0 .unit]] (num 0):=gN 20 (by kernel_rfl)
def Ms:A 16 [falF.p,falF.p] (.bool true):=gN 20 (by kernel_rfl)
def Ns:A 14 [dA [falF],row [.n0 .unit]] (.tuple [dA [falF],num 0]):=f2 [14,31] Ls Ks
def Qs:rj0.D [] [] []:=⟨rfl,rfl,rfl⟩
def Rs:A 67 [aA [],rj0.ptr [],(wB 0 0).p] (FR.ok eq0).p:=by
 have h:A 80 [aA [],rj0.ptr [],(wB 0 0).p] (XR.ok (.n0 .unit)).p:=f1 [13] JG;exact f3 [15,28,37] h Js Gs
def Gg:A 21 [dA [],row [],LA [] [],rf0.p] (.tuple [rj0.ptr [],(wB 0 0).p,eq0.p,num 0]):=
 f4 [22,32,39,45] (Uj [] (by decide) nofun rj0 Qs rfl (by decide)).1 zb (Za [] (by decide)) Rs
def Ss:A 12 [dA [],row [],LA [] [],rf0.p] (FR.ok eq0).p:=f1 [19] Gg
def Ts:A 24 [aA [],rj0.ptr [],(wB 0 0).p] rf0.p:=by
 have h:A 84 [(wB 0 0).p,(Tm.n0 .zero).p] (XR.ok (.n0 .zero)).p:=qS (wB 0 0) (.n0 .zero) 0 rfl (QV 0 0).ve (by decide) (by decide) ⟨by decide,rfl,trivial⟩;exact f3 [187,190,193] h (LD (.n0 .zero)) Hs
def Us:A 8 [dA [],row [],LA [] [],rf0.p] (.tuple [rf0.p,num 0]):=by
 have h:=Gg;have a:=Yl (g:=[]) (by decide) nofun;have b:=Ka rf0 (by decide) rfl;have c:(A 21 [dA [],row [],LA [] [],rf0.p] (.tuple [rj0.ptr [],(wB 0 0).p,eq0.p,num 0])/\A 22 [LA [] []] (.tuple [LA [] [],num 0])/\ #[oA,oB]= #[oA,oB]/\RE=RE/\A 24 [aA [],rj0.ptr [],(wB 0 0).p] rf0.p/\A 25 [rf0.p] (num 0)/\V.pv (.tuple [rf0.p,num 0])=V.pv (.tuple [rf0.p,num 0]))=wU ev Tryz.prog 100 6 8 7 [dA [],row [],LA [] [],rf0.p] oA oB qR RE 40 23 [(22,.U [rj0.ptr [],(wB 0 0).p,eq0.p,num 0]),(33,.U [LA [] [],num 0]),(45,.r rf0.p),(47,.N 0)] (.tuple [rf0.p,num 0]):=by kernel_rfl
 exact qZ evOK (Eq.mp c ⟨h,a,rfl,rfl,Ts,b,rfl⟩) bU
structure TG(n C S:Nat)(x:Tm):Prop where
 sc:x.sc n
 cnt:x.cnt<=C
 tsz:x.tsz<=S
def TG.mono{n C S a b:Nat}{x:Tm}(h:TG n C S x)(c:C<=a)(d:S<=b):TG n a b x:=⟨h.sc,Nat.le_trans h.cnt c,Nat.le_trans h.tsz d⟩
def kZ{n i:Nat}(h:i<3):TG n 4 0 (eB i):=by
 rcases i with _|_|_|i
 ·exact⟨trivial,by decide,by decide⟩
 ·exact⟨trivial,by decide,by decide⟩
 ·exact⟨trivial,by decide,by decide⟩
 omega
abbrev TT(g:List Ty)(_:Ty)(C S:Nat)(x:Tm):Prop:=TG g.length C S x
def TT.mono{g:List Ty}{t:Ty}{C S a b:Nat}{x:Tm}(h:TT g t C S x)(c:C<=a)(d:S<=b):TT g t a b x:=TG.mono h c d
def Ig(g:List Ty):∀n:Nat,(eB n).tyR g=.ok .nat|0=>rfl|n+1=>by show eG .succ ((eB n).tyR g)=_;rw[Ig g n];rfl
def QO(g:List Ty){i:Nat}(h:i<3):TT g .nat 4 0 (eB i):=kZ h
abbrev gU(L:List Int)(g:List Ty)(t:Ty)(z:PV)(a:Nat)(x:Tm)(b:Nat):Prop:=O 49 [.loc 0 0,.pv (JA g),.pv t.p,.pv z] [(0,dk L a)] (.pv x.p) [(0,dk L b)]
def Jg{L:List Int}(e:Dk L){g:List Ty}{t:Ty}(s:g.length<=1000000)(z:PV){a:Nat}(k:a<=L.length):
  (∃(i b:Nat),cB g i=.ok t/\b<=L.length/\gU L g t z a (.v i) b)\/A 116 [JA g,t.p] (IA [])\/∃(i:Nat)(r:List Nat)(b:Nat),b<=L.length/\A 116 [JA g,t.p] (IA (i::r))/\O 20 [.loc 0 0,.pv (num 3)] [(0,dk L a)] (.pv (num 0)) [(0,dk L b)]:=by
 have:=vA;obtain⟨l,m,n,f⟩:=G6 g t
 cases l with
 |nil=>simp_all|cons i r=>
  obtain⟨x,b,v,d,h⟩:=nx e k (n:=3) (by omega) (by omega)
  cases x with
  |zero=>exact .inr (.inr ⟨i,r,b,d,f,h⟩)|succ x=>
   have:r.length+1<=g.length:=n;have:((i::r).map ic).length=r.length+1:=by simp
   obtain⟨y,c,hy,o,p⟩:=nx e d (n:=((i::r).map ic).length) (by omega) (by omega);obtain⟨w,j⟩:∃w,(i::r)[y]? =some w:=⟨_,List.getElem?_eq_getElem (by simp_all)⟩;exact .inl ⟨w,c,m w (List.mem_of_getElem? j),o,o5 1 [19,25,32,(33,.i (ic w)),35] f h p (vB (c:=ic) (n:=1) j λ_=>rfl) (uF w)⟩
def Kg{g:List Ty}{i:Nat}{t:Ty}(h:cB g i=.ok t):i<g.length:=by
 grind[cB]
def Vs{z:Int}(h:z<=0):fA 0 z=false:=by rw[WB];simpa using h
def Ws{z:Int}(h: -1000000<=z:=by omega)(a:z<=1000000:=by omega):eA (z-1)=true/\z-1=z-1:=⟨bP (by omega) (by omega),rfl⟩
def RO:A 37 [num 7,row []] (Tm.n0 .nil).p:=kR 7
def SO:A 37 [num 13,row []] (Tm.n0 .unit).p:=kR 13
def iE(k:K2)(x y:Tm):A 37 [num k.n,row [x,y]] (Tm.n2 k x y).p:=tG k.n x y
def vL(k:K1)(x:Tm):A 37 [num k.n,row [x]] (Tm.n1 k x).p:=yR k.n x
def mN{L:List Int}(p:Dk L):∀(t:Ty)(g:List Ty)(z:Int)(a:Nat),z<=0->-1000000+t.size<=z->g.length+t.size<=1000000->a<=L.length->t.size<=64->∃(x:Tm)(b:Nat),TT g t (4*t.size) t.size x/\b<=L.length/\gU L g t (.int z) a x b
 |t,g,z,a,F,A,E,v,B=>by
  have I:=vA;have e:=Vs F;have w:=Ws (z:=z);have G:1<=t.size:=by cases t<;>simp[Ty.size]<;>omega
  rcases Jg p (g:=g) (t:=t) (by omega) (.int z) v with ⟨i,b,H,f,h⟩|j|⟨J,K,C,l,j,m⟩
  ·exact⟨.v i,b,⟨Kg H,by grind[Tm.cnt],Nat.zero_le _⟩,f,h⟩
  ·cases t with
   |nat=>
    obtain⟨y,b,hy,f,n⟩:=nx p v (n:=3) (by omega) (by omega);have o:=bJ (n:=y);exact⟨eB y,b,(QO g hy).mono (by decide) (by decide),f,o5 1 [19,37,218,266,267] j e e n o⟩
   |list=>exact⟨.n0 .nil,a,⟨trivial,by decide,by decide⟩,v,o4 1 [19,37,271,291] j e e RO⟩|unit=>exact⟨.n0 .unit,a,⟨trivial,by decide,by decide⟩,v,o3 1 [19,37,337] j e SO⟩|two k s u=>
    simp only[Ty.size]at A E B⊢
    cases k with
    |false=>
     obtain⟨x,b,d,f,n⟩:=mN p s g (z-1) a (by omega) (by omega) (by omega) v (by omega);obtain⟨y,c,r,D,o⟩:=mN p u g (z-1) b (by omega) (by omega) (by omega) f (by omega);exact⟨.n2 .pair x y,c,⟨⟨d.sc,r.sc⟩,by have:=d.cnt;have:=r.cnt;grind[Tm.cnt],by have:=d.tsz;have:=r.tsz;grind[Tm.tsz]⟩,D,o7 1 [19,37,(301,.y (z-1)),302,(310,.y (z-1)),311,313] j e w n w o (iE .pair x y)⟩
    |true=>
     obtain⟨x,b,d,f,n⟩:=mN p u (g++[s]) (z-1) a (by omega) (by omega) (by simp;omega) v (by omega);have o:=sE g [s] (by simp;omega);exact⟨.lam s x,b,⟨by have:=d.sc;grind[Tm.sc],by have:=d.cnt;grind[Tm.cnt],by have:=d.tsz;grind[Tm.tsz]⟩,f,o6 1 [19,37,327,(333,.y (z-1)),334,336] j e o w n (BD s x)⟩
  cases t with
  |nat=>
   obtain⟨y,b,hy,f,n⟩:=nx p l (n:=3) (by omega) (by omega);have o:=bJ (n:=y);exact⟨eB y,b,(QO g hy).mono (by decide) (by decide),f,o6 1 [19,25,37,218,266,267] j m e e n o⟩
  |list=>exact⟨.n0 .nil,C,⟨trivial,by decide,by decide⟩,l,o5 1 [19,25,37,271,291] j m e e RO⟩|unit=>exact⟨.n0 .unit,C,⟨trivial,by decide,by decide⟩,l,o4 1 [19,25,37,337] j m e SO⟩|two k s u=>
   simp only[Ty.size]at A E B⊢
   cases k with
   |false=>
    obtain⟨x,b,d,f,n⟩:=mN p s g (z-1) C (by omega) (by omega) (by omega) l (by omega);obtain⟨y,c,r,D,o⟩:=mN p u g (z-1) b (by omega) (by omega) (by omega) f (by omega);exact⟨.n2 .pair x y,c,⟨⟨d.sc,r.sc⟩,by have:=d.cnt;have:=r.cnt;grind[Tm.cnt],by have:=d.tsz;have:=r.tsz;grind[Tm.tsz]⟩,D,o8 1 [19,25,37,(301,.y (z-1)),302,(310,.y (z-1)),311,313] j m e w n w o (iE .pair x y)⟩
   |true=>
    obtain⟨x,b,d,f,n⟩:=mN p u (g++[s]) (z-1) C (by omega) (by omega) (by simp;omega) l (by omega);have o:=sE g [s] (by simp;omega);exact⟨.lam s x,b,⟨by have:=d.sc;simpa[Tm.sc]using this,by have:=d.cnt;simp only[Tm.cnt];omega,by have:=d.tsz;simp only[Tm.tsz];omega⟩,f,o7 1 [19,25,37,327,(333,.y (z-1)),334,336] j m e o w n (BD s x)⟩
def tb(S:Nat):Nat->Nat|0=>4*S|k+1=>3*tb S k+200
def qD(L:List Int)(S k:Nat):Prop:=∀(t:Ty)(g:List Ty)(a:Nat),t.size<=S->(∀s∈g,s.size<=S)->g.length+3*k+S<=1000000->a<=L.length->∃(x:Tm)(b:Nat),TT g t (tb S k) S x/\b<=L.length/\gU L g t (num k) a x b
theorem Xs{L:List Int}(c:Dk L)(S:Nat)(i:S<=20):qD L S 0:=by
 intro t g a d j k e;obtain⟨x,b,q,f,h⟩:=mN c t g 0 a (Int.le_refl _) (by omega) (by omega) e (by omega);exact⟨x,b,q.mono (by grind[tb]) d,f,h⟩
abbrev z5:List PV:=[.int 0,.int 0,.int 0,.nils,.nils]
abbrev OB:Kp:=⟨[0,1,3,6,8,176,177],[0,1,2],3,[0]⟩
abbrev Mg(L:List Int)(g:List Ty)(t:Ty)(k a i:Nat):IS:=st [(0,.loc 0 0),(1,.pv (JA g)),(3,.pv (num (k+1))),(6,.loc 1 0),(8,.loc 2 0),(176,.pv (num (g.map Ty.c).length)),(177,.pv (num i))] [(0,dk L a),(1,bx t.c),(2,bx z5)] 3 [0]
abbrev PD(L:List Int)(g:List Ty)(t:Ty)(k a:Nat):IS:=st [(0,.loc 0 0),(1,.pv (JA g)),(3,.pv (num (k+1))),(6,.loc 1 0),(8,.loc 2 0)] [(0,dk L a),(1,bx t.c),(2,bx z5)] 3 [0]
def yZ{L:List Int}{S k:Nat}(y:qD L S k)(t:Ty){g:List Ty}(p:∀s∈g,s.size<=S)(z:g.length+3*k+S<=1000000){a:Nat}(A:a<=L.length):∀(r i:Nat),i+r=g.length->
  Lp 49 0 1 (Mg L g t k a i) (.exit 1) (PD L g t k a)\/∃(x:Tm)(b:Nat),TT g t (tb S k+2) S x/\b<=L.length/\Lp 49 0 1 (Mg L g t k a i) .ret (st [(8,.loc 2 0)] [(0,dk L b),(2,bx x.c)] 3 [0])
 |0,i,h=>by
  have e:fA (.ofNat i) (.ofNat (g.map Ty.c).length)=false:=GA (by simp;omega);exact .inl (x1 [178] ⟨[0,1,3,6,8],[0,1,2],3,[0]⟩ e)
 |r+1,i,h=>by
  have:=vA;have f:=uA;have e:fA (.ofNat i) (.ofNat (g.map Ty.c).length)=true:=NA (by simp;omega);obtain⟨s,j,l,m,B,F⟩:=yc (g:=g) (k:=i);have n:=lA (a:=i) (b:=1);have d:=yZ y t p z A r (i+1) (by omega)
  cases s with
  |nat=>
   rcases d with d|⟨x,b,q,f,d⟩
   ·exact .inl (n6 [178,183,185,(186,.i Ty.nat.c),212] OB e j l m n d)
   exact .inr ⟨x,b,q,f,n6 [178,183,185,(186,.i Ty.nat.c),212] OB e j l m n d⟩
  |list=>
   rcases d with d|⟨x,b,q,f,d⟩
   ·exact .inl (n6 [178,183,185,(186,.i Ty.list.c),212] OB e j l m n d)
   exact .inr ⟨x,b,q,f,n6 [178,183,185,(186,.i Ty.list.c),212] OB e j l m n d⟩
  |unit=>
   rcases d with d|⟨x,b,q,f,d⟩
   ·exact .inl (n6 [178,183,185,(186,.i Ty.unit.c),212] OB e j l m n d)
   exact .inr ⟨x,b,q,f,n6 [178,183,185,(186,.i Ty.unit.c),212] OB e j l m n d⟩
  |two c u w=>
   have:1+u.size+w.size<=S:=p _ B
   cases c with
   |false=>
    rcases d with d|⟨x,b,q,f,d⟩
    ·exact .inl (n6 [178,183,185,(186,.i (Ty.two false u w).c),212] OB e j l m n d)
    exact .inr ⟨x,b,q,f,n6 [178,183,185,(186,.i (Ty.two false u w).c),212] OB e j l m n d⟩
   |true=>
    have o:=CE w t;cases v:w.same t<;>rw[v]at o
    ·rcases d with d|⟨x,b,q,f,d⟩
     ·exact .inl (n7 [178,183,185,(186,.i (Ty.two true u w).c),197,212] OB e j l m o n d)
     exact .inr ⟨x,b,q,f,n7 [178,183,185,(186,.i (Ty.two true u w).c),197,212] OB e j l m o n d⟩
    obtain⟨x,b,q,f,C⟩:=y u g a (by omega) p z A;have D:=SC (a:=k+1);exact .inr ⟨.n2 .app (.v i) x,b,⟨⟨by show i<g.length;omega,q.sc⟩,by have:=q.cnt;simp only[Tm.cnt];omega,by have:=q.tsz;simp only[Tm.tsz];omega⟩,f,x9 [178,183,185,(186,.i (Ty.two true u w).c),197,200,208,209,211] ⟨[8],[0,2],3,[0]⟩ e j l m o (uF i) D C (iE .app (.v i) x)⟩
def oE{S:Nat}{g:List Ty}{l:List Ty}(a:∀s∈g,s.size<=S)(a:∀s∈l,s.size<=S):∀s∈g++l,s.size<=S:=λs a=>by
 grind
def lU(n S:Nat)(h:1<=S:=by omega):TG n 50 S plusT:=⟨by simp[plusT,Tm.sc],by decide,Nat.le_trans (by decide:plusT.tsz<=1) h⟩
def mU(n S:Nat)(h:1<=S:=by omega):TG n 50 S subT:=⟨by simp[subT,predT,Tm.sc],by decide,Nat.le_trans (by decide:subT.tsz<=1) h⟩
theorem Ys{L:List Int}(K:Dk L){S k:Nat}(hS:3<=S)(hS2:S<=20)(A:qD L S k):qD L S (k+1):=by
 intro t g a H B hl Y;have hm:=vA;have Z:=uA;have p:=SC (a:=k+1);have etb:tb S (k+1)=3*tb S k+200:=rfl;rcases Jg K (g:=g) (t:=t) (by omega) (num (k+1)) Y with ⟨i,b,hi,Z,h⟩|C|⟨i0,r0,a0,W,C,D⟩
 ·exact⟨.v i,b,⟨Kg hi,by grind[Tm.cnt],Nat.zero_le _⟩,Z,h⟩
 ·obtain⟨w,b,V,n,E⟩:=nx K Y (n:=8) (by omega) (by omega);rcases w with _|_|_|_|_|_|w
  ·obtain⟨s,c,N,F,r⟩:=MD K 0 (by omega) n;have N:s.size<=1:=N;obtain⟨x,d,f,o,z⟩:=A t (g++[s]) c H (oE B (by simp;omega)) (by simp;omega) F;obtain⟨y,e,l,G,M⟩:=A s g d (by omega) B (by omega) o;have P:=sE g [s] (by simp;omega);exact⟨.n2 .app (.lam s x) y,e,⟨⟨by have:=f.sc;grind[Tm.sc],l.sc⟩,by have:=f.cnt;have:=l.cnt;grind[Tm.cnt],by have:=f.tsz;have:=l.tsz;grind[Tm.tsz]⟩,G,nC 1 [19,39,43,49,52,53,55,60,61,63] C E r P p z (BD s x) p M (iE .app (.lam s x) y)⟩
  ·obtain⟨s,c,N,F,r⟩:=MD K 0 (by omega) n;have N:s.size<=1:=N;obtain⟨x,d,f,o,z⟩:=A t g c H B (by omega) F;obtain⟨y,e,l,G,M⟩:=A s g d (by omega) B (by omega) o;exact⟨.n1 .fst (.n2 .pair x y),e,⟨⟨f.sc,l.sc⟩,by have:=f.cnt;have:=l.cnt;grind[Tm.cnt],by have:=f.tsz;have:=l.tsz;grind[Tm.tsz]⟩,G,o9 1 [19,39,67,72,73,78,79,81,83] C E r p z p M (iE .pair x y) (vL .fst (.n2 .pair x y))⟩
  ·obtain⟨x,c,f,F,r⟩:=A t (g++[.nat,t]) b H (oE B (by simp[Ty.size];omega)) (by simp;omega) n;obtain⟨y,d,l,o,z⟩:=A t g c H B (by omega) F;obtain⟨v,e,Q,G,M⟩:=nx K o (n:=3) (by omega) (by omega);have P:=sE g [.nat,t] (by simp;omega);have X:=bJ (n:=v);have R:TG g.length 4 0 (eB v):=kZ Q;exact⟨.n3 .re t y (.lam .nat (.lam t x)) (eB v),e,⟨⟨l.sc,by have:=f.sc;simpa[Tm.sc]using this,R.sc⟩,by have:=f.cnt;have:=l.cnt;have:=R.cnt;simp only[Tm.cnt];omega,by have:=f.tsz;have:=l.tsz;have:=R.tsz;simp only[Tm.tsz,Ty.size];omega⟩,G,jv 1 [19,39,86,90,93,96,97,99,101,107,108,111,112,114] C E AA AA P p r (BD t x) (BD .nat (.lam t x)) p z M X (eN .re t y (.lam .nat (.lam t x)) (eB v))⟩
  ·obtain⟨x,c,f,F,r⟩:=A t (g++[.nat,.list,t]) b H (oE B (by simp[Ty.size];omega)) (by simp;omega) n;obtain⟨y,d,l,o,z⟩:=A t g c H B (by omega) F;obtain⟨v,e,T,G,M⟩:=A .list g d (by simp only[Ty.size];omega) B (by omega) o;have P:=sE g [.nat,.list,t] (by simp;omega);exact⟨.n3 .fo t y (.lam .nat (.lam .list (.lam t x))) v,e,⟨⟨l.sc,by have:=f.sc;simpa[Tm.sc]using this,T.sc⟩,by have:=f.cnt;have:=l.cnt;have:=T.cnt;simp only[Tm.cnt];omega,by have:=f.tsz;have:=l.tsz;have:=T.tsz;simp only[Tm.tsz,Ty.size];omega⟩,G,Jh 1 [19,39,117,118,122,123,126,129,130,132,134,136,142,143,147,149,150,152] C E AA sM AA sM P p r (BD t x) (BD .list (.lam t x)) (BD .nat (.lam .list (.lam t x))) p z sM p M (eN .fo t y (.lam .nat (.lam .list (.lam t x))) v)⟩
  ·obtain⟨s,c,N,F,r⟩:=MD K 0 (by omega) n;have N:s.size<=1:=N;obtain⟨y,d,l,o,z⟩:=A s g c (by omega) B (by omega) F;obtain⟨x,e,f,G,M⟩:=A t g d H B (by omega) o;exact⟨.n1 .snd (.n2 .pair y x),e,⟨⟨l.sc,f.sc⟩,by have:=f.cnt;have:=l.cnt;simp only[Tm.cnt];omega,by have:=f.tsz;have:=l.tsz;simp only[Tm.tsz];omega⟩,G,o9 1 [19,39,156,161,162,167,168,170,172] C E r p z p M (iE .pair y x) (vL .snd (.n2 .pair y x))⟩
  ·rcases yZ A t B (by omega) n g.length 0 (by omega)with gl|⟨x,c,q,F,gl⟩
   ·have gl:=gl
    cases t with
    |unit=>exact⟨.n0 .unit,b,⟨trivial,by simp only[Tm.cnt];omega,Nat.zero_le _⟩,n,o4 1 [19,39,(100023,.l OB (.exit 1) (PD L g .unit k b)),337] C E gl SO⟩|nat=>
     obtain⟨m,c,O,F,I⟩:=nx K n (n:=5) (by omega) (by omega);obtain⟨x,d,f,o,r⟩:=A .nat g c H B (by omega) F;obtain⟨y,e,l,G,z⟩:=A .nat g d H B (by omega) o;rcases m with _|_|_|m
     ·exact⟨.n1 .succ x,d,⟨f.sc,by have:=f.cnt;simp only[Tm.cnt];omega,by have:=f.tsz;simp only[Tm.tsz];omega⟩,o,o7 1 [19,39,(100023,.l OB (.exit 1) (PD L g .nat k b)),220,227,228,230] C E gl I p r (vL .succ x)⟩
     ·have J:=lU g.length S;exact⟨.n2 .app (.n2 .app plusT x) y,e,⟨⟨⟨J.sc,f.sc⟩,l.sc⟩,by have:=f.cnt;have:=l.cnt;have:=J.cnt;simp only[Tm.cnt];omega,by have:=f.tsz;have:=l.tsz;have:=J.tsz;simp only[Tm.tsz];omega⟩,G,nC 1 [19,39,(100023,.l OB (.exit 1) (PD L g .nat k b)),220,233,238,239,244,245,247] C E gl I bR p r p z (eK plusT x y)⟩
     ·have J:=mU g.length S;exact⟨.n2 .app (.n2 .app subT x) y,e,⟨⟨⟨J.sc,f.sc⟩,l.sc⟩,by have:=f.cnt;have:=l.cnt;have:=J.cnt;simp only[Tm.cnt];omega,by have:=f.tsz;have:=l.tsz;have:=J.tsz;simp only[Tm.tsz];omega⟩,G,nC 1 [19,39,(100023,.l OB (.exit 1) (PD L g .nat k b)),220,250,255,256,261,262,264] C E gl I BU p r p z (eK subT x y)⟩
     obtain⟨v,d,Q,o,gv⟩:=nx K F (n:=3) (by omega) (by omega);have U:=bJ (n:=v);exact⟨eB v,d,(QO g Q).mono (by omega) (Nat.zero_le _),o,o6 1 [19,39,(100023,.l OB (.exit 1) (PD L g .nat k b)),220,266,267] C E gl I gv U⟩
    |list=>
     obtain⟨m,c,O,F,I⟩:=nx K n (n:=2) (by omega) (by omega)
     cases m with
     |zero=>
      obtain⟨x,d,f,o,r⟩:=A .nat g c (by simp only[Ty.size];omega) B (by omega) F;obtain⟨y,e,l,G,z⟩:=A .list g d H B (by omega) o;exact⟨.n2 .cons x y,e,⟨⟨f.sc,l.sc⟩,by have:=f.cnt;have:=l.cnt;simp only[Tm.cnt];omega,by have:=f.tsz;have:=l.tsz;simp only[Tm.tsz];omega⟩,G,nC 1 [19,39,(100023,.l OB (.exit 1) (PD L g .list k b)),274,279,281,282,287,288,290] C E gl I AA p r p z (iE .cons x y)⟩
     |succ m=>exact⟨.n0 .nil,c,⟨trivial,by simp only[Tm.cnt];omega,Nat.zero_le _⟩,F,o5 1 [19,39,(100023,.l OB (.exit 1) (PD L g .list k b)),274,291] C E gl I RO⟩
    |two j s u=>
     have H:1+s.size+u.size<=S:=H
     cases j with
     |false=>
      obtain⟨x,d,f,o,r⟩:=A s g b (by omega) B (by omega) n;obtain⟨y,e,l,G,z⟩:=A u g d (by omega) B (by omega) o;exact⟨.n2 .pair x y,e,⟨⟨f.sc,l.sc⟩,by have:=f.cnt;have:=l.cnt;simp only[Tm.cnt];omega,by have:=f.tsz;have:=l.tsz;simp only[Tm.tsz];omega⟩,G,o8 1 [19,39,(100023,.l OB (.exit 1) (PD L g (.two false s u) k b)),301,302,310,311,313] C E gl p r p z (iE .pair x y)⟩
     |true=>
      obtain⟨x,d,f,o,r⟩:=A u (g++[s]) b (by omega) (oE B (by simp;omega)) (by simp;omega) n;have z:=sE g [s] (by simp;omega);exact⟨.lam s x,d,⟨(by have:=f.sc;simpa[Tm.sc]using this),by have:=f.cnt;simp only[Tm.cnt];omega,by have:=f.tsz;simp only[Tm.tsz];omega⟩,o,o7 1 [19,39,(100023,.l OB (.exit 1) (PD L g (.two true s u) k b)),327,333,334,336] C E gl z p r (BD s x)⟩
   exact⟨x,c,q.mono (by omega) (Nat.le_refl _),F,o3 1 [19,39,(100023,.l OB .ret (st [(8,.loc 2 0)] [(0,dk L c),(2,bx x.c)] 3 [0]))] C E gl⟩
  have V:=V
  cases t with
  |unit=>exact⟨.n0 .unit,b,⟨trivial,by simp only[Tm.cnt];omega,Nat.zero_le _⟩,n,o3 1 [19,39,337] C E SO⟩|nat=>
   obtain⟨m,c,O,F,I⟩:=nx K n (n:=5) (by omega) (by omega);obtain⟨x,d,f,o,r⟩:=A .nat g c H B (by omega) F;obtain⟨y,e,l,G,z⟩:=A .nat g d H B (by omega) o;rcases m with _|_|_|m
   ·exact⟨.n1 .succ x,d,⟨f.sc,by have:=f.cnt;simp only[Tm.cnt];omega,by have:=f.tsz;simp only[Tm.tsz];omega⟩,o,o6 1 [19,39,220,227,228,230] C E I p r (vL .succ x)⟩
   ·have J:=lU g.length S;exact⟨.n2 .app (.n2 .app plusT x) y,e,⟨⟨⟨J.sc,f.sc⟩,l.sc⟩,by have:=f.cnt;have:=l.cnt;have:=J.cnt;simp only[Tm.cnt];omega,by have:=f.tsz;have:=l.tsz;have:=J.tsz;simp only[Tm.tsz];omega⟩,G,o9 1 [19,39,220,233,238,239,244,245,247] C E I bR p r p z (eK plusT x y)⟩
   ·have J:=mU g.length S;exact⟨.n2 .app (.n2 .app subT x) y,e,⟨⟨⟨J.sc,f.sc⟩,l.sc⟩,by have:=f.cnt;have:=l.cnt;have:=J.cnt;simp only[Tm.cnt];omega,by have:=f.tsz;have:=l.tsz;have:=J.tsz;simp only[Tm.tsz];omega⟩,G,o9 1 [19,39,220,250,255,256,261,262,264] C E I BU p r p z (eK subT x y)⟩
   obtain⟨v,d,Q,o,gv⟩:=nx K F (n:=3) (by omega) (by omega);have U:=bJ (n:=v);exact⟨eB v,d,(QO g Q).mono (by omega) (Nat.zero_le _),o,o5 1 [19,39,220,266,267] C E I gv U⟩
  |list=>
   obtain⟨m,c,O,F,I⟩:=nx K n (n:=2) (by omega) (by omega)
   cases m with
   |zero=>
    obtain⟨x,d,f,o,r⟩:=A .nat g c (by simp only[Ty.size];omega) B (by omega) F;obtain⟨y,e,l,G,z⟩:=A .list g d H B (by omega) o;exact⟨.n2 .cons x y,e,⟨⟨f.sc,l.sc⟩,by have:=f.cnt;have:=l.cnt;simp only[Tm.cnt];omega,by have:=f.tsz;have:=l.tsz;simp only[Tm.tsz];omega⟩,G,o9 1 [19,39,274,279,281,282,287,288,290] C E I AA p r p z (iE .cons x y)⟩
   |succ m=>exact⟨.n0 .nil,c,⟨trivial,by simp only[Tm.cnt];omega,Nat.zero_le _⟩,F,o4 1 [19,39,274,291] C E I RO⟩
  |two j s u=>
   have H:1+s.size+u.size<=S:=H
   cases j with
   |false=>
    obtain⟨x,d,f,o,r⟩:=A s g b (by omega) B (by omega) n;obtain⟨y,e,l,G,z⟩:=A u g d (by omega) B (by omega) o;exact⟨.n2 .pair x y,e,⟨⟨f.sc,l.sc⟩,by have:=f.cnt;have:=l.cnt;simp only[Tm.cnt];omega,by have:=f.tsz;have:=l.tsz;simp only[Tm.tsz];omega⟩,G,o7 1 [19,39,301,302,310,311,313] C E p r p z (iE .pair x y)⟩
   |true=>
    obtain⟨x,d,f,o,r⟩:=A u (g++[s]) b (by omega) (oE B (by simp;omega)) (by simp;omega) n;have z:=sE g [s] (by simp;omega);exact⟨.lam s x,d,⟨(by have:=f.sc;simpa[Tm.sc]using this),by have:=f.cnt;simp only[Tm.cnt];omega,by have:=f.tsz;simp only[Tm.tsz];omega⟩,o,o6 1 [19,39,327,333,334,336] C E z p r (BD s x)⟩
 obtain⟨w,b,V,n,E⟩:=nx K W (n:=8) (by omega) (by omega);rcases w with _|_|_|_|_|_|w
 ·obtain⟨s,c,N,F,r⟩:=MD K 0 (by omega) n;have N:s.size<=1:=N;obtain⟨x,d,f,o,z⟩:=A t (g++[s]) c H (oE B (by simp;omega)) (by simp;omega) F;obtain⟨y,e,l,G,M⟩:=A s g d (by omega) B (by omega) o;have P:=sE g [s] (by simp;omega);exact⟨.n2 .app (.lam s x) y,e,⟨⟨by have:=f.sc;simpa[Tm.sc]using this,l.sc⟩,by have:=f.cnt;have:=l.cnt;simp only[Tm.cnt];omega,by have:=f.tsz;have:=l.tsz;simp only[Tm.tsz];omega⟩,G,FJ 1 [19,25,39,43,49,52,53,55,60,61,63] C D E r P p z (BD s x) p M (iE .app (.lam s x) y)⟩
 ·obtain⟨s,c,N,F,r⟩:=MD K 0 (by omega) n;have N:s.size<=1:=N;obtain⟨x,d,f,o,z⟩:=A t g c H B (by omega) F;obtain⟨y,e,l,G,M⟩:=A s g d (by omega) B (by omega) o;exact⟨.n1 .fst (.n2 .pair x y),e,⟨⟨f.sc,l.sc⟩,by have:=f.cnt;have:=l.cnt;simp only[Tm.cnt];omega,by have:=f.tsz;have:=l.tsz;simp only[Tm.tsz];omega⟩,G,nC 1 [19,25,39,67,72,73,78,79,81,83] C D E r p z p M (iE .pair x y) (vL .fst (.n2 .pair x y))⟩
 ·obtain⟨x,c,f,F,r⟩:=A t (g++[.nat,t]) b H (oE B (by simp[Ty.size];omega)) (by simp;omega) n;obtain⟨y,d,l,o,z⟩:=A t g c H B (by omega) F;obtain⟨v,e,Q,G,M⟩:=nx K o (n:=3) (by omega) (by omega);have P:=sE g [.nat,t] (by simp;omega);have X:=bJ (n:=v);have R:TG g.length 4 0 (eB v):=kZ Q;exact⟨.n3 .re t y (.lam .nat (.lam t x)) (eB v),e,⟨⟨l.sc,by have:=f.sc;simpa[Tm.sc]using this,R.sc⟩,by have:=f.cnt;have:=l.cnt;have:=R.cnt;simp only[Tm.cnt];omega,by have:=f.tsz;have:=l.tsz;have:=R.tsz;simp only[Tm.tsz,Ty.size];omega⟩,G,wv 1 [19,25,39,86,90,93,96,97,99,101,107,108,111,112,114] C D E AA AA P p r (BD t x) (BD .nat (.lam t x)) p z M X (eN .re t y (.lam .nat (.lam t x)) (eB v))⟩
 ·obtain⟨x,c,f,F,r⟩:=A t (g++[.nat,.list,t]) b H (oE B (by simp[Ty.size];omega)) (by simp;omega) n;obtain⟨y,d,l,o,z⟩:=A t g c H B (by omega) F;obtain⟨v,e,T,G,M⟩:=A .list g d (by simp only[Ty.size];omega) B (by omega) o;have P:=sE g [.nat,.list,t] (by simp;omega);exact⟨.n3 .fo t y (.lam .nat (.lam .list (.lam t x))) v,e,⟨⟨l.sc,by have:=f.sc;simpa[Tm.sc]using this,T.sc⟩,by have:=f.cnt;have:=l.cnt;have:=T.cnt;simp only[Tm.cnt];omega,by have:=f.tsz;have:=l.tsz;have:=T.tsz;simp only[Tm.tsz,Ty.size];omega⟩,G,kv 1 [19,25,39,117,118,122,123,126,129,130,132,134,136,142,143,147,149,150,152] C D E AA sM AA sM P p r (BD t x) (BD .list (.lam t x)) (BD .nat (.lam .list (.lam t x))) p z sM p M (eN .fo t y (.lam .nat (.lam .list (.lam t x))) v)⟩
 ·obtain⟨s,c,N,F,r⟩:=MD K 0 (by omega) n;have N:s.size<=1:=N;obtain⟨y,d,l,o,z⟩:=A s g c (by omega) B (by omega) F;obtain⟨x,e,f,G,M⟩:=A t g d H B (by omega) o;exact⟨.n1 .snd (.n2 .pair y x),e,⟨⟨l.sc,f.sc⟩,by have:=f.cnt;have:=l.cnt;simp only[Tm.cnt];omega,by have:=f.tsz;have:=l.tsz;simp only[Tm.tsz];omega⟩,G,nC 1 [19,25,39,156,161,162,167,168,170,172] C D E r p z p M (iE .pair y x) (vL .snd (.n2 .pair y x))⟩
 ·rcases yZ A t B (by omega) n g.length 0 (by omega)with gl|⟨x,c,q,F,gl⟩
  ·have gl:=gl
   cases t with
   |unit=>exact⟨.n0 .unit,b,⟨trivial,by simp only[Tm.cnt];omega,Nat.zero_le _⟩,n,o5 1 [19,25,39,(100023,.l OB (.exit 1) (PD L g .unit k b)),337] C D E gl SO⟩|nat=>
    obtain⟨m,c,O,F,I⟩:=nx K n (n:=5) (by omega) (by omega);obtain⟨x,d,f,o,r⟩:=A .nat g c H B (by omega) F;obtain⟨y,e,l,G,z⟩:=A .nat g d H B (by omega) o;rcases m with _|_|_|m
    ·exact⟨.n1 .succ x,d,⟨f.sc,by have:=f.cnt;simp only[Tm.cnt];omega,by have:=f.tsz;simp only[Tm.tsz];omega⟩,o,o8 1 [19,25,39,(100023,.l OB (.exit 1) (PD L g .nat k b)),220,227,228,230] C D E gl I p r (vL .succ x)⟩
    ·have J:=lU g.length S;exact⟨.n2 .app (.n2 .app plusT x) y,e,⟨⟨⟨J.sc,f.sc⟩,l.sc⟩,by have:=f.cnt;have:=l.cnt;have:=J.cnt;simp only[Tm.cnt];omega,by have:=f.tsz;have:=l.tsz;have:=J.tsz;simp only[Tm.tsz];omega⟩,G,FJ 1 [19,25,39,(100023,.l OB (.exit 1) (PD L g .nat k b)),220,233,238,239,244,245,247] C D E gl I bR p r p z (eK plusT x y)⟩
    ·have J:=mU g.length S;exact⟨.n2 .app (.n2 .app subT x) y,e,⟨⟨⟨J.sc,f.sc⟩,l.sc⟩,by have:=f.cnt;have:=l.cnt;have:=J.cnt;simp only[Tm.cnt];omega,by have:=f.tsz;have:=l.tsz;have:=J.tsz;simp only[Tm.tsz];omega⟩,G,FJ 1 [19,25,39,(100023,.l OB (.exit 1) (PD L g .nat k b)),220,250,255,256,261,262,264] C D E gl I BU p r p z (eK subT x y)⟩
    obtain⟨v,d,Q,o,gv⟩:=nx K F (n:=3) (by omega) (by omega);have U:=bJ (n:=v);exact⟨eB v,d,(QO g Q).mono (by omega) (Nat.zero_le _),o,o7 1 [19,25,39,(100023,.l OB (.exit 1) (PD L g .nat k b)),220,266,267] C D E gl I gv U⟩
   |list=>
    obtain⟨m,c,O,F,I⟩:=nx K n (n:=2) (by omega) (by omega)
    cases m with
    |zero=>
     obtain⟨x,d,f,o,r⟩:=A .nat g c (by simp only[Ty.size];omega) B (by omega) F;obtain⟨y,e,l,G,z⟩:=A .list g d H B (by omega) o;exact⟨.n2 .cons x y,e,⟨⟨f.sc,l.sc⟩,by have:=f.cnt;have:=l.cnt;simp only[Tm.cnt];omega,by have:=f.tsz;have:=l.tsz;simp only[Tm.tsz];omega⟩,G,FJ 1 [19,25,39,(100023,.l OB (.exit 1) (PD L g .list k b)),274,279,281,282,287,288,290] C D E gl I AA p r p z (iE .cons x y)⟩
    |succ m=>exact⟨.n0 .nil,c,⟨trivial,by simp only[Tm.cnt];omega,Nat.zero_le _⟩,F,o6 1 [19,25,39,(100023,.l OB (.exit 1) (PD L g .list k b)),274,291] C D E gl I RO⟩
   |two j s u=>
    have H:1+s.size+u.size<=S:=H
    cases j with
    |false=>
     obtain⟨x,d,f,o,r⟩:=A s g b (by omega) B (by omega) n;obtain⟨y,e,l,G,z⟩:=A u g d (by omega) B (by omega) o;exact⟨.n2 .pair x y,e,⟨⟨f.sc,l.sc⟩,by have:=f.cnt;have:=l.cnt;simp only[Tm.cnt];omega,by have:=f.tsz;have:=l.tsz;simp only[Tm.tsz];omega⟩,G,o9 1 [19,25,39,(100023,.l OB (.exit 1) (PD L g (.two false s u) k b)),301,302,310,311,313] C D E gl p r p z (iE .pair x y)⟩
    |true=>
     obtain⟨x,d,f,o,r⟩:=A u (g++[s]) b (by omega) (oE B (by simp;omega)) (by simp;omega) n;have z:=sE g [s] (by simp;omega);exact⟨.lam s x,d,⟨(by have:=f.sc;simpa[Tm.sc]using this),by have:=f.cnt;simp only[Tm.cnt];omega,by have:=f.tsz;simp only[Tm.tsz];omega⟩,o,o8 1 [19,25,39,(100023,.l OB (.exit 1) (PD L g (.two true s u) k b)),327,333,334,336] C D E gl z p r (BD s x)⟩
  exact⟨x,c,q.mono (by omega) (Nat.le_refl _),F,o4 1 [19,25,39,(100023,.l OB .ret (st [(8,.loc 2 0)] [(0,dk L c),(2,bx x.c)] 3 [0]))] C D E gl⟩
 have V:=V
 cases t with
 |unit=>exact⟨.n0 .unit,b,⟨trivial,by simp only[Tm.cnt];omega,Nat.zero_le _⟩,n,o4 1 [19,25,39,337] C D E SO⟩|nat=>
  obtain⟨m,c,O,F,I⟩:=nx K n (n:=5) (by omega) (by omega);obtain⟨x,d,f,o,r⟩:=A .nat g c H B (by omega) F;obtain⟨y,e,l,G,z⟩:=A .nat g d H B (by omega) o;rcases m with _|_|_|m
  ·exact⟨.n1 .succ x,d,⟨f.sc,by have:=f.cnt;simp only[Tm.cnt];omega,by have:=f.tsz;simp only[Tm.tsz];omega⟩,o,o7 1 [19,25,39,220,227,228,230] C D E I p r (vL .succ x)⟩
  ·have J:=lU g.length S;exact⟨.n2 .app (.n2 .app plusT x) y,e,⟨⟨⟨J.sc,f.sc⟩,l.sc⟩,by have:=f.cnt;have:=l.cnt;have:=J.cnt;simp only[Tm.cnt];omega,by have:=f.tsz;have:=l.tsz;have:=J.tsz;simp only[Tm.tsz];omega⟩,G,nC 1 [19,25,39,220,233,238,239,244,245,247] C D E I bR p r p z (eK plusT x y)⟩
  ·have J:=mU g.length S;exact⟨.n2 .app (.n2 .app subT x) y,e,⟨⟨⟨J.sc,f.sc⟩,l.sc⟩,by have:=f.cnt;have:=l.cnt;have:=J.cnt;simp only[Tm.cnt];omega,by have:=f.tsz;have:=l.tsz;have:=J.tsz;simp only[Tm.tsz];omega⟩,G,nC 1 [19,25,39,220,250,255,256,261,262,264] C D E I BU p r p z (eK subT x y)⟩
  obtain⟨v,d,Q,o,gv⟩:=nx K F (n:=3) (by omega) (by omega);have U:=bJ (n:=v);exact⟨eB v,d,(QO g Q).mono (by omega) (Nat.zero_le _),o,o6 1 [19,25,39,220,266,267] C D E I gv U⟩
 |list=>
  obtain⟨m,c,O,F,I⟩:=nx K n (n:=2) (by omega) (by omega)
  cases m with
  |zero=>
   obtain⟨x,d,f,o,r⟩:=A .nat g c (by simp only[Ty.size];omega) B (by omega) F;obtain⟨y,e,l,G,z⟩:=A .list g d H B (by omega) o;exact⟨.n2 .cons x y,e,⟨⟨f.sc,l.sc⟩,by have:=f.cnt;have:=l.cnt;simp only[Tm.cnt];omega,by have:=f.tsz;have:=l.tsz;simp only[Tm.tsz];omega⟩,G,nC 1 [19,25,39,274,279,281,282,287,288,290] C D E I AA p r p z (iE .cons x y)⟩
  |succ m=>exact⟨.n0 .nil,c,⟨trivial,by simp only[Tm.cnt];omega,Nat.zero_le _⟩,F,o5 1 [19,25,39,274,291] C D E I RO⟩
 |two j s u=>
  have H:1+s.size+u.size<=S:=H
  cases j with
  |false=>
   obtain⟨x,d,f,o,r⟩:=A s g b (by omega) B (by omega) n;obtain⟨y,e,l,G,z⟩:=A u g d (by omega) B (by omega) o;exact⟨.n2 .pair x y,e,⟨⟨f.sc,l.sc⟩,by have:=f.cnt;have:=l.cnt;simp only[Tm.cnt];omega,by have:=f.tsz;have:=l.tsz;simp only[Tm.tsz];omega⟩,G,o8 1 [19,25,39,301,302,310,311,313] C D E p r p z (iE .pair x y)⟩
  |true=>
   obtain⟨x,d,f,o,r⟩:=A u (g++[s]) b (by omega) (oE B (by simp;omega)) (by simp;omega) n;have z:=sE g [s] (by simp;omega);exact⟨.lam s x,d,⟨(by have:=f.sc;simpa[Tm.sc]using this),by have:=f.cnt;simp only[Tm.cnt];omega,by have:=f.tsz;simp only[Tm.tsz];omega⟩,o,o7 1 [19,25,39,327,333,334,336] C D E z p r (BD s x)⟩
def SH{L:List Int}(b:Dk L){S:Nat}(c:3<=S)(a:S<=20):∀k,qD L S k
 :=by intro x;induction x<;>grind[Xs,Ys,qD]
open Go.Lg
structure NX(K:Nat)(f:Fm):Prop where
 n0:K<=1->f.ne=0
 n1:K<=6->f.ne<=1
 x:K<=16->f.gx
def NX.eq{K:Nat}{a b:Tm}:NX K (.eq a b):=⟨λ_=>rfl,λ_=>Nat.zero_le _,λ_=>trivial⟩
def NX.bin{K:Nat}{k:FB}{f g:Fm}(h:NX K f)(a:NX K g):NX (4+2*K) (.bin k f g):=
 ⟨λe=>absurd e (by omega),λe=>by have:=h.n0 (by omega);have:=a.n0 (by omega);grind[Fm.ne],λe=>⟨h.x (by omega),a.x (by omega)⟩⟩
def NX.q{K:Nat}{k:FQ}{s:Ty}{f:Fm}(h:NX K f):NX (4+2*K) (.q k s f):=
 ⟨λe=>absurd e (by omega),λe=>by have:=h.n0 (by omega);cases k<;>simp only[Fm.ne]<;>omega,λe=>⟨h.x (by omega),λ_=>.inr (h.n1 (by omega))⟩⟩
structure FG(n C S K:Nat)(f:Fm):Prop where
 sc:f.sc n
 cnt:f.cnt<=C
 tsz:f.tsz<=S
 csz:f.csz<=K
 nx:NX K f
def fb:Nat->Nat|0=>1+2*tb 3 1|k+1=>1+2*fb k
def cb:Nat->Nat|0=>1|k+1=>4+2*cb k
abbrev Ng(L:List Int)(g:List Ty)(k a:Nat)(f:Fm)(b:Nat):Prop:=O 42 [.loc 0 0,.pv (JA g),.pv (num k)] [(0,dk L a)] (.pv f.p) [(0,dk L b)]
def Og:∀k,473<=fb (k+1)|0=>by decide|k+1=>by have:=Og k;have e:fb (k+1+1)=1+2*fb (k+1):=rfl;omega
def WA(L:List Int)(k:Nat):Prop:=∀(g:List Ty)(a:Nat),(∀s∈g,s.size<=3)->g.length+k<=100000->a<=L.length->∃(f:Fm)(b:Nat),FG g.length (fb k) 3 (cb k) f/\b<=L.length/\Ng L g k a f b
def RC{L:List Int}(c:Dk L){t:Ty}{g:List Ty}{a:Nat}(d:t.size<=3)(e:∀s∈g,s.size<=3)(j:g.length<=900000)(f:a<=L.length):∃(x:Tm)(b:Nat),TG g.length 236 3 x/\b<=L.length/\gU L g t (num 1) a x b:=by
 obtain⟨x,b,q,i,h⟩:=SH c (S:=3) (Nat.le_refl _) (by omega) 1 t g a d e (by omega) f;exact⟨x,b,q,i,h⟩
theorem Zs{L:List Int}(f:Dk L):WA L 0:=by
 intro g a h n i;have:fb 0=473:=rfl;have ek:cb 0=1:=rfl;obtain⟨x,c,b,j,k⟩:=RC f (t:=.nat) (g:=g) (by decide) h (by omega) i;obtain⟨y,d,e,l,m⟩:=RC f (t:=.nat) (g:=g) (by decide) h (by omega) j;exact⟨.eq x y,d,⟨⟨b.sc,e.sc⟩,by have:=b.cnt;have:=e.cnt;grind[Fm.cnt],by have:=b.tsz;have:=e.tsz;grind[Fm.tsz],by grind[Fm.csz],.eq⟩,l,o4 1 [88,92,96,97] AA k m (GF x y)⟩
theorem jt{L:List Int}(z:Dk L){k:Nat}(o:WA L k)(C:k<=100):WA L (k+1):=by
 intro g a n E D;have F:=vA;have G:=uA;have H:fb (k+1)=1+2*fb k:=rfl;have ek:cb (k+1)=4+2*cb k:=rfl;have I:473<=fb k:=by cases k with|zero=>exact Nat.le_refl _|succ k=>exact Og _
 have p:=SC (a:=k+1);obtain⟨w,b,J,h,t⟩:=nx z D (n:=9) (by omega) (by omega);rcases w with _|_|_|_|_|_|_|w
 ·obtain⟨x,c,e,m,l⟩:=o g b n (by omega) h;obtain⟨y,d,f,i,j⟩:=o g c n (by omega) m;exact⟨.bin .and x y,d,⟨⟨e.sc,f.sc⟩,by have:=e.cnt;have:=f.cnt;grind[Fm.cnt],by have:=e.tsz;have:=f.tsz;grind[Fm.tsz],by have:=e.csz;have:=f.csz;grind[Fm.csz],.bin e.nx f.nx⟩,i,o6 1 [14,20,21,25,26,27] t p l p j (dR .and x y)⟩
 ·obtain⟨x,c,e,m,l⟩:=o g b n (by omega) h;obtain⟨y,d,f,i,j⟩:=o g c n (by omega) m;exact⟨.bin .imp x y,d,⟨⟨e.sc,f.sc⟩,by have:=e.cnt;have:=f.cnt;grind[Fm.cnt],by have:=e.tsz;have:=f.tsz;grind[Fm.tsz],by have:=e.csz;have:=f.csz;grind[Fm.csz],.bin e.nx f.nx⟩,i,o6 1 [14,34,35,39,40,41] t p l p j (dR .imp x y)⟩
 ·obtain⟨x,c,e,m,l⟩:=o g b n (by omega) h;obtain⟨y,d,f,i,j⟩:=o g c n (by omega) m;exact⟨.bin .imp x y,d,⟨⟨e.sc,f.sc⟩,by have:=e.cnt;have:=f.cnt;grind[Fm.cnt],by have:=e.tsz;have:=f.tsz;grind[Fm.tsz],by have:=e.csz;have:=f.csz;grind[Fm.csz],.bin e.nx f.nx⟩,i,o6 1 [14,34,35,39,40,41] t p l p j (dR .imp x y)⟩
 ·obtain⟨s,c,r,m,l⟩:=MD z 1 (by omega) h;have r:s.size<=3:=Nat.le_trans r (by decide);obtain⟨x,d,e,i,j⟩:=o (g++[s]) c (oE n (by simp;omega)) (by simp;omega) m;have u:=sE g [s] (by simp;omega);exact⟨.q .all s x,d,⟨by have:=e.sc;grind[Fm.sc],by have:=e.cnt;grind[Fm.cnt],by have:=e.tsz;grind[Fm.tsz],by have:=e.csz;grind[Fm.csz],.q e.nx⟩,i,o6 1 [14,46,52,54,55,56] t l u p j (fE .all s x)⟩
 ·obtain⟨s,c,r,m,l⟩:=MD z 1 (by omega) h;have r:s.size<=3:=Nat.le_trans r (by decide);obtain⟨x,d,e,i,j⟩:=o (g++[s]) c (oE n (by simp;omega)) (by simp;omega) m;have u:=sE g [s] (by simp;omega);exact⟨.q .all s x,d,⟨by have:=e.sc;grind[Fm.sc],by have:=e.cnt;grind[Fm.cnt],by have:=e.tsz;grind[Fm.tsz],by have:=e.csz;simp only[Fm.csz];omega,.q e.nx⟩,i,o6 1 [14,46,52,54,55,56] t l u p j (fE .all s x)⟩
 ·obtain⟨s,c,r,m,l⟩:=MD z 1 (by omega) h;have r:s.size<=3:=Nat.le_trans r (by decide);obtain⟨x,d,e,i,j⟩:=o (g++[s]) c (oE n (by simp;omega)) (by simp;omega) m;have u:=sE g [s] (by simp;omega);exact⟨.q .ex s x,d,⟨by have:=e.sc;simpa[Fm.sc]using this,by have:=e.cnt;simp only[Fm.cnt];omega,by have:=e.tsz;simp only[Fm.tsz];omega,by have:=e.csz;simp only[Fm.csz];omega,.q e.nx⟩,i,o6 1 [14,60,66,68,69,70] t l u p j (fE .ex s x)⟩
 ·obtain⟨s,c,r,m,l⟩:=MD z 0 (by omega) h;have r:s.size<=3:=Nat.le_trans r (by decide);obtain⟨v,B,K,A,gv⟩:=nx z m (n:=2) (by omega) (by omega);rcases v with _|_|v
  ·obtain⟨x,d,e,i,j⟩:=o (g++[s]) B (oE n (by simp;omega)) (by simp;omega) A;have u:=sE g [s] (by simp;omega);exact⟨.q .allU s x,d,⟨by have:=e.sc;simpa[Fm.sc]using this,by have:=e.cnt;simp only[Fm.cnt];omega,by have:=e.tsz;simp only[Fm.tsz];omega,by have:=e.csz;simp only[Fm.csz];omega,.q e.nx⟩,i,o7 1 [14,74,76,83,85,86,87] t l gv u p j (fE .allU s x)⟩
  ·obtain⟨x,d,e,i,j⟩:=o (g++[s]) B (oE n (by simp;omega)) (by simp;omega) A;have u:=sE g [s] (by simp;omega);exact⟨.q .exU s x,d,⟨by have:=e.sc;simpa[Fm.sc]using this,by have:=e.cnt;simp only[Fm.cnt];omega,by have:=e.tsz;simp only[Fm.tsz];omega,by have:=e.csz;simp only[Fm.csz];omega,.q e.nx⟩,i,o7 1 [14,74,76,83,85,86,87] t l gv u p j (fE .exU s x)⟩
  omega
 obtain⟨x,c,e,m,l⟩:=RC z (t:=.nat) (g:=g) (by decide) n (by omega) h;obtain⟨y,d,f,i,j⟩:=RC z (t:=.nat) (g:=g) (by decide) n (by omega) m;exact⟨.eq x y,d,⟨⟨e.sc,f.sc⟩,by have:=e.cnt;have:=f.cnt;simp only[Fm.cnt];omega,by have:=e.tsz;have:=f.tsz;simp only[Fm.tsz];omega,by simp only[Fm.csz];omega,.eq⟩,i,o5 1 [14,88,92,96,97] t AA l j (GF x y)⟩
def bB{L:List Int}(a:Dk L):∀k,k<=100->WA L k
 :=by intro x;induction x<;>grind[Zs,jt,WA]
abbrev FS(n:Nat)(f:Fm):Prop:=FG n 1895 3 16 f
def wt{L:List Int}(c:Dk L){g:List Ty}{a:Nat}(d:∀s∈g,s.size<=3)(e:g.length<=1000)(e:a<=L.length):∃(f:Fm)(b:Nat),FG g.length 947 3 6 f/\b<=L.length/\Ng L g 1 a f b:=
 bB c 1 (by omega) g a d (by omega) e
abbrev Pg:Kp:=⟨[1,4,5,14,15,16],[1,2,4],5,[]⟩
abbrev zR:List PV:=[.nils,.nils]
def Qg(G:PV)(t:Ty){hs:List Fm}(i:hs.length<=qA):∀(r:List Fm)(k v:Nat)(A:List (List PV)),hs.drop k=r->A.length=k->(∀f∈r,f.mx<=qA*qA/\f.cnt<=qA)->
  ∃a,Lp 47 0 0 (st [(1,.pv (JA [t])),(4,.loc 1 0),(5,.loc 2 0),(14,.pv (dA hs)),(15,.pv (num (hs.map Fm.c).length)),(16,.pv (num k))] [(1,bx zR),(2,.box [.pv G,.arr 4 v A.length]),(4,.arr v 5 36 (kA A))] 5 []) (.exit 0) (st [(4,.loc 1 0),(5,.loc 2 0)] [(1,bx zR),(2,.box [.pv G,.arr 4 a (A.length+r.length)]),(4,.arr a 5 36 (kA (A++r.map λf=>(f.sh 0 1).c)))] 5 [])
 |[],k,v,A,h,d,b=>by
  have e:fA (.ofNat k) (.ofNat (hs.map Fm.c).length)=false:=GA (by simp_all);simp only[List.map_nil,List.append_nil,List.length_nil,Nat.add_zero];exact⟨v,y1 [17] ⟨[4,5],[1,2,4],5,[]⟩ e (tD A)⟩
 |f::r,k,v,A,h,d,b=>by
  have:=vA;obtain⟨j,s,l⟩:=dH h;have e:fA (.ofNat k) (.ofNat (hs.map Fm.c).length)=true:=NA (by simp_all);have c:=b f (by simp);have m:=RD f 0 1 (by omega) (by omega) c.1 (by omega);have n:=EN (A:=A) (v:=v) (ty:=36) (m:=88) (c:=(f.sh 0 1).c) (show 0<5 by decide) rfl rfl (by simp only[maxLen];omega) (by omega);have o:=xA (show k+1<=_ by omega);obtain⟨a,g⟩:=Qg G t i r (k+1) (v+1) (A++[(f.sh 0 1).c]) l (by simp[d]) (λf c=>b f (by simp[c]));rw[SJ,show(A++[(f.sh 0 1).c]).length=A.length+1 by simp,show A.length+1+r.length=A.length+(f::r).length by simp;omega,List.append_assoc]at g;exact⟨a,n7 [17,(18,.i f.c),25,(27,.ok),(29,.ok)] Pg e (vB j Fm.c_len) m n o (GG A (f.sh 0 1).c) g⟩
abbrev zD(hs:List Fm):List Fm:=hs.map (Fm.sh 0 1)
def TO(g:List Ty)(hs:List Fm)(t:Ty)(m:g.length<=1000000)(h:hs.length<=qA)(b:∀f∈hs,f.mx<=qA*qA/\f.cnt<=qA):A 47 [LA g hs,JA [t]] (LA (g++[t]) (zD hs)):=by
 have:=vA;have c:=sE g [t] (by simp;omega)
 cases hs with
 |nil=>exact f1 [11] c|cons f r=>
  generalize o:JA (g++[t])=G at *
  have i:=b f (by simp);obtain⟨v,d⟩:=Qg G t (hs:=f::r) h r 1 1 [(f.sh 0 1).c] rfl rfl (λx j=>b x (by simp[j]));have k:[(f.sh 0 1).c]++r.map (λf=>(f.sh 0 1).c)=(zD (f::r)).map Fm.c:=by simp[Function.comp_def]
  rw[k]at d;have a:=LoopIs.fz (by simp) d 4 (ver:=v) (sz:=5) (ty:=36) (ps:=(zD (f::r)).map Fm.c) rfl (by kernel_rfl);rw[show([(f.sh 0 1).c]:List (List PV)).length+r.length=r.length+1 by simp;omega]at a;simp (decide:=true) only[BF,QE,QC,ND,ME,bx,List.map,yE,and_self,↓reduceIte]at a;rw[List.take_of_length_le (by simp)]at a;have e:fA (.ofNat 0) (.ofNat ((f::r).map Fm.c).length)=true:=NA (by simp);have l:Lp 47 0 0 (st [(1,.pv (JA [t])),(4,.loc 1 0),(5,.loc 2 0),(14,.pv (dA (f::r))),(15,.pv (num ((f::r).map Fm.c).length)),(16,.pv (num 0))] [(1,bx zR),(2,bx [G,.nils])] 3 []) (.exit 0) (st [(4,.loc 1 0),(5,.loc 2 0)] [(1,bx zR),(2,bx [G,dA (zD (f::r))])] 5 []):=
   n6 [17,(18,.i f.c),25,(29,.ok)] Pg e (vB (g:=f::r) (k:=0) rfl Fm.c_len) (RD f 0 1 (by omega) (by omega) i.1 (by omega)) (xA (show 0+1<=_ by omega)) (GG [] (f.sh 0 1).c) a
  exact f2 [11,(100003,.l ⟨[1,4,5,14,15,16],[1,2],3,[]⟩ (.exit 0) (st [(4,.loc 1 0),(5,.loc 2 0)] [(1,bx zR),(2,bx [JA (g++[t]),dA (zD (f::r))])] 5 []))] c l
open Go.Lg
structure PG(C X:Nat)(p:Pf):Prop where
 cnt:p.cnt<=C
 tsz:p.tsz<=qA
 mx:p.mx<=X
 gx:p.gx
abbrev jC:Nat:=1048576
abbrev TH:Nat:=mA*16384
def nU:TH=137438953472:=rfl
def cp:Nat->Nat|0=>300|k+1=>2*cp k+10000
def cm:Nat->Nat|0=>jC|k+1=>2*cm k+TH+4*jC
def VO:∀k,jC<=cm k|0=>Nat.le_refl _|k+1=>by have:=VO k;have e:cm (k+1)=2*cm k+TH+4*jC:=rfl;omega
abbrev FBd(Z:Nat)(f:Fm):Prop:=f.cnt<=4096/\f.tsz<=qA/\f.mx<=Z
structure S19(Z:Nat)(ls:List Fm)(g:List Ty)(hs:List Fm):Prop where
 ll:ls.length<=3
 lb:∀f∈ls,FBd Z f
 gl:g.length<=10
 gs:∀s∈g,s.size<=3
 hl:hs.length<=10
 hb:∀f∈hs,FBd Z f
 z:jC<=Z
 lx:∀f∈ls,f.gx
 hx:∀f∈hs,f.gx
def FG.fbd{n C K Z:Nat}{f:Fm}(h:FG n C 3 K f)(a:n<=1000)(a:C<=4096)(a:jC<=Z):FBd Z f:=by
 have:=vA;have:=h.cnt;have:=h.tsz;have:=eP f n h.sc;have e:jC=1048576:=rfl;omega
theorem TG.mx{n C S:Nat}{x:Tm}(h:TG n C S x):x.mx<=n+C:=by have:=uV x n h.sc;have:=h.cnt;omega
def S19.with{Z b:Nat}{e:List Fm}{g:List Ty}{c:List Fm}{f:Fm}(h:S19 Z e g c)(j:FBd b f)(i:f.gx)(d:Z<=b)(k:c.length<10):S19 b e g (c++[f]):=
 ⟨h.ll,λx a=>⟨(h.lb x a).1,(h.lb x a).2.1,Nat.le_trans (h.lb x a).2.2 d⟩,h.gl,h.gs,by simp;omega,λx a=>by
  rcases List.mem_append.1 a with a|a
  ·exact⟨(h.hb x a).1,(h.hb x a).2.1,Nat.le_trans (h.hb x a).2.2 d⟩
  grind,Nat.le_trans h.z d,h.lx,ZP h.hx i⟩
def FBd.up{Z:Nat}{f:Fm}(h:FBd Z f):FBd (Z+1) (f.sh 0 1):=by
 have:=CG 1 f 0
 grind[sD,BG]
def S19.below{Z:Nat}{b:List Fm}{g:List Ty}{c:List Fm}{t:Ty}(h:S19 Z b g c)(e:t.size<=3)(i:g.length<10):S19 (Z+1) b (g++[t]) (zD c):=
 ⟨h.ll,λx a=>⟨(h.lb x a).1,(h.lb x a).2.1,Nat.le_succ_of_le (h.lb x a).2.2⟩,by simp;omega,oE h.gs (by simp_all),by simp;exact h.hl,λx a=>by
  obtain⟨f,d,rfl⟩:=List.mem_map.1 a;exact FBd.up (h.hb f d),Nat.le_succ_of_le h.z,h.lx,YP (k:=1) h.hx⟩
def wL(t:Tm):Pf:=.ind false (.eq pl0 (.v 0)) t (.refl (eB 0)) stepP
def yt(t:Tm):A 59 [t.p] (wL t).p:=by
 have b:=bR;have a:=bJ (n:=0);have c:A 118 [plusT.p,row [eB 0,.v 0]] pl0.p:=eK plusT (eB 0) (.v 0);have d:=GF pl0 (.v 0);have e:A 37 [num 5,row [.v 0]] (Tm.n1 .succ (.v 0)).p:=yR 5 (.v 0);have f:A 117 [num 2,Ty.nat.p,row [.n1 .succ (.v 0)]] sucT.p:=BD .nat (.n1 .succ (.v 0));exact Zu [7,8,9,11,13,14,16,17,19,21,23,24,25,30,31,33] b a (uF 0) c (uF 0) d AA (uF 0) e f (uF 0) (EG 0) Lv a (CB (eB 0)) (LZ false (.eq pl0 (.v 0)) t (.refl (eB 0)) stepP)
abbrev CF(x:Tm):Pf:=.ex false (.q .ex .nat (.eq (x.sh 0 1) (.v 0))) x (.refl x)
def ot{L:List Int}(c:Dk L){g:List Ty}{hs:List Fm}{a:Nat}(d:∀s∈g,s.size<=3)(k:g.length<=100)(e:a<=L.length):∃(x:Tm)(b:Nat),TG g.length 236 3 x/\b<=L.length/\O 61 [.loc 0 0,.pv (LA g hs)] [(0,dk L a)] (.pv (CF x).p) [(0,dk L b)]:=by
 have f:=vA;obtain⟨x,b,q,h,i⟩:=RC c (t:=.nat) (by decide) d (by omega) e;have:=q.cnt;have:=q.mx;have j:=CW x (by omega) (by rw[f];omega);exact⟨x,b,q,h,o8 1 [7,12,15,16,17,18,21,22] AA i j (uF 0) (GF (x.sh 0 1) (.v 0)) (fE .ex .nat (.eq (x.sh 0 1) (.v 0))) (CB x) (RJ false (.q .ex .nat (.eq (x.sh 0 1) (.v 0))) x (.refl x))⟩
abbrev pU(L:List Int)(ls:List Fm)(g:List Ty)(hs:List Fm)(k a:Nat)(p:Pf)(b:Nat):Prop:=O 17 [.loc 0 0,.pv (dA ls),.pv (LA g hs),.pv (num k)] [(0,dk L a)] (.pv p.p) [(0,dk L b)]
def VA(L:List Int)(k:Nat):Prop:=∀(Z:Nat)(c:List Fm)(g:List Ty)(d:List Fm)(a:Nat),S19 Z c g d->Z+cm k<=281474976710656->a<=L.length->∃(p:Pf)(b:Nat),PG (cp k) (Z+cm k) p/\b<=L.length/\pU L c g d k a p b
def uZ(L:List Int)(k:Nat):Prop:=∀(Z:Nat)(d:List Fm)(g:List Ty)(c:List Fm)(a:Nat),S19 Z d g c->g.length<10->c.length<10->Z+cm (k+1)<=281474976710656->a<=L.length->∃(p:Pf)(b:Nat),PG (cp (k+1)) (Z+cm (k+1)) p/\b<=L.length/\O 55 [.loc 0 0,.pv (dA d),.pv (LA g c),.pv (num (k+1))] [(0,dk L a)] (.pv p.p) [(0,dk L b)]
def WO:∀k,k<=10->cp k<=20000000|0,_=>by decide|1,_=>by decide|2,_=>by decide|3,_=>by decide|4,_=>by decide|5,_=>by decide|6,_=>by decide|7,_=>by decide|8,_=>by decide|9,_=>by decide|10,_=>by decide|k+11,h=>absurd h (by omega)
def rU(H:MF){Z k:Nat}{ls:List Fm}{g:List Ty}{hs:List Fm}{p:Pf}(a:S19 Z ls g hs)(b:PG (cp k) (Z+cm k) p)(i:k<=10)(o:Z+cm (k+1)<=281474976710656):∃r:PR,A 10 [dA ls,LA g hs,p.p] r.p/\∀f u,r=.ok f u->FBd (Z+cm k+TH) f/\f.gx:=by
 have:=vA;have:=uA;have:cm (k+1)=2*cm k+TH+4*jC:=rfl;have:=WO k i;have:=a.ll;have:=a.gl;have:=a.hl;have:sB=1125899902742528:=rfl;have:mA=8388608:=rfl;obtain⟨r,m,q,_⟩:=Zb H (X:=Z+cm k) (ls:=ls) (g:=g) (hs:=hs) (p:=p) ⟨λf c=>by have:=a.lb f c;omega,λf c=>by have:=a.hb f c;omega,λs d=>by have:=a.gs s d;omega,by omega,by omega,by omega,by have:=b.cnt;omega,b.tsz,b.mx,by omega⟩;exact⟨r,m,λf u e=>by
  obtain⟨_,_,_,h,_,⟨j,rfl,rfl,n,_⟩,_⟩:=q f u e;exact⟨⟨h.1,h.2.2,h.2.1⟩,CH j (rE a.lx j g hs a.hx n b.gx)⟩⟩
theorem At{L:List Int}(j:Dk L):VA L 0:=by
 intro Z o g p a b A s;have:=vA;have:jC=1048576:=rfl;have:=b.z;have:=b.gl;have:=b.hl;have:cp 0=300:=rfl;have:cm 0=jC:=rfl;obtain⟨w,c,E,k,h⟩:=nx j s (n:=4) (by omega) (by omega);obtain⟨x,d,q,l,gx⟩:=RC j (t:=.nat) (g:=g) (by decide) b.gs (by omega) k;have:=q.cnt;have mx:=q.mx;have:=q.tsz;rcases w with _|_|w
 ·cases p with
  |nil=>exact⟨.refl x,d,⟨by grind[Pf.cnt],by grind[Pf.tsz],by grind[Pf.mx],trivial⟩,l,o4 1 [36,388,415,416] AA h gx (CB x)⟩|cons f r=>
   obtain⟨i,e,z,m,n⟩:=nx j k (n:=((f::r).map Fm.c).length) (by simp) (by grind);exact⟨.leaf false i,e,⟨by grind[Pf.cnt],Nat.zero_le _,Nat.zero_le _,trivial⟩,m,o4 1 [36,388,399,400] AA h n (EG i)⟩
 ·cases o with
  |nil=>exact⟨.refl x,d,⟨by grind[Pf.cnt],by grind[Pf.tsz],by grind[Pf.mx],trivial⟩,l,o4 1 [36,388,415,416] AA h gx (CB x)⟩|cons f r=>
   have:=b.ll;obtain⟨i,e,z,m,n⟩:=nx j k (n:=((f::r).map Fm.c).length) (by simp) (by grind);exact⟨.leaf true i,e,⟨by grind[Pf.cnt],Nat.zero_le _,Nat.zero_le _,trivial⟩,m,o3 1 [36,388,409] AA h n⟩
 exact⟨.refl x,d,⟨by grind[Pf.cnt],by grind[Pf.tsz],by grind[Pf.mx],trivial⟩,l,o4 1 [36,388,415,416] AA h gx (CB x)⟩
theorem Bt{L:List Int}(l:Dk L){k:Nat}(F:VA L k)(y:k<=9){Z:Nat}{n:List Fm}{g:List Ty}{o:List Fm}{a:Nat}(m:S19 Z n g o)(G:Z+cm (k+1)<=281474976710656)(z:a<=L.length)(H:¬g.length<10):∃(p:Pf)(b:Nat),PG (cp (k+1)) (Z+cm (k+1)) p/\b<=L.length/\pU L n g o (k+1) a p b:=by
 have:=vA;have:=uA;have:jC=1048576:=rfl;have:=nU;have:=m.gl;have:=m.hl;have:cp (k+1)=2*cp k+10000:=rfl;have:cm (k+1)=2*cm k+TH+4*jC:=rfl;have:=VO k;have h:fA (.ofNat (g.map Ty.c).length) (.ofNat 10)=false:=GA (by simp;omega);obtain⟨w,c,O,s,j⟩:=nx l z (n:=4) (by omega) (by omega);obtain⟨x,d,q,t,gx⟩:=RC l (t:=.nat) (g:=g) (by decide) m.gs (by omega) s;have:=q.cnt;have mx:=q.mx;have:=q.tsz;rcases w with _|_|w
 ·cases o with
  |nil=>exact⟨.refl x,d,⟨by grind[Pf.cnt],by grind[Pf.tsz],by grind[Pf.mx],trivial⟩,t,o5 1 [36,43,388,415,416] AA h j gx (CB x)⟩|cons f r=>
   obtain⟨i,e,E,u,v⟩:=nx l s (n:=((f::r).map Fm.c).length) (by simp) (by grind);exact⟨.leaf false i,e,⟨by grind[Pf.cnt],Nat.zero_le _,Nat.zero_le _,trivial⟩,u,o5 1 [36,43,388,399,400] AA h j v (EG i)⟩
 ·cases n with
  |nil=>exact⟨.refl x,d,⟨by grind[Pf.cnt],by grind[Pf.tsz],by grind[Pf.mx],trivial⟩,t,o5 1 [36,43,388,415,416] AA h j gx (CB x)⟩|cons f r=>
   have:=m.ll;obtain⟨i,e,E,u,v⟩:=nx l s (n:=((f::r).map Fm.c).length) (by simp) (by grind);exact⟨.leaf true i,e,⟨by grind[Pf.cnt],Nat.zero_le _,Nat.zero_le _,trivial⟩,u,o4 1 [36,43,388,409] AA h j v⟩
 exact⟨.refl x,d,⟨by grind[Pf.cnt],by grind[Pf.tsz],by grind[Pf.mx],trivial⟩,t,o5 1 [36,43,388,415,416] AA h j gx (CB x)⟩
theorem Ct{L:List Int}(j:Dk L){k:Nat}(F:VA L k)(z:k<=9){Z:Nat}{o:List Fm}{g:List Ty}{h:List Fm}{a:Nat}(s:S19 Z o g h)(G:Z+cm (k+1)<=281474976710656)(A:a<=L.length)(H:g.length<10)(I:¬h.length<10):∃(p:Pf)(b:Nat),PG (cp (k+1)) (Z+cm (k+1)) p/\b<=L.length/\pU L o g h (k+1) a p b:=by
 have:=vA;have:=uA;have:jC=1048576:=rfl;have:=nU;have:=s.hl;have:cp (k+1)=2*cp k+10000:=rfl;have:cm (k+1)=2*cm k+TH+4*jC:=rfl;have:=VO k;have l:fA (.ofNat (g.map Ty.c).length) (.ofNat 10)=true:=NA (by simp_all);have m:fA (.ofNat (h.map Fm.c).length) (.ofNat 10)=false:=GA (by simp;omega);obtain⟨w,c,P,t,n⟩:=nx j A (n:=4) (by omega) (by omega);obtain⟨x,d,q,y,gx⟩:=RC j (t:=.nat) (g:=g) (by decide) s.gs (by omega) t;have:=q.cnt;have mx:=q.mx;have:=q.tsz;rcases w with _|_|w
 ·cases h with
  |nil=>simp_all|cons f r=>
   obtain⟨i,e,E,u,v⟩:=nx j t (n:=((f::r).map Fm.c).length) (by simp) (by grind);exact⟨.leaf false i,e,⟨by grind[Pf.cnt],Nat.zero_le _,Nat.zero_le _,trivial⟩,u,o6 1 [36,43,49,388,399,400] AA l m n v (EG i)⟩
 ·cases o with
  |nil=>exact⟨.refl x,d,⟨by grind[Pf.cnt],by grind[Pf.tsz],by grind[Pf.mx],trivial⟩,y,o6 1 [36,43,49,388,415,416] AA l m n gx (CB x)⟩|cons f r=>
   have:=s.ll;obtain⟨i,e,E,u,v⟩:=nx j t (n:=((f::r).map Fm.c).length) (by simp) (by grind);exact⟨.leaf true i,e,⟨by grind[Pf.cnt],Nat.zero_le _,Nat.zero_le _,trivial⟩,u,o5 1 [36,43,49,388,409] AA l m n v⟩
 exact⟨.refl x,d,⟨by grind[Pf.cnt],by grind[Pf.tsz],by grind[Pf.mx],trivial⟩,y,o6 1 [36,43,49,388,415,416] AA l m n gx (CB x)⟩
structure bE(L:List Int)(k Z a b:Nat)(ls hs:List Fm)(g:List Ty):Prop where
 hL:Dk L
 hk:VA L k
 hkl:k<=9
 hS:S19 Z ls g hs
 hZ:Z+cm (k+1)<=281474976710656
 ha:a<=L.length
 hg:g.length<10
 hh:hs.length<10
 hb:b<=L.length
 hm:qA=33554432
 hbg:yA=1152921504606846976
 e20:jC=1048576
 eW:TH=137438953472
 hz1:jC<=Z
 hhl:hs.length<=10
 hgl:g.length<=10
 e1:cp (k+1)=2*cp k+10000
 e2:cm (k+1)=2*cm k+TH+4*jC
 e3:jC<=cm k
 gs:eA (Int.ofNat (k+1)-1)=true/\Int.ofNat (k+1)-1=.ofNat k
 b1:fA (.ofNat (g.map Ty.c).length) (.ofNat 10)=true
 b2:fA (.ofNat (hs.map Fm.c).length) (.ofNat 10)=true
abbrev xE(L:List Int)(a b n:Nat):Prop:=O 20 [.loc 0 0,.pv (num 17)] [(0,dk L a)] (.pv (num n)) [(0,dk L b)]
abbrev BE(L:List Int)(k Z a:Nat)(ls hs:List Fm)(g:List Ty):Prop:=∃(p:Pf)(b:Nat),PG (cp (k+1)) (Z+cm (k+1)) p/\b<=L.length/\pU L ls g hs (k+1) a p b
section
variable{L:List Int}{k Z a b:Nat}{ls hs:List Fm}{g:List Ty}
def Dt(h:bE L k Z a b ls hs g)(gv:xE L a b 0):BE L k Z a ls hs g:=by
 obtain⟨C,i,m,j,D,E,F,G,n,H,o,s,I,t,u,v,J,K,M,l,w,x⟩:=h;obtain⟨p,c,e,y,z⟩:=i Z ls g hs b j (by omega) n;obtain⟨r,d,f,A,B⟩:=i Z ls g hs c j (by omega) y;have:=e.cnt;have:=e.tsz;have:=e.mx;have:=f.cnt;have:=f.tsz;have:=f.mx;exact⟨.p2 .andI p r,d,⟨by grind[Pf.cnt],by grind[Pf.tsz],by grind[Pf.mx],⟨e.gx,f.gx⟩⟩,A,o9 1 [36,43,49,52,59,60,65,66,68] AA w x gv l z l B (GI 3 p r)⟩
def Et(i:bE L k Z a b ls hs g)(gv:xE L a b 1):BE L k Z a ls hs g:=by
 obtain⟨x,l,y,m,H,I,J,K,z,M,A,B,N,C,D,E,O,P,Q,h,n,o⟩:=i;obtain⟨v,F,R,j,s⟩:=nx x z (n:=2) (by omega) (by omega);obtain⟨p,c,e,G,t⟩:=l Z ls g hs F m (by omega) j;obtain⟨r,d,f,u,w⟩:=l Z ls g hs c m (by omega) G;have:=e.cnt;have:=e.tsz;have:=e.mx;have:=f.cnt;have:=f.tsz;have:=f.mx;rcases v with _|_|v
 ·exact⟨.p1 .andL (.p2 .andI p r),d,⟨by grind[Pf.cnt],by grind[Pf.tsz],by grind[Pf.mx],⟨e.gx,f.gx⟩⟩,u,FJ 1 [36,43,49,52,72,78,79,84,85,87,89] AA n o gv s h t h w (GI 3 p r) (gP 4 (.p2 .andI p r))⟩
 ·exact⟨.p1 .andR (.p2 .andI p r),d,⟨by grind[Pf.cnt],by grind[Pf.tsz],by grind[Pf.mx],⟨e.gx,f.gx⟩⟩,u,FJ 1 [36,43,49,52,72,78,79,84,85,87,89] AA n o gv s h t h w (GI 3 p r) (gP 5 (.p2 .andI p r))⟩
 omega
def Ft(h:bE L k Z a b ls hs g)(gv:xE L a b 2):BE L k Z a ls hs g:=by
 obtain⟨l,m,n,j,D,E,F,o,r,G,s,t,H,i,u,v,I,J,K,w,x,y⟩:=h;obtain⟨f,c,qf,z,A⟩:=wt l j.gs (by omega) r;have ff:=qf.fbd (by omega) (by omega) i;obtain⟨p,d,e,B,C⟩:=m Z ls g (hs++[f]) c (j.with ff (qf.nx.x (by decide)) (Nat.le_refl _) o) (by omega) z;have:=e.cnt;have:=e.tsz;have:=e.mx;exact⟨.impI f p,d,⟨by grind[Pf.cnt],by grind[Pf.tsz],by grind[Pf.mx],⟨qf.nx.x (by decide),e.gx⟩⟩,B,o9 1 [36,43,49,52,95,101,103,104,105] AA x y gv A (bc g hs f) w C (Sh f p)⟩
def Gt(H:MF)(E:bE L k Z a b ls hs g)(gv:xE L a b 3):BE L k Z a ls hs g:=by
 obtain⟨B,J,N,j,O,ha,hg,P,Q,hm,R,S,eW,T,U,V,e1,e2,e3,h,l,m⟩:=E;obtain⟨p,c,v,y,o⟩:=J Z ls g hs b j (by omega) Q;have:=v.cnt;have:=v.tsz;have:=v.mx;obtain⟨r,t,W⟩:=rU H j v (by omega) O;have:=WO k (by omega)
 cases r with
 |er n=>
  obtain⟨w,X,hw,F,z⟩:=nx B y (n:=4) (by omega) (by omega);obtain⟨x,d,q,A,gx⟩:=RC B (t:=.nat) (g:=g) (by decide) j.gs (by omega) F;have:=q.cnt;have mx:=q.mx;have:=q.tsz;rcases w with _|_|w
  ·cases hs with
   |nil=>exact⟨.refl x,d,⟨by grind[Pf.cnt],by grind[Pf.tsz],by grind[Pf.mx],trivial⟩,A,nC 1 [36,43,49,52,112,113,118,388,415,416] AA l m gv h o t z gx (CB x)⟩|cons f r=>
    have K:=j.hl;obtain⟨i,e,Y,G,I⟩:=nx B F (n:=((f::r).map Fm.c).length) (by simp) (by grind);exact⟨.leaf false i,e,⟨by grind[Pf.cnt],Nat.zero_le _,Nat.zero_le _,trivial⟩,G,nC 1 [36,43,49,52,112,113,118,388,399,400] AA l m gv h o t z I (EG i)⟩
  ·cases ls with
   |nil=>exact⟨.refl x,d,⟨by grind[Pf.cnt],by grind[Pf.tsz],by grind[Pf.mx],trivial⟩,A,nC 1 [36,43,49,52,112,113,118,388,415,416] AA l m gv h o t z gx (CB x)⟩|cons f r=>
    have K:=j.ll;obtain⟨i,e,Y,G,I⟩:=nx B F (n:=((f::r).map Fm.c).length) (by simp) (by simp at K⊢;omega);exact⟨.leaf true i,e,⟨by simp only[Pf.cnt];omega,Nat.zero_le _,Nat.zero_le _,trivial⟩,G,o9 1 [36,43,49,52,112,113,118,388,409] AA l m gv h o t z I⟩
  exact⟨.refl x,d,⟨by simp only[Pf.cnt];omega,by simp only[Pf.tsz];omega,by simp only[Pf.mx];omega,trivial⟩,A,nC 1 [36,43,49,52,112,113,118,388,415,416] AA l m gv h o t z gx (CB x)⟩
 |ok f u=>
  obtain⟨C,M⟩:=W f u rfl;have X:=C.1;have:=C.2.1;have:=C.2.2;obtain⟨s,d,D,A,g3⟩:=J (Z+cm k+TH) ls g (hs++[f]) c (j.with C M (by omega) P) (by omega) y;have:=D.cnt;have:=D.tsz;have:=D.mx;exact⟨.p2 .impE (.impI f s) p,d,⟨by simp only[Pf.cnt];omega,by simp only[Pf.tsz];omega,by simp only[Pf.mx];omega,⟨⟨M,D.gx⟩,v.gx⟩⟩,A,GJ 1 [36,43,49,52,112,113,118,130,132,133,134,137] AA l m gv h o t (bc g hs f) h g3 (Sh f s) (GI 7 (.impI f s) p)⟩
def It(h:bE L k Z a b ls hs g)(gv:xE L a b 4):BE L k Z a ls hs g:=by
 obtain⟨j,l,m,i,G,H,n,I,o,r,s,u,J,v,w,x,K,M,N,y,z,A⟩:=h;obtain⟨t,c,zt,B,C⟩:=MD j 1 (by omega) o;have zt:t.size<=3:=zt;obtain⟨p,d,e,D,E⟩:=l (Z+1) ls (g++[t]) (zD hs) c (i.below zt n) (by omega) B;have:=e.cnt;have:=e.tsz;have:=e.mx;exact⟨.all false t p,d,⟨by grind[Pf.cnt],by grind[Pf.tsz],by grind[Pf.mx],e.gx⟩,D,o9 1 [36,43,49,52,141,148,150,151,152] AA z A gv C (TO g hs t (by omega) (by omega) (λf F=>by have:=i.hb f F;rw[r];omega)) y E (lR false t p)⟩
def Kt(h:bE L k Z a b ls hs g)(gv:xE L a b 5):BE L k Z a ls hs g:=by
 obtain⟨m,n,o,i,K,M,r,N,s,u,v,w,O,y,z,A,P,Q,R,B,C,D⟩:=h;obtain⟨t,c,zt,E,F⟩:=MD m 1 (by omega) s;have zt:t.size<=3:=zt;obtain⟨x,G,j,l,gx⟩:=RC m (t:=t) (g:=g) zt i.gs (by omega) E;obtain⟨p,d,e,H,I⟩:=n (Z+1) ls (g++[t]) (zD hs) G (i.below zt r) (by omega) l;have:=e.cnt;have:=e.tsz;have:=e.mx;have:=j.cnt;have:=j.tsz;have:=j.mx;exact⟨.ins false x (.all false t p),d,⟨by grind[Pf.cnt],by grind[Pf.tsz],by grind[Pf.mx],e.gx⟩,H,FJ 1 [36,43,49,52,156,161,168,170,171,172,173] AA C D gv F gx (TO g hs t (by omega) (by omega) (λf J=>by have:=i.hb f J;rw[u];omega)) B I (lR false t p) (Th false x (.all false t p))⟩
def Lt(e:bE L k Z a b ls hs g)(gv:xE L a b 6):BE L k Z a ls hs g:=by
 obtain⟨h,B,o,p,C,D,E,F,r,s,t,u,G,w,y,z,H,I,J,K,i,j⟩:=e;obtain⟨x,c,f,A,gx⟩:=RC h (t:=.nat) (g:=g) (by decide) p.gs (by omega) r;obtain⟨v,d,M,l,m⟩:=nx h A (n:=2) (by omega) (by omega);have:=f.cnt;have:=f.tsz;have:=f.mx;have:=FF 1 x 0;have n:=CW x (by omega) (by rw[s];omega);rcases v with _|_|v
 ·exact⟨.ex false (.q .ex .nat (.eq (x.sh 0 1) (.v 0))) x (.refl x),d,⟨by grind[Pf.cnt,Fm.cnt,sC,Tm.cnt],by grind[Pf.tsz,Fm.tsz,oG,Tm.tsz,Ty.size],by grind[Pf.mx,Fm.mx,Tm.mx],⟨⟨trivial,λ_=>.inr (Nat.zero_le _)⟩,trivial⟩⟩,l,GJ 1 [36,43,49,52,180,182,189,190,191,192,200,201] AA i j gv gx m n (uF 0) (GF (x.sh 0 1) (.v 0)) (fE .ex .nat (.eq (x.sh 0 1) (.v 0))) (CB x) (RJ false (.q .ex .nat (.eq (x.sh 0 1) (.v 0))) x (.refl x))⟩
 ·exact⟨.ex true (.q .exU .nat (.eq (x.sh 0 1) (.v 0))) x (.refl x),d,⟨by grind[Pf.cnt,Fm.cnt,sC,Tm.cnt],by grind[Pf.tsz,Fm.tsz,oG,Tm.tsz,Ty.size],by grind[Pf.mx,Fm.mx,Tm.mx],⟨⟨trivial,λ_=>.inr (Nat.zero_le _)⟩,trivial⟩⟩,l,GJ 1 [36,43,49,52,180,182,189,190,191,192,200,201] AA i j gv gx m n (uF 0) (GF (x.sh 0 1) (.v 0)) (fE .exU .nat (.eq (x.sh 0 1) (.v 0))) (CB x) (RJ true (.q .exU .nat (.eq (x.sh 0 1) (.v 0))) x (.refl x))⟩
 omega
def Mt(H:MF)(G:bE L k Z a b ls hs g)(gv:xE L a b 7):BE L k Z a ls hs g:=by
 obtain⟨l,R,S,A,T,ha,hg,hh,U,V,W,X,eW,Y,hhl,hgl,e1,e2,e3,m,o,s⟩:=G;obtain⟨p,c,B,C,y⟩:=R Z ls g hs b A (by omega) U;have:=B.cnt;have:=B.tsz;have:=B.mx;obtain⟨r,z,qr⟩:=rU H A B (by omega) T;have:=WO k (by omega)
 cases r with
 |er n=>
  obtain⟨w,c1,hw,I,j⟩:=nx l C (n:=4) (by omega) (by omega);obtain⟨x,d,q,D,gx⟩:=RC l (t:=.nat) (g:=g) (by decide) A.gs (by omega) I;have:=q.cnt;have mx:=q.mx;have:=q.tsz;rcases w with _|_|w
  ·cases hs with
   |nil=>exact⟨.refl x,d,⟨by grind[Pf.cnt],by grind[Pf.tsz],by grind[Pf.mx],trivial⟩,D,nC 1 [36,43,49,52,208,209,214,388,415,416] AA o s gv m y z j gx (CB x)⟩|cons f r=>
    have N:=A.hl;obtain⟨i,e,hi,E,J⟩:=nx l I (n:=((f::r).map Fm.c).length) (by simp) (by grind);exact⟨.leaf false i,e,⟨by grind[Pf.cnt],Nat.zero_le _,Nat.zero_le _,trivial⟩,E,nC 1 [36,43,49,52,208,209,214,388,399,400] AA o s gv m y z j J (EG i)⟩
  ·cases ls with
   |nil=>exact⟨.refl x,d,⟨by simp only[Pf.cnt];omega,by simp only[Pf.tsz];omega,by simp only[Pf.mx];omega,trivial⟩,D,nC 1 [36,43,49,52,208,209,214,388,415,416] AA o s gv m y z j gx (CB x)⟩|cons f r=>
    have N:=A.ll;obtain⟨i,e,hi,E,J⟩:=nx l I (n:=((f::r).map Fm.c).length) (by simp) (by simp at N⊢;omega);exact⟨.leaf true i,e,⟨by simp only[Pf.cnt];omega,Nat.zero_le _,Nat.zero_le _,trivial⟩,E,o9 1 [36,43,49,52,208,209,214,388,409] AA o s gv m y z j J⟩
  exact⟨.refl x,d,⟨by simp only[Pf.cnt];omega,by simp only[Pf.tsz];omega,by simp only[Pf.mx];omega,trivial⟩,D,nC 1 [36,43,49,52,208,209,214,388,415,416] AA o s gv m y z j gx (CB x)⟩
 |ok f u=>
  obtain⟨K,O⟩:=qr f u rfl;have c1:=K.1;have:=K.2.1;have:=K.2.2;have:=CG 1 f 0;have:(1:Int).toNat=1:=rfl;have P:=RD f 0 1 (by omega) (by omega) (by rw[V];omega) (by omega);obtain⟨t,d,zt,D,Q⟩:=MD l 1 (by omega) C;have zt:t.size<=3:=zt;obtain⟨v,e,hv,E,j⟩:=nx l D (n:=2) (by omega) (by omega);obtain⟨x,h,M,F,gx⟩:=RC l (t:=t) (g:=g) zt A.gs (by omega) E;have:=M.cnt;have:=M.tsz;have:=M.mx;rcases v with _|_|v
  ·exact⟨.ex false (.q .ex t (f.sh 0 1)) x p,h,⟨by simp only[Pf.cnt,Fm.cnt,sD];omega,by simp only[Pf.tsz,Fm.tsz,BG];omega,by simp only[Pf.mx,Fm.mx];omega,⟨⟨qO f 0 1 O,λ_=>.inl (Lb f)⟩,B.gx⟩⟩,F,o13 1 [36,43,49,52,208,209,214,220,222,230,231,241,243] AA o s gv m y z Q j P (fE .ex t (f.sh 0 1)) gx (RJ false (.q .ex t (f.sh 0 1)) x p)⟩
  ·exact⟨.ex true (.q .exU t (f.sh 0 1)) x p,h,⟨by simp only[Pf.cnt,Fm.cnt,sD];omega,by simp only[Pf.tsz,Fm.tsz,BG];omega,by simp only[Pf.mx,Fm.mx];omega,⟨⟨qO f 0 1 O,λ_=>.inl (Lb f)⟩,B.gx⟩⟩,F,o13 1 [36,43,49,52,208,209,214,220,222,230,231,241,243] AA o s gv m y z Q j P (fE .exU t (f.sh 0 1)) gx (RJ true (.q .exU t (f.sh 0 1)) x p)⟩
  omega
def Nt(e:uZ L k)(d:bE L k Z a b ls hs g)(gv:xE L a b 8):BE L k Z a ls hs g:=by
 obtain⟨z,A,f,h,i,B,j,l,m,C,n,o,D,r,s,t,E,F,G,H,u,v⟩:=d;obtain⟨p,c,w,x,y⟩:=e Z ls g hs b h j l i m;exact⟨p,c,w,x,o5 1 [36,43,49,52,250] AA u v gv y⟩
def Ot(H:MF)(B:bE L k Z a b ls hs g)(gv:xE L a b 9):BE L k Z a ls hs g:=by
 obtain⟨t,J,K,h,M,ha,hg,hh,N,O,P,Q,eW,R,S,T,e1,e2,e3,j,l,m⟩:=B;obtain⟨p,c,v,y,o⟩:=J Z ls g hs b h (by omega) N;have:=v.cnt;have:=v.tsz;have:=v.mx;obtain⟨r,s,U⟩:=rU H h v (by omega) M;have:=WO k (by omega)
 cases r with
 |er n=>
  obtain⟨w,V,hw,C,z⟩:=nx t y (n:=4) (by omega) (by omega);obtain⟨x,d,q,A,gx⟩:=RC t (t:=.nat) (g:=g) (by decide) h.gs (by omega) C;have:=q.cnt;have mx:=q.mx;have:=q.tsz;rcases w with _|_|w
  ·cases hs with
   |nil=>exact⟨.refl x,d,⟨by grind[Pf.cnt],by grind[Pf.tsz],by grind[Pf.mx],trivial⟩,A,nC 1 [36,43,49,52,257,258,263,388,415,416] AA l m gv j o s z gx (CB x)⟩|cons f r=>
    have I:=h.hl;obtain⟨i,e,W,D,E⟩:=nx t C (n:=((f::r).map Fm.c).length) (by simp) (by grind);exact⟨.leaf false i,e,⟨by grind[Pf.cnt],Nat.zero_le _,Nat.zero_le _,trivial⟩,D,nC 1 [36,43,49,52,257,258,263,388,399,400] AA l m gv j o s z E (EG i)⟩
  ·cases ls with
   |nil=>exact⟨.refl x,d,⟨by grind[Pf.cnt],by grind[Pf.tsz],by grind[Pf.mx],trivial⟩,A,nC 1 [36,43,49,52,257,258,263,388,415,416] AA l m gv j o s z gx (CB x)⟩|cons f r=>
    have I:=h.ll;obtain⟨i,e,W,D,E⟩:=nx t C (n:=((f::r).map Fm.c).length) (by simp) (by simp at I⊢;omega);exact⟨.leaf true i,e,⟨by simp only[Pf.cnt];omega,Nat.zero_le _,Nat.zero_le _,trivial⟩,D,o9 1 [36,43,49,52,257,258,263,388,409] AA l m gv j o s z E⟩
  exact⟨.refl x,d,⟨by simp only[Pf.cnt];omega,by simp only[Pf.tsz];omega,by simp only[Pf.mx];omega,trivial⟩,A,nC 1 [36,43,49,52,257,258,263,388,415,416] AA l m gv j o s z gx (CB x)⟩
 |ok f u=>
  obtain⟨F,X⟩:=U f u rfl;have V:=F.1;have:=F.2.1;have:=F.2.2;have:=CG 1 f 0;have:(1:Int).toNat=1:=rfl;have Y:=RD f 0 1 (by omega) (by omega) (by rw[O];omega) (by omega);obtain⟨x,d,G,A,gx⟩:=RC t (t:=.nat) (g:=g) (by decide) h.gs (by omega) y;have:=G.cnt;have:=G.tsz;have:=G.mx;exact⟨.ind false (f.sh 0 1) x p (.leaf false 0),d,⟨by simp only[Pf.cnt,sD];omega,by simp only[Pf.tsz,BG];omega,by simp only[Pf.mx];omega,⟨qO f 0 1 X,v.gx,trivial⟩⟩,A,FJ 1 [36,43,49,52,257,258,263,270,275,277,278] AA l m gv j o s Y gx (EG 0) (LZ false (f.sh 0 1) x p (.leaf false 0))⟩
def Pt(H:MF)(B:bE L k Z a b ls hs g)(gv:xE L a b 10):BE L k Z a ls hs g:=by
 obtain⟨t,J,K,h,M,ha,hg,hh,N,O,P,Q,eW,R,S,T,e1,e2,e3,j,l,m⟩:=B;obtain⟨p,c,v,y,o⟩:=J Z ls g hs b h (by omega) N;have:=v.cnt;have:=v.tsz;have:=v.mx;obtain⟨r,s,U⟩:=rU H h v (by omega) M;have:=WO k (by omega)
 cases r with
 |er n=>
  obtain⟨w,V,hw,C,z⟩:=nx t y (n:=4) (by omega) (by omega);obtain⟨x,d,q,A,gx⟩:=RC t (t:=.nat) (g:=g) (by decide) h.gs (by omega) C;have:=q.cnt;have mx:=q.mx;have:=q.tsz;rcases w with _|_|w
  ·cases hs with
   |nil=>exact⟨.refl x,d,⟨by grind[Pf.cnt],by grind[Pf.tsz],by grind[Pf.mx],trivial⟩,A,nC 1 [36,43,49,52,285,286,291,388,415,416] AA l m gv j o s z gx (CB x)⟩|cons f r=>
    have I:=h.hl;obtain⟨i,e,W,D,E⟩:=nx t C (n:=((f::r).map Fm.c).length) (by simp) (by grind);exact⟨.leaf false i,e,⟨by grind[Pf.cnt],Nat.zero_le _,Nat.zero_le _,trivial⟩,D,nC 1 [36,43,49,52,285,286,291,388,399,400] AA l m gv j o s z E (EG i)⟩
  ·cases ls with
   |nil=>exact⟨.refl x,d,⟨by grind[Pf.cnt],by grind[Pf.tsz],by grind[Pf.mx],trivial⟩,A,nC 1 [36,43,49,52,285,286,291,388,415,416] AA l m gv j o s z gx (CB x)⟩|cons f r=>
    have I:=h.ll;obtain⟨i,e,W,D,E⟩:=nx t C (n:=((f::r).map Fm.c).length) (by simp) (by simp at I⊢;omega);exact⟨.leaf true i,e,⟨by simp only[Pf.cnt];omega,Nat.zero_le _,Nat.zero_le _,trivial⟩,D,o9 1 [36,43,49,52,285,286,291,388,409] AA l m gv j o s z E⟩
  exact⟨.refl x,d,⟨by simp only[Pf.cnt];omega,by simp only[Pf.tsz];omega,by simp only[Pf.mx];omega,trivial⟩,A,nC 1 [36,43,49,52,285,286,291,388,415,416] AA l m gv j o s z gx (CB x)⟩
 |ok f u=>
  obtain⟨F,X⟩:=U f u rfl;have V:=F.1;have:=F.2.1;have:=F.2.2;have:=CG 1 f 0;have:(1:Int).toNat=1:=rfl;have Y:=RD f 0 1 (by omega) (by omega) (by rw[O];omega) (by omega);obtain⟨x,d,G,A,gx⟩:=RC t (t:=.list) (g:=g) (by decide) h.gs (by omega) y;have:=G.cnt;have:=G.tsz;have:=G.mx;exact⟨.ind true (f.sh 0 1) x p (.leaf false 0),d,⟨by simp only[Pf.cnt,sD];omega,by simp only[Pf.tsz,BG];omega,by simp only[Pf.mx];omega,⟨qO f 0 1 X,v.gx,trivial⟩⟩,A,GJ 1 [36,43,49,52,285,286,291,298,302,303,305,306] AA l m gv j o s Y sM gx (EG 0) (LZ true (f.sh 0 1) x p (.leaf false 0))⟩
def Qt(d:bE L k Z a b ls hs g)(gv:xE L a b 11):BE L k Z a ls hs g:=by
 obtain⟨f,u,h,i,v,w,y,z,j,A,l,m,B,n,o,p,C,D,E,F,r,s⟩:=d;obtain⟨x,c,e,t,gx⟩:=RC f (t:=.nat) (g:=g) (by decide) i.gs (by omega) j;have:=e.cnt;have:=e.tsz;have:=e.mx;have:(wL x).cnt<=x.cnt+1000:=by
  simp only[wL,Pf.cnt];have:stepP.cnt<=900:=by decide
  have:(Fm.eq pl0 (.v 0)).cnt<=50:=by decide
  have:(eB 0).cnt<=10:=by decide
  omega
 have:(wL x).tsz<=x.tsz+10:=by
  simp only[wL,Pf.tsz];have:stepP.tsz<=10:=by decide
  have:(Fm.eq pl0 (.v 0)).tsz<=10:=by decide
  have:(eB 0).tsz<=10:=by decide
  omega
 have:(wL x).mx<=x.mx+10:=by
  simp only[wL,Pf.mx];have:stepP.mx<=10:=by decide
  have:(Fm.eq pl0 (.v 0)).mx<=10:=by decide
  have:(eB 0).mx<=10:=by decide
  omega
 exact⟨wL x,c,⟨by omega,by omega,by omega,⟨trivial,trivial,⟨trivial,trivial,trivial⟩⟩⟩,t,o6 1 [36,43,49,52,313,314] AA r s gv gx (yt x)⟩
def Rt(e:bE L k Z a b ls hs g)(gv:xE L a b 12):BE L k Z a ls hs g:=by
 obtain⟨i,C,m,j,D,E,F,G,n,o,p,r,H,s,t,u,I,J,K,M,v,w⟩:=e;obtain⟨x,c,f,z,gx⟩:=RC i (t:=.nat) (g:=g) (by decide) j.gs (by omega) n;obtain⟨y,d,h,A,B⟩:=RC i (t:=.nat) (g:=g) (by decide) j.gs (by omega) z;have:=f.cnt;have:=f.tsz;have:=f.mx;have:=h.cnt;have:=h.tsz;have:=h.mx;have:=FF 1 y 0;have l:=CW y (by omega) (by rw[o];omega);exact⟨.subst (.eq (y.sh 0 1) (y.sh 0 1)) (.refl x) (.refl y),d,⟨by grind[Pf.cnt,Fm.cnt,sC],by grind[Pf.tsz,Fm.tsz,oG],by grind[Pf.mx,Fm.mx],⟨trivial,trivial,trivial⟩⟩,A,GJ 1 [36,43,49,52,321,326,328,330,331,333,335,336] AA v w gv gx B l l (GF (y.sh 0 1) (y.sh 0 1)) (CB x) (CB y) (Uh (.eq (y.sh 0 1) (y.sh 0 1)) (.refl x) (.refl y))⟩
def Tt(e:bE L k Z a b ls hs g)(gv:xE L a b 13):BE L k Z a ls hs g:=by
 obtain⟨i,D,l,j,E,F,G,H,m,n,o,p,I,r,s,u,J,K,M,N,v,w⟩:=e;obtain⟨t,c,zt,y,z⟩:=MD i 0 (by omega) m;have zt:t.size<=3:=Nat.le_trans zt (by decide);obtain⟨x,d,h,A,B⟩:=ot i (g:=g++[t]) (hs:=zD hs) (oE j.gs (by simp_all)) (by simp;omega) y;have:=h.cnt;have:=h.tsz;have:=h.mx;have:=FF 1 x 0;exact⟨.p1 .choice (.all false t (CF x)),d,⟨by grind[Pf.cnt,Fm.cnt,sC,Tm.cnt],by grind[Pf.tsz,Fm.tsz,oG,Tm.tsz,Ty.size],by grind[Pf.mx,Fm.mx,Tm.mx],⟨⟨trivial,λ_=>.inr (Nat.zero_le _)⟩,trivial⟩⟩,A,o9 1 [36,43,49,52,340,346,347,348,350] AA v w gv z (TO g hs t (by omega) (by omega) (λf C=>by have:=j.hb f C;rw[n];omega)) B (lR false t (CF x)) (gP 20 (.all false t (CF x)))⟩
def Ut(h:bE L k Z a b ls hs g)(gv:xE L a b 14):BE L k Z a ls hs g:=by
 obtain⟨j,l,m,i,G,H,n,I,o,r,s,u,J,v,w,x,K,M,N,y,z,A⟩:=h;obtain⟨t,c,zt,B,C⟩:=MD j 1 (by omega) o;have zt:t.size<=3:=zt;obtain⟨p,d,e,D,E⟩:=l (Z+1) ls (g++[t]) (zD hs) c (i.below zt n) (by omega) B;have:=e.cnt;have:=e.tsz;have:=e.mx;exact⟨.all true t p,d,⟨by grind[Pf.cnt],by grind[Pf.tsz],by grind[Pf.mx],e.gx⟩,D,o9 1 [36,43,49,52,354,361,363,364,365] AA z A gv C (TO g hs t (by omega) (by omega) (λf F=>by have:=i.hb f F;rw[r];omega)) y E (lR true t p)⟩
def Vt(h:bE L k Z a b ls hs g)(gv:xE L a b 15):BE L k Z a ls hs g:=by
 obtain⟨m,n,o,i,K,M,r,N,s,u,v,w,O,y,z,A,P,Q,R,B,C,D⟩:=h;obtain⟨t,c,zt,E,F⟩:=MD m 1 (by omega) s;have zt:t.size<=3:=zt;obtain⟨x,G,j,l,gx⟩:=RC m (t:=t) (g:=g) zt i.gs (by omega) E;obtain⟨p,d,e,H,I⟩:=n (Z+1) ls (g++[t]) (zD hs) G (i.below zt r) (by omega) l;have:=e.cnt;have:=e.tsz;have:=e.mx;have:=j.cnt;have:=j.tsz;have:=j.mx;exact⟨.ins true x (.all true t p),d,⟨by grind[Pf.cnt],by grind[Pf.tsz],by grind[Pf.mx],e.gx⟩,H,FJ 1 [36,43,49,52,369,374,381,383,384,385,386] AA C D gv F gx (TO g hs t (by omega) (by omega) (λf J=>by have:=i.hb f J;rw[u];omega)) B I (lR true t p) (Th true x (.all true t p))⟩
def Wt(n:bE L k Z a b ls hs g)(gv:xE L a b 16):BE L k Z a ls hs g:=by
 obtain⟨m,F,v,u,G,H,I,J,y,K,z,A,M,B,C,D,N,O,P,Q,h,j⟩:=n;obtain⟨w,c,R,o,l⟩:=nx m y (n:=4) (by omega) (by omega);obtain⟨x,d,q,p,gx⟩:=RC m (t:=.nat) (g:=g) (by decide) u.gs (by omega) o;have:=q.cnt;have mx:=q.mx;have:=q.tsz;rcases w with _|_|w
 ·cases hs with
  |nil=>exact⟨.refl x,d,⟨by grind[Pf.cnt],by grind[Pf.tsz],by grind[Pf.mx],trivial⟩,p,o7 1 [36,43,49,52,388,415,416] AA h j gv l gx (CB x)⟩|cons f r=>
   obtain⟨i,e,E,s,t⟩:=nx m o (n:=((f::r).map Fm.c).length) (by simp) (by grind);exact⟨.leaf false i,e,⟨by grind[Pf.cnt],Nat.zero_le _,Nat.zero_le _,trivial⟩,s,o7 1 [36,43,49,52,388,399,400] AA h j gv l t (EG i)⟩
 ·cases ls with
  |nil=>exact⟨.refl x,d,⟨by grind[Pf.cnt],by grind[Pf.tsz],by grind[Pf.mx],trivial⟩,p,o7 1 [36,43,49,52,388,415,416] AA h j gv l gx (CB x)⟩|cons f r=>
   have:=u.ll;obtain⟨i,e,E,s,t⟩:=nx m o (n:=((f::r).map Fm.c).length) (by simp) (by grind);exact⟨.leaf true i,e,⟨by grind[Pf.cnt],Nat.zero_le _,Nat.zero_le _,trivial⟩,s,o6 1 [36,43,49,52,388,409] AA h j gv l t⟩
 exact⟨.refl x,d,⟨by grind[Pf.cnt],by grind[Pf.tsz],by grind[Pf.mx],trivial⟩,p,o7 1 [36,43,49,52,388,415,416] AA h j gv l gx (CB x)⟩
end
theorem Xt(H:MF){L:List Int}(h:Dk L){k:Nat}(l:VA L k)(m:uZ L k)(e:k<=9):VA L (k+1):=by
 intro Z n g i a d o j;have p:=vA;have r:=uA;by_cases s:g.length<10
 ·by_cases t:i.length<10
  ·obtain⟨w,b,u,f,gv⟩:=nx h j (n:=17) (by omega) (by omega);have c:bE L k Z a b n i g:=⟨h,l,e,d,o,j,s,t,f,p,r,rfl,nU,d.z,d.hl,d.gl,rfl,rfl,VO k,SC (a:=k+1),NA (by simp_all),NA (by simp_all)⟩;rcases w with _|_|_|_|_|_|_|_|_|_|_|_|_|_|_|_|_|w
   ·exact Dt c gv
   ·exact Et c gv
   ·exact Ft c gv
   ·exact Gt H c gv
   ·exact It c gv
   ·exact Kt c gv
   ·exact Lt c gv
   ·exact Mt H c gv
   ·exact Nt m c gv
   ·exact Ot H c gv
   ·exact Pt H c gv
   ·exact Qt c gv
   ·exact Rt c gv
   ·exact Tt c gv
   ·exact Ut c gv
   ·exact Vt c gv
   ·exact Wt c gv
   omega
  grind[Ct]
 grind[Bt]
open Go.Lg
def Yt(f:Fm):O 29 [.pv f.p] [] (.agg [.undef,.pv (num f.tk),.pv (.slice f.te),.pv (.slice f.ts),.pv (.slice f.es)]) []:=by
 have h:A 29 [f.p] f.p:=dE f;refine⟨h.direct,λn i=>by simp[Out.names,V.names,BA]at i,h.namesO,λE w j k l m=>(h.calls E w j k l m).mono ?_⟩
 rintro e y ⟨o,p,v,r,s⟩
 refine⟨o,p,v,r,?_⟩;obtain⟨us,t,x,d⟩:=s;refine⟨us,t,x,?_⟩
 match us,d with
 |[],d=>exact d.elim|u::us,d=>
  refine⟨trivial,?_⟩;have a:=d.2
  match us,a with
  |[],a=>exact a.elim|z::us,a=>
   refine⟨a.1,?_⟩;have b:=a.2
   match us,b with
   |[],b=>exact b.elim|B::us,b=>
    refine⟨b.1,?_⟩;have c:=b.2
    match us,c with
    |[],c=>exact c.elim|C::us,c=>
     refine⟨c.1,?_⟩;have g:=c.2
     match us,g with|[],g=>exact g.elim|D::us,g=>exact⟨g.1,trivial⟩
abbrev qE(x:Tm):Fm:=.eq (x.sh 0 1) (.v 0)
abbrev kL(x:Tm):Pf:=.ex true (.q .exU .nat (qE x)) x (.refl x)
theorem Zt{L:List Int}(B:Dk L){k:Nat}(J:VA L k)(K:k<=9):uZ L k:=by
 intro Z E g h a m M hh hZ N;have C:=vA;have:=uA;have:jC=1048576:=rfl;have:=nU;have:=m.z;have:cp (k+1)=2*cp k+10000:=rfl;have:cm (k+1)=2*cm k+TH+4*jC:=rfl;have:=VO k;have n:=SC (a:=k+1);obtain⟨x,b,D,T,o⟩:=RC B (t:=.nat) (g:=g) (by decide) m.gs (by omega) N;have:=D.cnt;have:=D.tsz;have:=D.mx;have:=FF 1 x 0;have:(1:Int).toNat=1:=rfl;have p:=CW x (by omega) (by rw[C];omega);have U:FBd (Z+1) (qE x):=⟨by grind[Fm.cnt,sC,Tm.cnt],by grind[Fm.tsz,oG,Tm.tsz],by grind[Fm.mx,Tm.mx]⟩;obtain⟨w,c,hw,V,r⟩:=nx B T (n:=3) (by omega) (by omega);have s:=TO g h .nat (by omega) (by omega) (λf W=>by have:=m.hb f W;rw[C];omega);have t:=bc (g++[.nat]) (zD h) (qE x) (by simp;omega);have X:S19 (Z+1) E (g++[.nat]) (zD h++[qE x]):=(m.below (t:=.nat) (by decide) M).with U trivial (Nat.le_refl _) (by simp_all);obtain⟨q,d,l,Y,y⟩:=J (Z+1) E (g++[.nat]) (zD h++[qE x]) c X (by omega) V;have:=l.cnt;have F:=l.tsz;have:=l.mx;obtain⟨v,e,hv,z,gv⟩:=nx B Y (n:=2) (by omega) (by omega);have bd:∀(u:P2)(P Q:Pf),P.cnt<=800->P.tsz<=qA->P.mx<=Z+cm k+10->Q.cnt<=cp k+800->Q.tsz<=qA->Q.mx<=Z+cm k+10->P.gx/\Q.gx->PG (cp (k+1)) (Z+cm (k+1)) (.p2 u P Q):=λu P Q b1 b2 b3 b4 b5 b6 b9=>
  ⟨by grind[Pf.cnt],by grind[Pf.tsz],by grind[Pf.mx],b9⟩
 have i:∀(u:Bool)(kk:FQ),(Pf.ex u (.q kk .nat (qE x)) x (.refl x)).cnt<=800/\(Pf.ex u (.q kk .nat (qE x)) x (.refl x)).tsz<=qA/\(Pf.ex u (.q kk .nat (qE x)) x (.refl x)).mx<=Z+cm k+10:=λu kk=>
  ⟨by grind[Pf.cnt,Fm.cnt,sC,Tm.cnt],by grind[Pf.tsz,Fm.tsz,oG,Tm.tsz,Ty.size],by grind[Pf.mx,Fm.mx,Tm.mx]⟩
 have j:∀(u:Bool)(kk:FQ),(Pf.ex u ((Fm.q kk .nat (qE x)).sh 0 1) (.v 0) (.leaf false 0)).cnt<=cp k+800/\(Pf.ex u ((Fm.q kk .nat (qE x)).sh 0 1) (.v 0) (.leaf false 0)).tsz<=qA/\(Pf.ex u ((Fm.q kk .nat (qE x)).sh 0 1) (.v 0) (.leaf false 0)).mx<=Z+cm k+10:=λu kk=>by
  have:=CG 1 (Fm.q kk .nat (qE x)) 0;have:(Fm.q kk .nat (qE x)).mx<=x.mx+1:=by simp only[Fm.mx,Tm.mx];omega
  exact⟨by simp only[Pf.cnt,sD,Fm.cnt,sC,Tm.cnt];omega,by simp only[Pf.tsz,BG,Fm.tsz,oG,Tm.tsz,Ty.size];omega,by simp only[Pf.mx,Tm.mx];omega⟩
 have G:∀kk:FQ,A 54 [(Fm.q kk .nat (qE x)).p,num 0,.int 1] ((Fm.q kk .nat (qE x)).sh 0 1).p:=λkk=>RD _ 0 1 (by omega) (by omega) (by simp only[Fm.mx,Tm.mx];rw[C];omega) (by simp only[Fm.cnt,sC,Tm.cnt];omega)
 cases w with
 |zero=>
  have H:A 48 [num 10,x.p,(Pf.refl x).p] (pn 10 [x.c] [] [(Pf.refl x).c]):=KZ 10 x (.refl x);have I:=Yt (.q .ex .nat (qE x))
  cases v with|zero=>exact⟨.p2 .exUE (kL x) (.ex true ((Fm.q .exU .nat (qE x)).sh 0 1) (.v 0) (.leaf false 0)),e,(bd .exUE (kL x) (.ex true ((Fm.q .exU .nat (qE x)).sh 0 1) (.v 0) (.leaf false 0)) (i true .exU).1 (i true .exU).2.1 (i true .exU).2.2 (j true .exU).1 (j true .exU).2.1 (j true .exU).2.2 ⟨⟨⟨trivial,λ_=>.inr (Nat.zero_le _)⟩,trivial⟩,⟨trivial,λ_=>.inr (Nat.zero_le _)⟩,trivial⟩),z,dv 1 [(16,.n [(7,.Y),(12,.D L b (.pv x.p)),(15,.r (x.sh 0 1).p),(16,.r (Tm.v 0).p),(17,.r (qE x).p),(18,.r (Fm.q .ex .nat (qE x)).p),(21,.r (Pf.refl x).p),(22,.n [(13,.r (pn 10 [x.c] [] [(Pf.refl x).c])),(15,.o [] [] (.agg [.undef,.pv (num (Fm.q .ex .nat (qE x)).tk),.pv (.slice (Fm.q .ex .nat (qE x)).te),.pv (.slice (Fm.q .ex .nat (qE x)).ts),.pv (.slice (Fm.q .ex .nat (qE x)).es)]))])]),(18,.D L c (.pv (num 0))),(300005,.f 12 [(Fm.q .exU .nat (qE x)).c]),(35,.Y),(37,.r (LA (g++[.nat]) (zD h))),(39,.r (LA (g++[.nat]) (zD h++[qE x]))),(41,.z k),(42,.D L d (.pv q.p)),(44,.D L e (.pv (num 0))),(50,.r ((Fm.q .exU .nat (qE x)).sh 0 1).p),(54,.r (Tm.v 0).p),(55,.r (Pf.leaf false 0).p),(56,.r (Pf.ex true ((Fm.q .exU .nat (qE x)).sh 0 1) (.v 0) (.leaf false 0)).p),(61,.r (Pf.p2 .exUE (kL x) (.ex true ((Fm.q .exU .nat (qE x)).sh 0 1) (.v 0) (.leaf false 0))).p)] AA o p (uF 0) (GF (x.sh 0 1) (.v 0)) (fE .ex .nat (qE x)) (CB x) H I r (rfl:kA [(Fm.q .exU .nat (qE x)).c]=kA [(Fm.q .exU .nat (qE x)).c]) AA s t n y gv (G .exU) (uF 0) (EG 0) (RJ true ((Fm.q .exU .nat (qE x)).sh 0 1) (.v 0) (.leaf false 0)) (GI 15 (kL x) (.ex true ((Fm.q .exU .nat (qE x)).sh 0 1) (.v 0) (.leaf false 0)))⟩|succ v=>exact⟨.p2 .exUE (kL x) q,e,(bd .exUE (kL x) q (i true .exU).1 (i true .exU).2.1 (i true .exU).2.2 (by omega) F (by omega) ⟨⟨⟨trivial,λ_=>.inr (Nat.zero_le _)⟩,trivial⟩,l.gx⟩),z,Jh 1 [(16,.n [(7,.Y),(12,.D L b (.pv x.p)),(15,.r (x.sh 0 1).p),(16,.r (Tm.v 0).p),(17,.r (qE x).p),(18,.r (Fm.q .ex .nat (qE x)).p),(21,.r (Pf.refl x).p),(22,.n [(13,.r (pn 10 [x.c] [] [(Pf.refl x).c])),(15,.o [] [] (.agg [.undef,.pv (num (Fm.q .ex .nat (qE x)).tk),.pv (.slice (Fm.q .ex .nat (qE x)).te),.pv (.slice (Fm.q .ex .nat (qE x)).ts),.pv (.slice (Fm.q .ex .nat (qE x)).es)]))])]),(18,.D L c (.pv (num 0))),(300005,.f 12 [(Fm.q .exU .nat (qE x)).c]),(35,.Y),(37,.r (LA (g++[.nat]) (zD h))),(39,.r (LA (g++[.nat]) (zD h++[qE x]))),(41,.z k),(42,.D L d (.pv q.p)),(44,.D L e (.pv (num (v+1)))),(61,.r (Pf.p2 .exUE (kL x) q).p)] AA o p (uF 0) (GF (x.sh 0 1) (.v 0)) (fE .ex .nat (qE x)) (CB x) H I r (rfl:kA [(Fm.q .exU .nat (qE x)).c]=kA [(Fm.q .exU .nat (qE x)).c]) AA s t n y gv (GI 15 (kL x) q)⟩
 |succ w=>
  cases v with|zero=>exact⟨.p2 .exE (CF x) (.ex false ((Fm.q .ex .nat (qE x)).sh 0 1) (.v 0) (.leaf false 0)),e,(bd .exE (CF x) (.ex false ((Fm.q .ex .nat (qE x)).sh 0 1) (.v 0) (.leaf false 0)) (i false .ex).1 (i false .ex).2.1 (i false .ex).2.2 (j false .ex).1 (j false .ex).2.1 (j false .ex).2.2 ⟨⟨⟨trivial,λ_=>.inr (Nat.zero_le _)⟩,trivial⟩,⟨trivial,λ_=>.inr (Nat.zero_le _)⟩,trivial⟩),z,uv 1 [(16,.n [(7,.Y),(12,.D L b (.pv x.p)),(15,.r (x.sh 0 1).p),(16,.r (Tm.v 0).p),(17,.r (qE x).p),(18,.r (Fm.q .ex .nat (qE x)).p),(21,.r (Pf.refl x).p),(22,.r (CF x).p)]),(18,.D L c (.pv (num (w+1)))),(35,.Y),(37,.r (LA (g++[.nat]) (zD h))),(39,.r (LA (g++[.nat]) (zD h++[qE x]))),(41,.z k),(42,.D L d (.pv q.p)),(44,.D L e (.pv (num 0))),(50,.r ((Fm.q .ex .nat (qE x)).sh 0 1).p),(54,.r (Tm.v 0).p),(55,.r (Pf.leaf false 0).p),(56,.r (Pf.ex false ((Fm.q .ex .nat (qE x)).sh 0 1) (.v 0) (.leaf false 0)).p),(61,.r (Pf.p2 .exE (CF x) (.ex false ((Fm.q .ex .nat (qE x)).sh 0 1) (.v 0) (.leaf false 0))).p)] AA o p (uF 0) (GF (x.sh 0 1) (.v 0)) (fE .ex .nat (qE x)) (CB x) (RJ false (.q .ex .nat (qE x)) x (.refl x)) r AA s t n y gv (G .ex) (uF 0) (EG 0) (RJ false ((Fm.q .ex .nat (qE x)).sh 0 1) (.v 0) (.leaf false 0)) (GI 11 (CF x) (.ex false ((Fm.q .ex .nat (qE x)).sh 0 1) (.v 0) (.leaf false 0)))⟩|succ v=>exact⟨.p2 .exE (CF x) q,e,(bd .exE (CF x) q (i false .ex).1 (i false .ex).2.1 (i false .ex).2.2 (by omega) F (by omega) ⟨⟨⟨trivial,λ_=>.inr (Nat.zero_le _)⟩,trivial⟩,l.gx⟩),z,BZ 1 [(16,.n [(7,.Y),(12,.D L b (.pv x.p)),(15,.r (x.sh 0 1).p),(16,.r (Tm.v 0).p),(17,.r (qE x).p),(18,.r (Fm.q .ex .nat (qE x)).p),(21,.r (Pf.refl x).p),(22,.r (CF x).p)]),(18,.D L c (.pv (num (w+1)))),(35,.Y),(37,.r (LA (g++[.nat]) (zD h))),(39,.r (LA (g++[.nat]) (zD h++[qE x]))),(41,.z k),(42,.D L d (.pv q.p)),(44,.D L e (.pv (num (v+1)))),(61,.r (Pf.p2 .exE (CF x) q).p)] AA o p (uF 0) (GF (x.sh 0 1) (.v 0)) (fE .ex .nat (qE x)) (CB x) (RJ false (.q .ex .nat (qE x)) x (.refl x)) r AA s t n y gv (GI 11 (CF x) q)⟩
def nB(H:MF){L:List Int}(a:Dk L):∀k,k<=9->VA L k
 :=by intro x;induction x<;>grind[At,Xt,Zt,VA]
def a5(L:List Int):A 5 [.slice (L.map cK)] (.bool (decide (L.length<=500))):=by
 by_cases h:L.length<=500
 ·have e:(!fA (.ofNat 500) (.ofNat (L.map cK).length))=true:=by rw[GA (by simp_all)];rfl
  rw[decide_eq_true h];exact f1 [5] e
 have e:(!fA (.ofNat 500) (.ofNat (L.map cK).length))=false:=by rw[NA (by simp_all)];rfl
 rw[decide_eq_false h];exact f1 [5] e
abbrev PR.v(r:PR):PV:=.agg [num r.k,num r.tk,.slice r.te,.slice r.ts,.slice r.es,IA r.u]
def Rg(a:List Fm)(g:List Ty)(b:List Fm)(p:Pf):Prop:=p.ck/\p.cnt<=16384/\p.gx/\∃j:Jt,j.p=p/\j.D a g b
def Sg:∀k,300<=cp k|0=>Nat.le_refl _|k+1=>by have:=Sg k;have e:cp (k+1)=2*cp k+10000:=rfl;omega
def jR(H:MF){Z k:Nat}{ls:List Fm}{g:List Ty}{hs:List Fm}{p:Pf}(a:S19 Z ls g hs)(b:PG (cp k) (Z+cm k) p)(h:k<=10)(v:Z+cm k<=281474976710656):∃r:PR,A 10 [dA ls,LA g hs,p.p] r.p/\∀f u,r=.ok f u->Rg ls g hs p:=by
 have:=vA;have:=uA;have:=WO k h;have:=a.ll;have:=a.gl;have:=a.hl;have:sB=1125899902742528:=rfl;have:mA=8388608:=rfl;obtain⟨r,l,q,_⟩:=Zb H (X:=Z+cm k) (ls:=ls) (g:=g) (hs:=hs) (p:=p) ⟨λf c=>by have:=a.lb f c;omega,λf c=>by have:=a.hb f c;omega,λs d=>by have:=a.gs s d;omega,by omega,by omega,by omega,by have:=b.cnt;omega,b.tsz,b.mx,by omega⟩;exact⟨r,l,λf u e=>by
  obtain⟨_,m,n,_,_,⟨j,o,E,t,_⟩,_⟩:=q f u e;exact⟨m,n,b.gx,j,o,t⟩⟩
def qu(H:MF){L:List Int}(A:Dk L){e:List Fm}{g:List Ty}{h:List Fm}{a k:Nat}(I:k<=9)(c:jC+cm k<=281474976710656)(d:S19 jC e g h)(J:a<=L.length):∃(p:Pf)(r:PR)(b:Nat),Rg e g h p/\b<=L.length/\
  O 7 [.loc 0 0,.pv (dA e),.pv (LA g h),.pv (num k)] [(0,dk L a)] (.pv (.tuple [p.p,r.v])) [(0,dk L b)]:=by
 have:=vA;have s:=nB H A k I;obtain⟨p1,B,K,i,j⟩:=s jC e g h a d c J;obtain⟨M,l,N⟩:=jR H d K (by omega) c
 cases M with|ok f u=>exact⟨p1,.ok f u,B,N f u rfl,i,o2 1 [22,27] j l⟩|er n1=>
 obtain⟨p2,C,P,m,t⟩:=s jC e g h B d c i;obtain⟨Q,v,R⟩:=jR H d P (by omega) c
 cases Q with|ok f u=>exact⟨p2,.ok f u,C,R f u rfl,m,o4 1 [22,27,22,27] j l t v⟩|er n2=>
 obtain⟨S,D,T,n,w⟩:=s jC e g h C d c m;obtain⟨U,x,V⟩:=jR H d T (by omega) c
 cases U with|ok f u=>exact⟨S,.ok f u,D,V f u rfl,n,o6 1 [22,27,22,27,22,27] j l t v w x⟩|er n3=>
 obtain⟨W,X,Y,o,E⟩:=s jC e g h D d c n;obtain⟨Z,F,z4⟩:=jR H d Y (by omega) c
 cases Z with|ok f u=>exact⟨W,.ok f u,X,z4 f u rfl,o,o8 1 [22,27,22,27,22,27,22,27] j l t v w x E F⟩|er n4=>
 obtain⟨y,b5,hy,z,g5⟩:=nx A o (n:=4) (by omega) (by omega);have qr:(Pf.refl (eB y)).cnt<=300/\(Pf.refl (eB y)).tsz<=qA/\(Pf.refl (eB y)).mx<=jC/\(eB y).chk=0/\(Fm.eq (eB y) (eB y)).chk=0:=by
  rcases y with _|_|_|_|y
  ·exact⟨by decide,by decide,by decide,rfl,rfl⟩
  ·exact⟨by decide,by decide,by decide,rfl,rfl⟩
  ·exact⟨by decide,by decide,by decide,rfl,rfl⟩
  ·exact⟨by decide,by decide,by decide,rfl,rfl⟩
  omega
 obtain⟨c1,c2,c3,G,qe⟩:=qr;have:=Sg k;have:=VO k;obtain⟨r5,k5,_⟩:=jR H (p:=.refl (eB y)) d ⟨by omega,c2,by omega,trivial⟩ (by omega) c;exact⟨.refl (eB y),r5,b5,⟨G,by omega,trivial,.refl (eB y),rfl,qe,G,Ig g y⟩,z,GJ 1 [22,27,22,27,22,27,22,27,36,37,38,43] j l t v w x E F g5 (bJ hy) (CB (eB y)) k5⟩
end Go.Proofs.YtmihmecnjjmdgaaGreatDoor
