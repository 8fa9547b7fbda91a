/- From a contract to the row; no conditions. -/
import Derived.Test.YtbebdmlomjpamaaGreatDoorAccC2
import Derived.Test.YtbebdmlomjpamaaGreatDoorTie
import Derived.Test.YtbebdmlomjpamaaGreatDoorCards
import Derived.ProofKit
import Derived.LaidMore
import Derived.OpenShut
import Derived.Stop.Joined
import Derived.SevenTiedAt
import Derived.Carry
set_option linter.all false
namespace Go.Proofs.YtbebdmlomjpamaaGreatDoor
open Go Go.Lg Go.ChangeShapes Go.WideShapes Go.ChangeAt Go.WideMaps Go.WideElems Go.RowKit
def own:ownKnob Tryz.prog.godebug=none:=bG
def c3:Tryz.prog.cellsOf 3=1:=bG
def zHq:laidOutB Tryz.prog=true:=bG
abbrev vL:List (String×DataW Unit):=Rows.soundAcceptedRow.laid
def fN:Lit->Value|.int k n=>.int k n|.bool b=>.bool b|_=>.nilIface
section
variable{H:Type}{enc:TypeId×Value->H}{P:Program}{w:World}{base:Nat}{sp:Nat->Bool}{held:Bool}{fuel:Nat}{t:TypeId}{cs:List Value}
def iY:∀(E:List (List Value))(cs:List Value)(c:Nat),cs.length=E.length*c->(∀i e,E[i]? =some e->(cs.drop (i*c)).take c=e)->cs=E.flatten
 |[],cs,c,a,_=>by simp at a;subst a;rfl|e::E,cs,c,a,h=>by
  have b:=h 0 e rfl;simp at b;have d:=iY E (cs.drop c) c (by rw[aaK,a,hW,aaI,abx];omega) (λi x f=>by
   have:=h (i+1) x f;rw[lo];rw[show c+i*c=(i+1)*c by rw[aaI,abx,abd]];exact this)
  rw[List.flatten_cons,<-d,<-b,abo]
def xq{ty:TypeDesc}(d:P.underlying t=some ty)(a:ty=.bool\/∃k,ty=.int k){l:Lit}{p:List MemPlace}(h:DataW.trod enc P w base sp held fuel t cs=some (.lit l,p)):cs=[fN l]:=by
 rcases a with rfl|⟨k,rfl⟩
 ·obtain⟨b,rfl,c⟩:=DataW.trod_bool d h;cases c;rfl
 obtain⟨n,rfl,c,_⟩:=DataW.trod_int d h;cases c;rfl
def Aq{b:List (DataW H×List MemPlace)}{c:List Lit}(h:c.map DataW.lit=b.map (·.1)){i:Nat}{l:Lit}(f:c[i]? =some l):∃p,b[i]? =some (.lit l,p):=by
 have a:(c.map (DataW.lit (H:=H)))[i]? =(b.map (·.1))[i]?:=by rw[h]
 rw[i1,i1,f]at a
 cases e:b[i]? with
 |none=>rw[e]at a;cases a
 |some x=>
  rw[e]at a;have⟨d,p⟩:=x;simp at a;exact⟨p,by rw[a]⟩
def Bq(a:List Lit):(a.map λl=>[fN l]).flatten=a.map fN:=by
 induction a with|nil=>rfl|cons l r b=>simp[b]
def Cq{n:Nat}{e:TypeId}{ty:TypeDesc}(s:P.underlying t=some (.array n e))(u:P.underlying e=some ty)(c:ty=.bool\/∃k,ty=.int k)(v:P.cellsOf e=1)(x:P.cellsOf t=n){ls:List Lit}{p:List MemPlace}
  (h:DataW.trod enc P w base sp held fuel t cs=some (.agg (ls.map .lit),p)):cs=ls.map fN:=by
 obtain⟨z,m,_,d,y,r,f⟩:=DataW.trod_array s h;simp only[Prod.mk.injEq,DataW.agg.injEq]at d;have a:ls.length=n:=by have:=congrArg List.length d.1;simp at this;omega
 have g:=iY (ls.map λl=>[fN l]) cs 1 (by rw[y,x,List.length_map,a,Nat.mul_one]) (λi A b=>by
  rw[List.getElem?_map]at b
  cases hq:ls[i]? with
  |none=>rw[hq]at b;cases b
  |some l=>
   rw[hq]at b;cases b;obtain⟨q,j⟩:=Aq d.1 hq;have o:i<n:=by rw[<-a];exact(List.getElem?_eq_some_iff.1 hq).1
   have:=f i o;rw[j,v]at this;exact xq u c this)
 rw[g,Bq]
def fU(P:Program):List Field->Nat->Bool
 |[],_=>true|f::r,i=>(f.offset==i)&&(P.cellsOf f.type==1)&&(match P.underlying f.type with
  |some .bool=>true|some (.int _)=>true|_=>false)&&fU P r (i+1)
def Dq:∀{fs:List Field}{k:Nat},fU P fs k=true->∀(i:Nat)(f:Field),fs[i]? =some f->f.offset=k+i/\P.cellsOf f.type=1/\∃ty,P.underlying f.type=some ty/\(ty=.bool\/∃k,ty=.int k)
 |[],k,_,i,f,h=>by cases h
 |g::r,k,c,i,f,h=>by
  simp only[fU,hP,beq_iff_eq]at c;have⟨⟨⟨m,j⟩,d⟩,l⟩:=c
  cases i with
  |zero=>
   cases h;refine⟨a6,j,?_⟩;split at d
   ·rename_i e;exact⟨_,e,.inl rfl⟩
   ·rename_i kk e;exact⟨_,e,.inr ⟨kk,rfl⟩⟩
   cases d
  |succ i=>
   have⟨a,b⟩:=Dq l i f h;exact⟨a6,b⟩
def zY2{fs:Array Field}(v:P.underlying t=some (.struct fs))(x:fU P fs.toList 0=true)(y:P.cellsOf t=fs.size){e:List Lit}{p:List MemPlace}
  (h:DataW.trod enc P w base sp held fuel t cs=some (.agg (e.map .lit),p)):cs=e.map fN:=by
 obtain⟨A,m,_,k,z,u,n⟩:=DataW.trod_struct v h;simp only[Prod.mk.injEq,DataW.agg.injEq]at k;have f:e.length=fs.size:=by have:=congrArg List.length k.1;simp at this;omega
 have o:=iY (e.map λl=>[fN l]) cs 1 (by rw[z,y,List.length_map,f,Nat.mul_one]) (λi B g=>by
  rw[List.getElem?_map]at g
  cases hq:e[i]? with
  |none=>rw[hq]at g;cases g
  |some l=>
   rw[hq]at g;cases g;obtain⟨q,r⟩:=Aq k.1 hq;have s:i<fs.size:=by rw[<-f];exact(List.getElem?_eq_some_iff.1 hq).1
   have j:fs[i]? =some fs[i]:=Array.getElem?_eq_getElem s;obtain⟨a,b,ty,c,d⟩:=Dq x i fs[i] (by rw[Array.getElem?_toList];exact j);have:=n i fs[i] j;rw[r,b,a,Nat.zero_add]at this;rw[Nat.mul_one];exact xq c d this)
 rw[o,Bq]
def zY3{n:Nat}{e:TypeId}{fs:Array Field}(u:P.underlying t=some (.array n e))(v:P.underlying e=some (.struct fs))(y:fU P fs.toList 0=true)(o:P.cellsOf e=fs.size)(g:P.cellsOf t=n*fs.size){rs:List (List Lit)}{p:List MemPlace}
  (h:DataW.trod enc P w base sp held fuel t cs=some (.agg (rs.map λa=>.agg (a.map .lit)),p)):cs=(rs.map λa=>a.map fN).flatten:=by
 have⟨r,m,_,j,z,s,k⟩:=DataW.trod_array u h;simp only[aaQ,DataW.agg.injEq]at j;have c:rs.length=n:=by have:=k0 List.length j.1;simp at this;omega
 refine iY _ cs fs.size (by rw[z,g,gB,c]) (λi A f=>?_);rw[i1]at f
 cases hq:rs[i]? with
 |none=>rw[hq]at f;cases f
 |some a=>
  rw[hq]at f;cases f;have b:(rs.map λa=>DataW.agg (H:=H) (a.map .lit))[i]? =(r.map (·.1))[i]?:=by rw[j.1]
  rw[i1,i1,hq]at b
  cases e:r[i]? with
  |none=>rw[e]at b;cases b
  |some x=>
   rw[e]at b;have⟨d,q⟩:=x;simp at b;have l:i<n:=by rw[<-c];exact(gf.1 hq).1
   have:=k i l;rw[e,o,<-b]at this;exact zY2 v y o this
end
def sH:PV->Value|.int n=>.int .i64 n|.bool b=>.bool b|.num k n=>.int k n|_=>oC
def oY:PV->Bool|.int _=>true|.bool _=>true|.num .u8 _=>true|_=>false
def xY(H:Hp):∀(ps:List PV),ps.all oY=true->RepL H ps (ps.map sH)
 |[],_=>by simp only[i2,RepL]|p::ps,h=>by
  simp only[List.all_cons,hP]at h;simp only[gF,RepL];refine⟨?_,xY H ps h.2⟩;have a:=h.1;unfold oY at a;split at a<;>simp_all[RepP,sH]
noncomputable def jZp:Array Field:=match Tryz.prog.underlying 255 with|some (.struct fs)=>fs|_=> #[]
def Kf:PV->Lit|.int n=>.int .i64 n|.bool b=>.bool b|.num k n=>.int k n|_=>.bool false
def Fq:Nat->List PV->List (List PV)|0,_=>[]|n+1,l=>l.take 8::Fq n (l.drop 8)
def zVu{P:Program}{w:World}{n:String}{g:Nat}{cs:Array Value}(a:P.globalNamed n=some g)(h:w.var? P n=some cs):∃T fr,w.heap[g]? =some (.cells cs T fr):=by
 simp only[World.var?,a,Option.bind_some]at h;split at h<;>simp_all
def Mf{ps p q:List MemPlace}{g n:Nat}(h:ps=MemPlace.row ⟨g,0,none⟩ n++p++q)(a:0<n):MemPlace.cell g 0∈ps:=by
 subst h;exact List.mem_append_left _ (List.mem_append_left _ (List.mem_map.2 ⟨0,List.mem_range.2 a,rfl⟩))
def Nf{W:World}{n:String}{g:Nat}{cs:Array Value}{a:List Value}(d:Tryz.prog.globalNamed n=some g)(e:W.var? Tryz.prog n=some cs)(f:cs.toList=a)(i:∃c t,W.heap[g]? =some (.cells c t (0,0))):∃c T,W.heap[g]? =some (.cells c T (0,0))/\c.toList=a:=by
 have⟨T,fr,h⟩:=zVu d e;have⟨c,t,b⟩:=i;rw[h]at b;cases b;exact⟨cs,T,h,f⟩
def gDe:Tryz.prog.globalNamed "math/bits.deBruijn32tab" =some 1:=bG
def gRl:Tryz.prog.globalNamed "proofprograms/tree.rules" =some 0:=bG
def gAr:Tryz.prog.globalNamed "proofprograms/tree.arities" =some 2:=bG
def tDe:(Tryz.prog.globals[1]?).map (·.type)=some 327:=bG
def tAr:(Tryz.prog.globals[2]?).map (·.type)=some 333:=bG
def tRl:(Tryz.prog.globals[0]?).map (·.type)=some 300:=bG
def abp:=@List.mem_append_right
def zHr{W:World}(h:laidMetH Tryz.prog vL W):(∃c T,W.heap[0]? =some (.cells c T (0,0))/\c.toList=rlB.map sH)/\(∃c T,W.heap[1]? =some (.cells c T (0,0))/\c.toList=deB.map sH)/\∃c T,W.heap[2]? =some (.cells c T (0,0))/\c.toList=arB.map sH:=by
 rw[MakeChecks.laidMetH_plain _ _ _ bG]at h;obtain⟨ps,⟨F,t0,b,f0,G,y,d,e,f,g,⟨H,t2,cs2,f2,p2,z,i,j,k,l,⟨I,t1,cs1,f1,p1,J,m,n,o,p,A,B⟩,u⟩,r⟩,_,a⟩:=h;obtain rfl:=aaB (gDe.symm.trans d);obtain rfl:=aaB (gRl.symm.trans i);obtain rfl:=aaB (gAr.symm.trans m);obtain rfl:=aaB (tDe.symm.trans e);obtain rfl:=aaB (tRl.symm.trans j);obtain rfl:=aaB (tAr.symm.trans n);have v:b.toList=deB.map sH:=(Cq (n:=32) (e:=5) (ty:=.int .u8) bG bG (.inr ⟨_,rfl⟩) bG bG (ls:=deB.map Kf) g).trans bG;have w:cs1.toList=arB.map sH:=(Cq (n:=14) (e:=3) (ty:=.int .i64) bG bG (.inr ⟨_,rfl⟩) bG bG (ls:=arB.map Kf) p).trans bG;have x:cs2.toList=rlB.map sH:=(zY3 (n:=21) (e:=255) (fs:=jZp) bG bG bG bG bG (rs:=(Fq 21 rlB).map (·.map Kf)) l).trans bG;have C:MemPlace.cell 1 0∈ps:=Mf r (by rw[<-ky,v];exact gi bG);have D:MemPlace.cell 0 0∈y:=Mf u (by rw[<-ky,x];exact gi bG);have E:MemPlace.cell 2 0∈z:=Mf B (by rw[<-ky,w];exact gi bG);have s:MemPlace.cell 0 0∈ps:=by rw[r];exact abp _ D
 have t:MemPlace.cell 2 0∈ps:=by rw[r,u];exact abp _ (abp _ E)
 exact⟨Nf gRl k x (a _ _ s).1,Nf gDe f v (a _ _ C).1,Nf gAr o w (a _ _ t).1⟩
def msk(v:Value):Value:=match v with|.int .i64 n=>.int .i64 n|_=>oC
def zP9{v:Value}(h:msk v≠oC):msk v=v:=by
 unfold msk at *
 split<;>simp_all
def zHs(v:Value):∃k n,msk v=.int k n/\k≠.i16:=by
 unfold msk;split
 ·exact⟨_,_,rfl,bb⟩
 exact⟨.i8,0,rfl,bb⟩
def Gq(v:Value)(b:Bool):msk v≠Go.Lg.mark b:=by
 unfold msk Go.Lg.mark oC;split<;>simp
def Of:Nat->List Value|0=>rlB.map sH|1=>deB.map sH|2=>arB.map sH|_=>[]
def H0(W:World)(B:Nat):Hp:=λb=>if b<3 then Of b else if b=B then(match W.heap[b]? with|some (.cells c _ _)=>c.toList.map msk|_=>[])else []
def E0(W:World)(B:Nat):Go.Lg.Env:=⟨H0 W B,λ_=>.pointer none,λ_=>0,λ_=>0⟩
def Iq{W:World}(h:laidMetH Tryz.prog vL W){b:Nat}(a:b<3):∃c T,W.heap[b]? =some (.cells c T (0,0))/\c.toList=Of b:=by
 have⟨d,e,f⟩:=zHr h
 match b,a with|0,_=>exact d|1,_=>exact e|2,_=>exact f
def zHu{W:World}(h:laidMetH Tryz.prog vL W){B i:Nat}{c:Array Value}{T:TypeId}{fr:Nat×Nat}{n:Int}(b:W.heap[B]? =some (.cells c T fr))(d:c.toList[i]? =some (.int .i64 n)):(H0 W B B)[i]? =some (.int .i64 n):=by
 unfold H0;split
 ·rename_i e;have⟨g,j,a,f⟩:=Iq h e;rw[b]at a;cases a;rw[<-f];exact d
 rw[gm rfl,b];simp only[i1,d,gw];rfl
def Jq(H:Hp):∀(a:List Int)(b:List Value),(∀(i:Nat)(n:Int),a[i]? =some n->b[i]? =some (.int .i64 n))->RepE H (a.map λz=>[PV.int z]) b
 |[],_,_=>by simp only[i2,RepE]|n::a,[],h=>by have:=h 0 n rfl;simp at this|n::a,v::b,h=>by
  have c:=h 0 n rfl;simp at c;subst c;simp only[gF,RepE,RepL,hW,iq,List.drop_succ_cons,List.drop_zero];exact⟨⟨by simp[RepP],trivial⟩,Jq H a b (λi m d=>by simpa using h (i+1) m (by simpa using d))⟩
def Kq:∀g,g<3->∀v∈Of g,v≠oC/\∀b,v≠Go.Lg.mark b:=by
 have key:∀ps:List PV,ps.all oY=true->∀v∈ps.map sH,v≠oC/\∀b,v≠Go.Lg.mark b:=by
  intro ps h v a;obtain⟨p,c,rfl⟩:=iy.1 a;have:=aav.1 h p c;unfold oY at this;split at this<;>simp_all[sH,oC,Go.Lg.mark]
 intro g d
 match g,d with|0,_=>exact key rlB bG|1,_=>exact key deB bG|2,_=>exact key arB bG
def zHv{W:World}(B:Nat)(h:laidMetH Tryz.prog vL W):QI gl (E0 W B) W []:=by
 refine⟨?_,?_,?_,?_⟩
 ·intro b j;simp only[E0,H0]at j⊢;by_cases a:b<3
  ·rw[gm a];have⟨c,T,k,t⟩:=Iq h a;refine⟨c,T,(0,0),k,⟨by rw[t];exact e6 _,λi v d _ _=>by rw[t];exact d,λi p d=>?_⟩,.inl rfl⟩;exact absurd rfl ((Kq b a _ (gg d)).2 p)
  rw[e9 a]at j⊢;split at j
  ·rename_i l;rw[gm l];split at j
   ·rename_i c T fr k;refine⟨c,T,fr,k,⟨a8,?_,?_⟩,.inr ?_⟩
    ·intro i v d r _;rw[i1,aaC]at d;obtain⟨u,w,rfl⟩:=d;rw[w,zP9 r]
    ·intro i p d;rw[i1,aaC]at d;have⟨u,w,e⟩:=d;exact absurd e (Gq u p)
    intro v r;obtain⟨u,_,rfl⟩:=iy.1 r;exact zHs u
   exact absurd rfl j
  exact absurd rfl j
 ·intro g cs f
  match g,f with
  |0,f=>cases f;exact xY _ rlB bG
  |1,f=>cases f;exact xY _ deB bG
  |2,f=>cases f;exact xY _ arB bG
  |g+3,f=>cases f
 ·intro n o s;cases s
 intro n m o x s;cases s
def jZr(W:World)(B b:Nat):nf (H0 W B b):=by
 intro v a p;unfold H0 at a;split at a
 ·rename_i h;exact(Kq b h v a).2 p
 split at a
 ·split at a
  ·obtain⟨u,_,rfl⟩:=iy.1 a;exact Gq u p
  cases a
 cases a
def zY4{W a:World}{B:Nat}{b:Go.Lg.Env}(h:dI (E0 W B) W [] b a []):Below W.heap.size W a:=
 ⟨h.rest.1,h.rest.2.1,h.rest.2.2,h.size,λk c=>(h.same k c (λn o d=>by cases d)).1 (jZr W B k)⟩
abbrev AY(L:List Int):List (List PV):=L.map λz=>[PV.int z]
def Lq{f:Nat}(l:∀L:List Int,(∀z∈L,-9223372036854775808<=z/\z<=9223372036854775807)->AC Tryz.prog gl f [.pv (.slice (AY L))] [] (.ret (.pv (.bool true))) []){W:World}(h:laidMetH Tryz.prog vL W){d:Option Addr}{len cap:Nat}(a:List Int)(r:a.length=len)(s:len<=cap)(A:len<=maxLen)
  (t:∀z∈a,-9223372036854775808<=z/\z<=9223372036854775807)
  (u:len=0\/∃b off,d=some ⟨b,off,none⟩/\∀(i:Nat)(n:Int),a[i]? =some n->W.cell? ⟨b,off+i,none⟩=some (.int .i64 n)):
  Calls Tryz.prog f #[.slice d len cap] W λe k=>e=.returned (.bool true)/\Below W.heap.size W k:=by
 have qC:∀B,RepP (H0 W B) (.slice (AY a)) (.slice d len cap)->Calls Tryz.prog f #[.slice d len cap] W λe k=>e=.returned (.bool true)/\Below W.heap.size W k:=by
  intro B m;refine((l a t).calls (E0 W B) W [.slice d len cap] (zHv B h) rfl ⟨m,trivial⟩).mono ?_
  rintro e k ⟨C,w,v,rfl,p⟩
  simp only[RepV,RepP]at p;subst p;exact⟨rfl,zY4 w⟩
 have g:(AY a).length=len:=by simp[r]
 rcases u with D|⟨b,off,rfl,x⟩
 ·refine qC 0 ⟨d,cap,by rw[g],a6,a6,.inl ?_⟩;have:a=[]:=aah a6;subst this;rfl
 refine qC b ⟨_,cap,by rw[g],a6,a6,.inr ⟨b,off,rfl,?_⟩⟩;refine Jq _ _ _ (λi n y=>?_);rw[aba];have j:=x i n y;unfold World.cell? at j
 cases e:W.heap[b]? with
 |none=>simp[e]at j|some o=>
  cases o with
  |cells c T fr=>
   simp[e]at j;exact zHu h e (by rw[aaN];exact j)
  |_=>simp[e]at j
def zY5(a:Os)(args:Array Value):laidMetH Tryz.prog vL ((World.doorLaid Tryz.prog 400 a).forCall (λ_ _=>0) ⟨#[],args,[]⟩).memory:=
 laidMetH_of_parts3 (fuel:=8) (laidMet_of_run' 8 bG bG) bG bG
end Go.Proofs.YtbebdmlomjpamaaGreatDoor
