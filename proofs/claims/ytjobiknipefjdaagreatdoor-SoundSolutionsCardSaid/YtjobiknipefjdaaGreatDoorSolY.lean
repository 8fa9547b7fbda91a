/- From a contract to the row; no conditions. -/
import Derived.Test.YtjobiknipefjdaaGreatDoorSolC2
import Derived.Test.YtjobiknipefjdaaGreatDoorTie
import Derived.Test.YtjobiknipefjdaaGreatDoorCards
import Derived.ProofKit
import Derived.LaidMore
import Derived.OpenShut
import Derived.Stop.Joined
import Derived.SevenTiedAt
import Derived.Carry
set_option linter.all false
namespace Go.Proofs.YtjobiknipefjdaaGreatDoor
open Go Go.Lg Go.ChangeShapes Go.WideShapes Go.ChangeAt Go.WideMaps Go.WideElems Go.RowKit
def own:ownKnob Tryz.prog.godebug=none:=by kernel_rfl
def c3:Tryz.prog.cellsOf 3=1:=by kernel_rfl
def O6:laidOutB Tryz.prog=true:=by kernel_rfl
abbrev qK:List (String×DataW Unit):=Rows.soundSolutionsRow.laid
def YL:Lit->Value|.int k n=>.int k n|.bool b=>.bool b|_=>.nilIface
section
variable{H:Type}{enc:TypeId×Value->H}{P:Program}{w:World}{base:Nat}{sp:Nat->Bool}{held:Bool}{fuel:Nat}{t:TypeId}{cs:List Value}
def AW:∀(E:List (List Value))(cs:List Value)(c:Nat),cs.length=E.length*c->(∀i e,E[i]? =some e->(cs.drop (i*c)).take c=e)->cs=E.flatten
 |[],cs,c,a,_=>by simp at a;subst a;rfl|e::E,cs,c,a,h=>by
  have b:=h 0 e rfl;simp at b;have d:=AW E (cs.drop c) c (by rw[List.length_drop,a,List.length_cons,Nat.add_mul,Nat.one_mul];omega) (λi x f=>by
   have:=h (i+1) x f;rw[List.drop_drop];rw[show c+i*c=(i+1)*c by rw[Nat.add_mul,Nat.one_mul,Nat.add_comm]];exact this)
  rw[List.flatten_cons,<-d,<-b,List.take_append_drop]
def Xl{ty:TypeDesc}(d:P.underlying t=some ty)(a:ty=.bool\/∃k,ty=.int k){l:Lit}{p:List MemPlace}(h:DataW.trod enc P w base sp held fuel t cs=some (.lit l,p)):cs=[YL l]:=by
 rcases a with rfl|⟨k,rfl⟩
 ·obtain⟨b,rfl,c⟩:=DataW.trod_bool d h;cases c;rfl
 obtain⟨n,rfl,c,_⟩:=DataW.trod_int d h;cases c;rfl
def Yl{b:List (DataW H×List MemPlace)}{c:List Lit}(h:c.map DataW.lit=b.map (·.1)){i:Nat}{l:Lit}(f:c[i]? =some l):∃p,b[i]? =some (.lit l,p):=by
 have a:(c.map (DataW.lit (H:=H)))[i]? =(b.map (·.1))[i]?:=by rw[h]
 rw[List.getElem?_map,List.getElem?_map,f]at a
 cases e:b[i]? with
 |none=>rw[e]at a;cases a
 |some x=>
  rw[e]at a;obtain⟨d,p⟩:=x;simp at a;exact⟨p,by rw[a]⟩
def Zl(a:List Lit):(a.map λl=>[YL l]).flatten=a.map YL:=by
 induction a with|nil=>rfl|cons l r b=>simp[b]
def qm{n:Nat}{e:TypeId}{ty:TypeDesc}(s:P.underlying t=some (.array n e))(u:P.underlying e=some ty)(c:ty=.bool\/∃k,ty=.int k)(v:P.cellsOf e=1)(x:P.cellsOf t=n){ls:List Lit}{p:List MemPlace}
  (h:DataW.trod enc P w base sp held fuel t cs=some (.agg (ls.map .lit),p)):cs=ls.map YL:=by
 obtain⟨z,m,_,d,y,r,f⟩:=DataW.trod_array s h;simp only[Prod.mk.injEq,DataW.agg.injEq]at d;have a:ls.length=n:=by have:=congrArg List.length d.1;simp at this;omega
 have g:=AW (ls.map λl=>[YL l]) cs 1 (by rw[y,x,List.length_map,a,Nat.mul_one]) (λi A b=>by
  rw[List.getElem?_map]at b
  cases hq:ls[i]? with
  |none=>rw[hq]at b;cases b
  |some l=>
   rw[hq]at b;cases b;obtain⟨q,j⟩:=Yl d.1 hq;have o:i<n:=by rw[<-a];exact(List.getElem?_eq_some_iff.1 hq).1
   have:=f i o;rw[j,v]at this;exact Xl u c this)
 rw[g,Zl]
def rS(P:Program):List Field->Nat->Bool
 |[],_=>true|f::r,i=>(f.offset==i)&&(P.cellsOf f.type==1)&&(match P.underlying f.type with
  |some .bool=>true|some (.int _)=>true|_=>false)&&rS P r (i+1)
def zm:∀{fs:List Field}{k:Nat},rS P fs k=true->∀(i:Nat)(f:Field),fs[i]? =some f->f.offset=k+i/\P.cellsOf f.type=1/\∃ty,P.underlying f.type=some ty/\(ty=.bool\/∃k,ty=.int k)
 |[],k,_,i,f,h=>by cases h
 |g::r,k,c,i,f,h=>by
  simp only[rS,Bool.and_eq_true,beq_iff_eq]at c;obtain⟨⟨⟨m,j⟩,d⟩,l⟩:=c
  cases i with
  |zero=>
   cases h;refine⟨by omega,j,?_⟩;split at d
   ·rename_i e;exact⟨_,e,.inl rfl⟩
   ·rename_i kk e;exact⟨_,e,.inr ⟨kk,rfl⟩⟩
   cases d
  |succ i=>
   obtain⟨a,b⟩:=zm l i f h;exact⟨by omega,b⟩
def Q6{fs:Array Field}(v:P.underlying t=some (.struct fs))(x:rS P fs.toList 0=true)(y:P.cellsOf t=fs.size){e:List Lit}{p:List MemPlace}
  (h:DataW.trod enc P w base sp held fuel t cs=some (.agg (e.map .lit),p)):cs=e.map YL:=by
 obtain⟨A,m,_,k,z,u,n⟩:=DataW.trod_struct v h;simp only[Prod.mk.injEq,DataW.agg.injEq]at k;have f:e.length=fs.size:=by have:=congrArg List.length k.1;simp at this;omega
 have o:=AW (e.map λl=>[YL l]) cs 1 (by rw[z,y,List.length_map,f,Nat.mul_one]) (λi B g=>by
  rw[List.getElem?_map]at g
  cases hq:e[i]? with
  |none=>rw[hq]at g;cases g
  |some l=>
   rw[hq]at g;cases g;obtain⟨q,r⟩:=Yl k.1 hq;have s:i<fs.size:=by rw[<-f];exact(List.getElem?_eq_some_iff.1 hq).1
   have j:fs[i]? =some fs[i]:=Array.getElem?_eq_getElem s;obtain⟨a,b,ty,c,d⟩:=zm x i fs[i] (by rw[Array.getElem?_toList];exact j);have:=n i fs[i] j;rw[r,b,a,Nat.zero_add]at this;rw[Nat.mul_one];exact Xl c d this)
 rw[o,Zl]
def R6{n:Nat}{e:TypeId}{fs:Array Field}(u:P.underlying t=some (.array n e))(v:P.underlying e=some (.struct fs))(y:rS P fs.toList 0=true)(o:P.cellsOf e=fs.size)(g:P.cellsOf t=n*fs.size){rs:List (List Lit)}{p:List MemPlace}
  (h:DataW.trod enc P w base sp held fuel t cs=some (.agg (rs.map λa=>.agg (a.map .lit)),p)):cs=(rs.map λa=>a.map YL).flatten:=by
 obtain⟨r,m,_,j,z,s,k⟩:=DataW.trod_array u h;simp only[Prod.mk.injEq,DataW.agg.injEq]at j;have c:rs.length=n:=by have:=congrArg List.length j.1;simp at this;omega
 refine AW _ cs fs.size (by rw[z,g,List.length_map,c]) (λi A f=>?_);rw[List.getElem?_map]at f
 cases hq:rs[i]? with
 |none=>rw[hq]at f;cases f
 |some a=>
  rw[hq]at f;cases f;have b:(rs.map λa=>DataW.agg (H:=H) (a.map .lit))[i]? =(r.map (·.1))[i]?:=by rw[j.1]
  rw[List.getElem?_map,List.getElem?_map,hq]at b
  cases e:r[i]? with
  |none=>rw[e]at b;cases b
  |some x=>
   rw[e]at b;obtain⟨d,q⟩:=x;simp at b;have l:i<n:=by rw[<-c];exact(List.getElem?_eq_some_iff.1 hq).1
   have:=k i l;rw[e,o,<-b]at this;exact Q6 v y o this
end
def eG:PV->Value|.int n=>.int .i64 n|.bool b=>.bool b|.num k n=>.int k n|_=>bC
def BW:PV->Bool|.int _=>true|.bool _=>true|.num .u8 _=>true|_=>false
def CW(H:Hp):∀(ps:List PV),ps.all BW=true->RepL H ps (ps.map eG)
 |[],_=>by simp only[List.map_nil,RepL]|p::ps,h=>by
  simp only[List.all_cons,Bool.and_eq_true]at h;simp only[List.map_cons,RepL];refine⟨?_,CW H ps h.2⟩;have a:=h.1;unfold BW at a;split at a<;>simp_all[RepP,eG]
noncomputable def S6:Array Field:=match Tryz.prog.underlying 247 with|some (.struct fs)=>fs|_=> #[]
def Xb:PV->Lit|.int n=>.int .i64 n|.bool b=>.bool b|.num k n=>.int k n|_=>.bool false
def jm:Nat->List PV->List (List PV)|0,_=>[]|n+1,l=>l.take 8::jm n (l.drop 8)
def T6{P:Program}{w:World}{n:String}{g:Nat}{cs:Array Value}(a:P.globalNamed n=some g)(h:w.var? P n=some cs):∃T fr,w.heap[g]? =some (.cells cs T fr):=by
 simp only[World.var?,a,Option.bind_some]at h;split at h<;>simp_all
def Yb{ps p q:List MemPlace}{g n:Nat}(h:ps=MemPlace.row ⟨g,0,none⟩ n++p++q)(a:0<n):MemPlace.cell g 0∈ps:=by
 subst h;exact List.mem_append_left _ (List.mem_append_left _ (List.mem_map.2 ⟨0,List.mem_range.2 a,rfl⟩))
def Zb{W:World}{n:String}{g:Nat}{cs:Array Value}{a:List Value}(d:Tryz.prog.globalNamed n=some g)(e:W.var? Tryz.prog n=some cs)(f:cs.toList=a)(i:∃c t,W.heap[g]? =some (.cells c t (0,0))):∃c T,W.heap[g]? =some (.cells c T (0,0))/\c.toList=a:=by
 obtain⟨T,fr,h⟩:=T6 d e;obtain⟨c,t,b⟩:=i;rw[h]at b;cases b;exact⟨cs,T,h,f⟩
def gDe:Tryz.prog.globalNamed "math/bits.deBruijn32tab" =some 1:=by kernel_rfl
def gRl:Tryz.prog.globalNamed "proofprograms/tree.rules" =some 0:=by kernel_rfl
def gAr:Tryz.prog.globalNamed "proofprograms/tree.arities" =some 2:=by kernel_rfl
def tDe:(Tryz.prog.globals[1]?).map (·.type)=some 322:=by kernel_rfl
def tAr:(Tryz.prog.globals[2]?).map (·.type)=some 328:=by kernel_rfl
def tRl:(Tryz.prog.globals[0]?).map (·.type)=some 292:=by kernel_rfl
def U6{W:World}(h:laidMetH Tryz.prog qK W):(∃c T,W.heap[0]? =some (.cells c T (0,0))/\c.toList=rlB.map eG)/\(∃c T,W.heap[1]? =some (.cells c T (0,0))/\c.toList=deB.map eG)/\∃c T,W.heap[2]? =some (.cells c T (0,0))/\c.toList=arB.map eG:=by
 rw[MakeChecks.laidMetH_plain _ _ _ (by kernel_rfl)]at h;obtain⟨ps,⟨F,t0,b,f0,G,y,d,e,f,g,⟨H,t2,cs2,f2,p2,z,i,j,k,l,⟨I,t1,cs1,f1,p1,J,m,n,o,p,A,B⟩,u⟩,r⟩,_,a⟩:=h;obtain rfl:=Option.some.inj (gDe.symm.trans d);obtain rfl:=Option.some.inj (gRl.symm.trans i);obtain rfl:=Option.some.inj (gAr.symm.trans m);obtain rfl:=Option.some.inj (tDe.symm.trans e);obtain rfl:=Option.some.inj (tRl.symm.trans j);obtain rfl:=Option.some.inj (tAr.symm.trans n);have v:b.toList=deB.map eG:=(qm (n:=32) (e:=5) (ty:=.int .u8) (by kernel_rfl) (by kernel_rfl) (.inr ⟨_,rfl⟩) (by kernel_rfl) (by kernel_rfl) (ls:=deB.map Xb) g).trans (by kernel_rfl);have w:cs1.toList=arB.map eG:=(qm (n:=14) (e:=3) (ty:=.int .i64) (by kernel_rfl) (by kernel_rfl) (.inr ⟨_,rfl⟩) (by kernel_rfl) (by kernel_rfl) (ls:=arB.map Xb) p).trans (by kernel_rfl);have x:cs2.toList=rlB.map eG:=(R6 (n:=21) (e:=247) (fs:=S6) (by kernel_rfl) (by kernel_rfl) (by kernel_rfl) (by kernel_rfl) (by kernel_rfl) (rs:=(jm 21 rlB).map (·.map Xb)) l).trans (by kernel_rfl);have C:MemPlace.cell 1 0∈ps:=Yb r (by rw[<-Array.length_toList,v];exact Nat.le_of_ble_eq_true (by kernel_rfl));have D:MemPlace.cell 0 0∈y:=Yb u (by rw[<-Array.length_toList,x];exact Nat.le_of_ble_eq_true (by kernel_rfl));have E:MemPlace.cell 2 0∈z:=Yb B (by rw[<-Array.length_toList,w];exact Nat.le_of_ble_eq_true (by kernel_rfl));have s:MemPlace.cell 0 0∈ps:=by rw[r];exact List.mem_append_right _ D
 have t:MemPlace.cell 2 0∈ps:=by rw[r,u];exact List.mem_append_right _ (List.mem_append_right _ E)
 exact⟨Zb gRl k x (a _ _ s).1,Zb gDe f v (a _ _ C).1,Zb gAr o w (a _ _ t).1⟩
def msk(v:Value):Value:=match v with|.int .i64 n=>.int .i64 n|_=>bC
def V6{v:Value}(h:msk v≠bC):msk v=v:=by
 unfold msk at *
 split<;>simp_all
def W6(v:Value):∃k n,msk v=.int k n/\k≠.i16:=by
 unfold msk;split
 ·exact⟨_,_,rfl,by decide⟩
 exact⟨.i8,0,rfl,by decide⟩
def vm(v:Value)(b:Bool):msk v≠Go.Lg.mark b:=by
 unfold msk Go.Lg.mark bC;split<;>simp
def jc:Nat->List Value|0=>rlB.map eG|1=>deB.map eG|2=>arB.map eG|_=>[]
def H0(W:World)(B:Nat):Hp:=λb=>if b<3 then jc b else if b=B then(match W.heap[b]? with|some (.cells c _ _)=>c.toList.map msk|_=>[])else []
def E0(W:World)(B:Nat):Go.Lg.Env:=⟨H0 W B,λ_=>.pointer none,λ_=>0,λ_=>0⟩
def wm{W:World}(h:laidMetH Tryz.prog qK W){b:Nat}(a:b<3):∃c T,W.heap[b]? =some (.cells c T (0,0))/\c.toList=jc b:=by
 obtain⟨d,e,f⟩:=U6 h
 match b,a with|0,_=>exact d|1,_=>exact e|2,_=>exact f
def X6{W:World}(h:laidMetH Tryz.prog qK W){B i:Nat}{c:Array Value}{T:TypeId}{fr:Nat×Nat}{n:Int}(b:W.heap[B]? =some (.cells c T fr))(d:c.toList[i]? =some (.int .i64 n)):(H0 W B B)[i]? =some (.int .i64 n):=by
 unfold H0;split
 ·rename_i e;obtain⟨g,j,a,f⟩:=wm h e;rw[b]at a;cases a;rw[<-f];exact d
 rw[if_pos rfl,b];simp only[List.getElem?_map,d,Option.map_some];rfl
def ym(H:Hp):∀(a:List Int)(b:List Value),(∀(i:Nat)(n:Int),a[i]? =some n->b[i]? =some (.int .i64 n))->RepE H (a.map λz=>[PV.int z]) b
 |[],_,_=>by simp only[List.map_nil,RepE]|n::a,[],h=>by have:=h 0 n rfl;simp at this|n::a,v::b,h=>by
  have c:=h 0 n rfl;simp at c;subst c;simp only[List.map_cons,RepE,RepL,List.length_cons,List.length_nil,List.drop_succ_cons,List.drop_zero];exact⟨⟨by simp[RepP],trivial⟩,ym H a b (λi m d=>by simpa using h (i+1) m (by simpa using d))⟩
def um:∀g,g<3->∀v∈jc g,v≠bC/\∀b,v≠Go.Lg.mark b:=by
 have key:∀ps:List PV,ps.all BW=true->∀v∈ps.map eG,v≠bC/\∀b,v≠Go.Lg.mark b:=by
  intro ps h v a;obtain⟨p,c,rfl⟩:=List.mem_map.1 a;have:=List.all_eq_true.1 h p c;unfold BW at this;split at this<;>simp_all[eG,bC,Go.Lg.mark]
 intro g d
 match g,d with|0,_=>exact key rlB (by kernel_rfl)|1,_=>exact key deB (by kernel_rfl)|2,_=>exact key arB (by kernel_rfl)
def Y6{W:World}(B:Nat)(h:laidMetH Tryz.prog qK W):RH gl (E0 W B) W []:=by
 refine⟨?_,?_,?_,?_⟩
 ·intro b j;simp only[E0,H0]at j⊢;by_cases a:b<3
  ·rw[if_pos a];obtain⟨c,T,k,t⟩:=wm h a;refine⟨c,T,(0,0),k,⟨by rw[t];exact Nat.le_refl _,λi v d _ _=>by rw[t];exact d,λi p d=>?_⟩,.inl rfl⟩;exact absurd rfl ((um b a _ (List.mem_of_getElem? d)).2 p)
  rw[if_neg a]at j⊢;split at j
  ·rename_i l;rw[if_pos l];split at j
   ·rename_i c T fr k;refine⟨c,T,fr,k,⟨by simp,?_,?_⟩,.inr ?_⟩
    ·intro i v d r _;rw[List.getElem?_map,Option.map_eq_some_iff]at d;obtain⟨u,w,rfl⟩:=d;rw[w,V6 r]
    ·intro i p d;rw[List.getElem?_map,Option.map_eq_some_iff]at d;obtain⟨u,w,e⟩:=d;exact absurd e (vm u p)
    intro v r;obtain⟨u,_,rfl⟩:=List.mem_map.1 r;exact W6 u
   exact absurd rfl j
  exact absurd rfl j
 ·intro g cs f
  match g,f with
  |0,f=>cases f;exact CW _ rlB (by kernel_rfl)
  |1,f=>cases f;exact CW _ deB (by kernel_rfl)
  |2,f=>cases f;exact CW _ arB (by kernel_rfl)
  |g+3,f=>cases f
 ·intro n o s;cases s
 intro n m o x s;cases s
def Z6(W:World)(B b:Nat):nf (H0 W B b):=by
 intro v a p;unfold H0 at a;split at a
 ·rename_i h;exact(um b h v a).2 p
 split at a
 ·split at a
  ·obtain⟨u,_,rfl⟩:=List.mem_map.1 a;exact vm u p
  cases a
 cases a
def z7{W a:World}{B:Nat}{b:Go.Lg.Env}(h:fH (E0 W B) W [] b a []):Below W.heap.size W a:=
 ⟨h.rest.1,h.rest.2.1,h.rest.2.2,h.size,λk c=>(h.same k c (λn o d=>by cases d)).1 (Z6 W B k)⟩
abbrev DW(L:List Int):List (List PV):=L.map λz=>[PV.int z]
def bm{f:Nat}(l:∀L:List Int,(∀z∈L,-9223372036854775808<=z/\z<=9223372036854775807)->AC Tryz.prog gl f [.pv (.slice (DW L))] [] (.ret (.pv (.bool true))) []){W:World}(h:laidMetH Tryz.prog qK W){d:Option Addr}{len cap:Nat}(a:List Int)(r:a.length=len)(s:len<=cap)(A:len<=maxLen)
  (t:∀z∈a,-9223372036854775808<=z/\z<=9223372036854775807)
  (u:len=0\/∃b off,d=some ⟨b,off,none⟩/\∀(i:Nat)(n:Int),a[i]? =some n->W.cell? ⟨b,off+i,none⟩=some (.int .i64 n)):
  Calls Tryz.prog f #[.slice d len cap] W λe k=>e=.returned (.bool true)/\Below W.heap.size W k:=by
 have MB:∀B,RepP (H0 W B) (.slice (DW a)) (.slice d len cap)->Calls Tryz.prog f #[.slice d len cap] W λe k=>e=.returned (.bool true)/\Below W.heap.size W k:=by
  intro B m;refine((l a t).calls (E0 W B) W [.slice d len cap] (Y6 B h) rfl ⟨m,trivial⟩).mono ?_
  rintro e k ⟨C,w,v,rfl,p⟩
  simp only[RepV,RepP]at p;subst p;exact⟨rfl,z7 w⟩
 have g:(DW a).length=len:=by simp[r]
 rcases u with D|⟨b,off,rfl,x⟩
 ·refine MB 0 ⟨d,cap,by rw[g],by omega,by omega,.inl ?_⟩;have:a=[]:=List.eq_nil_of_length_eq_zero (by omega);subst this;rfl
 refine MB b ⟨_,cap,by rw[g],by omega,by omega,.inr ⟨b,off,rfl,?_⟩⟩;refine ym _ _ _ (λi n y=>?_);rw[List.getElem?_drop];have j:=x i n y;unfold World.cell? at j
 cases e:W.heap[b]? with
 |none=>simp[e]at j|some o=>
  cases o with
  |cells c T fr=>
   simp[e]at j;exact X6 h e (by rw[Array.getElem?_toList];exact j)
  |_=>simp[e]at j
def j7(a:Os)(args:Array Value):laidMetH Tryz.prog qK ((World.doorLaid Tryz.prog 400 a).forCall (λ_ _=>0) ⟨#[],args,[]⟩).memory:=
 laidMetH_of_parts3 (fuel:=8) (laidMet_of_run' 8 (by kernel_rfl) (by kernel_rfl)) (by kernel_rfl) (by kernel_rfl)
end Go.Proofs.YtjobiknipefjdaaGreatDoor
