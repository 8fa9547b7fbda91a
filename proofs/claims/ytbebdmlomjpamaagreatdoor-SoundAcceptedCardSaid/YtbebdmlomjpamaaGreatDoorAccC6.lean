/- Contracts of functions; no conditions. -/
import Derived.Test.YtbebdmlomjpamaaGreatDoorAccC5
import Derived.Test.YtbebdmlomjpamaaGreatDoorAccC2
import Derived.WalkKit
import Derived.Laws.Bits64b
import Derived.Lib.TrailingZeros
set_option linter.all false
set_option maxHeartbeats 4000000
namespace Go.Proofs.YtbebdmlomjpamaaGreatDoor
open Go.Lg
set_option maxRecDepth 100000
abbrev sucT1:Tm:=.n1 .succ (.v 0)
abbrev conT:Tm:=.n2 .cons (.v 1) (.v 0)
abbrev j5:PV:=.agg ([num 1]++(Tm.n0 .zero).c++[rA [.nat]]++sucT1.c)
abbrev v5:PV:=.agg ([num 2]++(Tm.n0 .nil).c++[rA [.nat,.list]]++conT.c)
def d5:A 377 [] Ty.list.p:=f0 []
def m5:A 356 [num 16] j5:=f4 [5,6,8,10] (mX .zero) EK (BJ 0) (Jm .succ (.v 0))
def i5:A 356 [num 17] v5:=f6 [12,13,14,16,17,19] (mX .nil) EK d5 (BJ 1) (BJ 0) (nX .cons (.v 1) (.v 0))
def Zm(k:K0)(n:Nat):TK n (.n0 k):=⟨by show 1<=4096;decide,rfl,trivial⟩
def A5(n:Nat):TK (n+1) sucT1:=⟨bb,rfl,by show 0<n+1;omega⟩
def B5(n:Nat):TK (n+2) conT:=⟨bb,rfl,⟨by show 1<n+2;omega,by show 0<n+2;omega⟩⟩
def C5{o:List Fm}{f r:Fm}{t:Tm}{a b:Jt}(Q:KI o a)(R:KI o b):KR o (.ind false f t a b r):=by
 intro g H i S L;have⟨_,⟨T,p⟩,⟨U,j⟩,⟨V,wa,s,u⟩,⟨n1,n2⟩,⟨W,wb,w,y⟩,k⟩:=S;have M:=zA;have hb:=yA;have N:=i.gl;have hl:=i.hl;have X:nA=100000:=rfl;rw[aT]at n2;have Y:=fT g .nat a6 bb;have⟨Z,c⟩:=ce i.gs N (s:=.nat) bb T p;have⟨_,l⟩:=IK i.gs N U j;have⟨e,g2,_,q2⟩:=Ed g t 1 i.gs l.shp (by have:=l.cnt;omega);obtain rfl:=q2 _ j rfl;have⟨z,hz,g3⟩:=IQ Q i V L.2.2.1 c (Zm .zero g.length) s u;have g4:=tT g.length (H.map dC).length 1 1 n1 bS;have d:(g++[Ty.nat]).length=g.length+1:=a8
 have B:FK (g++[Ty.nat]).length f:=by rw[d];exact c
 have C:=(i.below1 (s:=.nat) bb n1).with B n2;have g5:=de g H .nat a6 bb;have g6:A 162 [f.p,num 1,num 0] f.p:=by have:=BI f 1 0 a6 (by have:=c.cnt;omega) (by have:=c.mx a6;rw[M];omega);rwa[Qd]at this
 have g7:=GQ (g++[Ty.nat]) H f;have g8:=BI f 1 1 a6 (by have:=c.cnt;omega) (by have:=c.mx a6;rw[M];omega);have hn:FK ((g++[Ty.nat]).length+1) (f.sh 1 (.ofNat 1)):=by rw[d];exact c.sh 1 1
 have⟨O,D,g9⟩:=IQ R C (by rw[eX,d,eT 1 g.length H λx B=>(i.hs x B).2];exact W) L.2.2.2 hn (by rw[d];exact A5 g.length) w y;have⟨n,E,F⟩:=l.a240 a6;have⟨P,G,I⟩:=cX O 1 bb D;have m:=BQ c l;rw[k]at m;have J:=fH n z;have K:=fH (RA .or .u32 n z) P;refine⟨(c.pt l k).2.sc,_,((E.or hz).or G).mono λv h=>or_assoc.1 h,?_⟩;exact Nc 5 [29,36,38,48,(63,.o [3,4] [] (.pv (GB a.f.y z 0))),75,83,89,90,102,(105,.o [3,4] [] (.pv (GB b.f.y O 0))),115,120,(123,.v (u32 (RA .or .u32 n z))),129,(130,.v (u32 (RA .or .u32 (RA .or .u32 n z) P)))] m5 Y Z g2 g3 g4 g5 g6 g7 g8 g9 m F J I K
def D5{o:List Fm}{f r:Fm}{t:Tm}{a b:Jt}(Q:KI o a)(R:KI o b):KR o (.ind true f t a b r):=by
 intro g H i S L;have⟨_,⟨T,p⟩,⟨U,j⟩,⟨V,wa,s,u⟩,⟨n1,n2⟩,⟨W,wb,w,y⟩,k⟩:=S;have M:=zA;have hb:=yA;have N:=i.gl;have hl:=i.hl;have X:nA=100000:=rfl;rw[aT]at n2;have Y:=fT g .list a6 bb;have⟨Z,c⟩:=ce i.gs N (s:=.list) bb T p;have⟨_,l⟩:=IK i.gs N U j;have⟨e,g2,_,q2⟩:=Ed g t 2 i.gs l.shp (by have:=l.cnt;omega);obtain rfl:=q2 _ j rfl;have⟨z,hz,g3⟩:=IQ Q i V L.2.2.1 c (Zm .nil g.length) s u;have g4:=tT g.length (H.map dC).length 2 1 n1 (by simpa using n2);have d:(g++[Ty.nat,.list]).length=g.length+2:=a8
 have B:FK (g++[Ty.nat,.list]).length (f.sh 1 (.ofNat 1)):=by rw[d];exact c.sh 1 1
 have C:=(i.below2 (s:=.nat) (u:=.list) bb bb n1).with B n2;have g5:=C4 g H .nat .list a6 bb bb;have g6:A 162 [f.p,num 1,num 1] (f.sh 1 (.ofNat 1)).p:=BI f 1 1 a6 (by have:=c.cnt;omega) (by have:=c.mx a6;rw[M];omega);have g7:=GQ (g++[Ty.nat,.list]) H (f.sh 1 (.ofNat 1));have g8:=BI f 1 2 a6 (by have:=c.cnt;omega) (by have:=c.mx a6;rw[M];omega);have hn:FK ((g++[Ty.nat,.list]).length+1) (f.sh 1 (.ofNat 2)):=by rw[d];have:=c.sh 1 2;rwa[show g.length+1+2=g.length+2+1 by omega]at this
 have⟨O,D,g9⟩:=IQ R C (by rw[eX,d,eT 2 g.length H λx B=>(i.hs x B).2];exact W) L.2.2.2 hn (by rw[d];exact B5 g.length) w y;have⟨n,E,F⟩:=l.a240 a6;have⟨P,G,I⟩:=cX O 2 bb D;have m:=BQ c l;rw[k]at m;have J:=fH n z;have K:=fH (RA .or .u32 n z) P;refine⟨(c.pt l k).2.sc,_,((E.or hz).or G).mono λv h=>or_assoc.1 h,?_⟩;exact Nc 5 [29,36,38,48,(63,.o [3,4] [] (.pv (GB a.f.y z 0))),75,83,89,90,102,(105,.o [3,4] [] (.pv (GB b.f.y O 0))),115,120,(123,.v (u32 (RA .or .u32 n z))),129,(130,.v (u32 (RA .or .u32 (RA .or .u32 n z) P)))] i5 Y Z g2 g3 g4 g5 g6 g7 g8 g9 m F J I K
def nD{ls:List Fm}(c:∀f∈ls,FK 0 f):∀j:Jt,KI ls j|.leaf false i f=>ki _ I4|.leaf true i f=>ki _ (J4 c)|.refl t=>ki _ T4|.p1 .andL a f=>ki _ (L4 (nD c a))|.p1 .andR a f=>ki _ (M4 (nD c a))|.p1 .choice a f=>ki _ (X4 (nD c a))|.p2 .andI a b f=>ki _ (K4 (nD c a) (nD c b))|.p2 .impE a b f=>ki _ (O4 (nD c a) (nD c b))|.p2 .exE a b f=>ki _ (Y4 (nD c a) (nD c b))|.p2 .exUE a b f=>ki _ (Z4 (nD c a) (nD c b))|.impI f a=>ki _ (N4 (nD c a))|.all u s a=>ki _ (Q4 (nD c a))|.ins u t a f=>ki _ (R4 (nD c a))|.ex u f t a=>ki _ (S4 (nD c a))|.ind false f t a b r=>ki _ (C5 (nD c a) (nD c b))|.ind true f t a b r=>ki _ (D5 (nD c a) (nD c b))|.subst f a b r=>ki _ (U4 (nD c a) (nD c b))
abbrev AA(g:List Ty)(hs:List Fm):PV:=.agg [rA g,uA hs]
abbrev HH(n:Nat)(hs:List Fm):List (Fm×Nat):=hs.map λf=>(f,n)
abbrev zn:List PV:=[.int 0,.int 0,.nils,.nils]
abbrev JQ(g:List Ty)(K:List (Fm×Nat)):List PV:=[num g.length,num (K.map dC).length,CB g,.slice (K.map dC)]
abbrev xe(hs:List Fm)(k:Nat)(c:List PV):IS:=st [(2,.loc 1 0),(3,.loc 2 0),(16,.pv (uA hs)),(17,.pv (num (hs.map Fm.c).length)),(18,.pv (num k))] [(1,bx zn),(2,bx c)] 3 []
abbrev iT(c:List PV):IS:=st [(2,.loc 1 0),(3,.loc 2 0)] [(1,bx zn),(2,bx c)] 3 []
abbrev iX:Kp:=⟨[2,3,16,17,18],[1,2],3,[]⟩
abbrev jn:Kp:=⟨[2,3],[1,2],3,[]⟩
def vn(g:List Ty)(a:g.length<=16)(a:∀s∈g,s.size<=64):A 232 [AA g []] (mD g []):=by
 have:=yA;have:=zA;have b:=Kd g a6 (λs h=>by have:=a s h;omega);have a:num (g.map Ty.c).length=num g.length:=by rw[gB]
 have c:Lp 232 0 0 (xe [] 0 [num (g.map Ty.c).length,.int 0,CB g,.nils]) (.exit 0) (iT [num (g.map Ty.c).length,.int 0,CB g,.nils]):=x0 [] jn;have d:A 232 [AA g []] (.agg [num (g.map Ty.c).length,num 0,CB g,.slice []]):=f2 [8,(100004,.l iX (.exit 0) (iT [num (g.map Ty.c).length,.int 0,CB g,.nils]))] b c;rwa[a]at d
abbrev yn(g:List Ty):IS:=st [(3,.loc 0 0)] [(0,bx [rA g,uA []])] 1 []
abbrev F5(g:List Ty):IS:=st [(3,.loc 0 0),(15,.pv (uA [])),(16,.pv (num 0)),(17,.pv (num 0))] [(0,bx [rA g,uA []])] 1 []
abbrev G5(g:List Ty):IS:=st [(3,.loc 0 0),(38,.pv (uA [])),(39,.pv (num 0)),(40,.pv (num 0))] [(0,bx [rA g,uA []])] 1 []
def LQ{g:List Ty}(b:g.length<=16)(a:∀s∈g,s.size<=64):UG g=0:=by
 have:∀{g:List Ty},(∀s∈g,s.size<=64)->DF g=0:=by
  intro g
  induction g with
  |nil=>intro _;rfl|cons t r c=>
   intro h;have e:t.chk=0:=by rw[RH,ckE_0.2 (h t a8)]
   grind[DF]
 unfold UG;rw[show dA (.ofNat 16) (.ofNat (g.map Ty.c).length)=false from iA bS];simp_all
def I5(g:List Ty)(c:g.length<=16)(a:∀s∈g,s.size<=64):A 229 [uA [],AA g []] (num 0):=by
 have:=yA;have d:Lp 229 0 0 (F5 g) (.exit 0) (yn g):=x0 [] ⟨[3],[0],1,[]⟩;have b:=aQ g (λs h=>by have:=a s h;omega);rw[LQ c a]at b;have a:Lp 229 1 0 (G5 g) (.exit 2) (st [] [] 1 []):=x0 [] ⟨[],[],1,[]⟩;exact f3 [(100004,.l ⟨[3,15,16,17],[0],1,[]⟩ (.exit 0) (yn g)),29,(100016,.l ⟨[3,38,39,40],[0],1,[]⟩ (.exit 2) (st [] [] 1 []))] d b a
open Go.Lg
def J5(w:World):Calls Tryz.prog 299 #[.int .u32 0] w λe a=>e=.returned (.int .i64 32)/\a=w:=by
 go_enter Tryz.func299,Tryz.ntmps299
 go_wp2
 go_ret
 exact⟨rfl,rfl⟩
def dn(n:Int):IntKind.u32.wrap n=n%4294967296:=by simp[IntKind.wrap,IntKind.signed,IntKind.bits]
def ln(a b:Nat)(c:a<4294967296)(c:b<4294967296:=by omega):bits .and .u32 (a:Int) (b:Int)=((a&&&b:Nat):Int):=by
 have:a&&&b<2^32:=Nat.and_lt_two_pow _ a6;have c:(BitVec.ofInt 32 (a:Int)).toNat=a:=by
  rw[BitVec.ofInt_natCast,BitVec.toNat_ofNat];exact aaX a6
 have d:(BitVec.ofInt 32 (b:Int)).toNat=b:=by
  rw[BitVec.ofInt_natCast,BitVec.toNat_ofNat];exact aaX a6
 show IntKind.u32.wrap ((BitVec.ofInt 32 (a:Int)&&&BitVec.ofInt 32 (b:Int)).toNat:Int)=_;rw[BitVec.toNat_and,c,d,dn];omega
def K5(x a:Nat)(c:x<4294967296)(b:x≠0)(b:x&&&(4294967296-x)=a):
  bits BinOp.and IntKind.u32 (x:Int) (-(x:Int)%4294967296)*125613361%4294967296 / 134217728=((a*125613361%4294967296 / 134217728:Nat):Int):=by
 have d: -(x:Int)%4294967296=((4294967296-x:Nat):Int):=a6
 rw[d,ln x _ c,b];omega
def L5(x k a:Nat)(w:World)(b:((x:Int)==0)=false)
  (key:bits BinOp.and IntKind.u32 (x:Int) (-(x:Int)%4294967296)*125613361%4294967296 / 134217728=(a:Int))
  (b:a<32) (b:k<32) (b:w.cell? ⟨1,a,none⟩=some (.int .u8 k)):
  Calls Tryz.prog 299 #[.int .u32 x] w λe a=>e=.returned (.int .i64 k)/\a=w:=by
 go_enter Tryz.func299,Tryz.ntmps299
 go_wp2_with (simp only[key])
 go_ret
 exact⟨rfl,rfl⟩
def mn{H:Hp}:∀{a:List PV}{b:List Value}{i:Nat}{k:IntKind}{n:Int},RepL H a b->a[i]? =some (.num k n)->b[i]? =some (.int k n)
 |[],_,_,_,_,_,h=>by simp at h|c::a,[],i,k,n,r,h=>by simp only[RepL]at r|c::a,v::b,0,k,n,r,h=>by
  simp only[RepL]at r;simp only[aat,e5]at h;subst h;have:=r.1;simp only[RepP]at this;rw[this.1];rfl
 |c::a,v::b,i+1,k,n,r,h=>by
  simp only[RepL]at r;exact mn (i:=i) r.2 (by simpa using h)
def M5:∀i,i<32->deB[i]? =some (.num .u8 (.ofNat (Go.Lib.deBruijn32tab.getD i 0)))|0,_=>rfl|1,_=>rfl|2,_=>rfl|3,_=>rfl|4,_=>rfl|5,_=>rfl|6,_=>rfl|7,_=>rfl|8,_=>rfl|9,_=>rfl|10,_=>rfl|11,_=>rfl|12,_=>rfl|13,_=>rfl|14,_=>rfl|15,_=>rfl|16,_=>rfl|17,_=>rfl|18,_=>rfl|19,_=>rfl|20,_=>rfl|21,_=>rfl|22,_=>rfl|23,_=>rfl|24,_=>rfl|25,_=>rfl|26,_=>rfl|27,_=>rfl|28,_=>rfl|29,_=>rfl|30,_=>rfl|31,_=>rfl|n+32,h=>absurd h a6
def rn(z:Int)(J:0<=z/\z<4294967296:=by omega):∃n:Nat,n<=32/\AC Tryz.prog gl 299 [.pv (.num .u32 z)] [] (.ret (.pv (.int (.ofNat n)))) []:=by
 obtain⟨x,rfl⟩:∃x:Nat,z=x:=⟨z.toNat,a6⟩;have i:x<4294967296:=a6
 refine⟨Go.Lib.ctz 32 x,?_,?_,?_,?_,?_⟩
 ·by_cases a:x=0
  ·subst a;simp[Go.Lib.ctz]
  exact Nat.le_of_lt (Go.Lib.lowest_bit 32 x a i).2
 ·exact⟨Tryz.f299,rfl,rfl,rfl⟩
 ·intro n B;cases B
 ·intro m o C;cases C
 intro E w p j s t;have D:p=[.int .u32 (x:Int)]:=by
  cases p with
  |nil=>cases s
  |cons v r=>
   cases r with
   |cons _ _=>simp at s|nil=>
    simp only[RepVL,RepV,RepP]at t;rw[t.1.1]
 subst D;have qC:∀(e:Ending)(k:World),e=.returned (.int .i64 (Go.Lib.ctz 32 x:Nat))/\k=w->∃u,dI E w [] u k []/\xR u (.ret (.pv (.int (.ofNat (Go.Lib.ctz 32 x))))) e:=by
  rintro e k ⟨rfl,rfl⟩
  refine⟨E,⟨j.heap,λn o h=>(by cases h),λn m o K h=>(by cases h),Hle.refl _,e6 _,⟨rfl,rfl,rfl⟩,λb _ _=>⟨λ_=>rfl,rfl⟩,λn o b h=>(by cases h),λn o h=>(by cases h),λn _ _=>⟨rfl,rfl,rfl⟩⟩,_,rfl,?_⟩;simp only[RepV,RepP];rfl
 by_cases a:x=0
 ·subst a;exact(J5 w).mono qC
 have⟨d,y⟩:=Go.Lib.lowest_bit 32 x a i;have⟨A,f⟩:=Go.Lib.deBruijn32_at _ y;have F:RepL E.H deB (E.H 1):=j.glob 1 deB rfl;have g:=mn F (M5 _ A);rw[f]at g;have l:E.H 1≠[]:=by intro e;rw[e]at g;simp at g
 have⟨c,T,fr,G,H,_⟩:=j.heap 1 l;have I:=H.2.1 _ _ g (by simp[oC]) (by intro b;cases b<;>exact nofun);refine(L5 x _ _ w a9 (K5 x _ i a d) A y ?_).mono qC;simp only[World.cell?,G];simpa using I
def tn{x:Nat}(a:x≠0)(a:x<4294967296):∃y:Nat,y<x/\RA .and .u32 (x:Int) (IntKind.u32.wrap ((x:Int)-1))=(y:Int):=by
 refine⟨x&&&(x-1),?_,?_⟩
 ·have:x&&&(x-1)<=x-1:=Nat.and_le_right;omega
 have e:IntKind.u32.wrap ((x:Int)-1)=((x-1:Nat):Int):=by rw[dn];omega
 rw[e];exact ln x (x-1) a
def xn(z:Int):(bif xH .u32 .u32 then xA (IntKind.u32.wrap (z-1))else false)=true/\u32 (IntKind.u32.wrap (z-1))=u32 (IntKind.u32.wrap (z-1)):=⟨(show xA (IntKind.u32.wrap (z-1))=true from sT (ue _)),rfl⟩
def An{z w:Int}{y:Nat}(h:RA .and .u32 z w=(y:Int)):(bif xH .u32 .u32 then xA (RA .and .u32 z w)else false)=true/\u32 (RA .and .u32 z w)=u32 (.ofNat y):=⟨(be z w).1,by rw[h];rfl⟩
abbrev Bn:Kp:=⟨[0,3],[0],1,[]⟩
def Cn:∀(N x:Nat)(L:List Nat)(v:Nat),x<=N->x<4294967296->L.length+N<=8589934592->
  ∃(a:Nat)(b:List Nat),Lp 234 0 0 (st [(0,.pv (u32 (.ofNat x))),(3,.arr 0 v (L.map ic).length)] [(0,.arr v 1 3 (vA (L.map ic)))] 1 []) (.exit 0) (st [(3,.arr 0 a (b.map ic).length)] [(0,.arr a 1 3 (vA (b.map ic)))] 1 [])
 |N,0,L,v,c,d,e=>⟨v,L,y1 [5] ⟨[3],[0],1,[]⟩ (MB 0) (BB (L.map ic))⟩|0,x+1,L,v,c,d,e=>absurd c a6|N+1,x+1,L,v,c,d,e=>by
  have⟨y,k,g⟩:=tn (x:=x+1) a6 d;have⟨n,l,h⟩:=rn (x+1:Nat);have⟨a,b,f⟩:=Cn N y (L++[n]) (v+1) a6 a6 a9;have i:=YD (A:=L.map ic) (v:=v) (ty:=3) (m:=8) (c:=ic n) (show 0<1 by decide) rfl rfl (by simp only[gB,maxLen];omega) a9;have j:(L++[n]).map ic=L.map ic++[ic n]:=a8
  rw[j,gD,show(L.map ic++[ic n]).length=(L.map ic).length+1 by simp]at f;exact⟨a,b,n7 [5,12,(14,.ok),(8,.v (u32 (IntKind.u32.wrap (.ofNat (x+1)-1)))),(9,.v (u32 (.ofNat y)))] Bn (AD (m:=x+1) (n:=0)) h i (xn (.ofNat (x+1))) (An g) (dB (L.map ic) (ic n)) f⟩
def Dn(z:Int)(f:Um z):∃L:List Nat,A 234 [u32 z] (NA L):=by
 obtain⟨x,rfl⟩:∃x:Nat,z=.ofNat x:=⟨z.toNat,a9⟩;have b:x<4294967296:=c5
 cases x with
 |zero=>exact⟨[],f0 []⟩|succ x=>
  have⟨y,g,c⟩:=tn (x:=x+1) a6 b;have⟨n,i,d⟩:=rn (x+1:Nat);have⟨v,L,h⟩:=Cn 4294967296 y [n] 1 a6 a6 a8;have a:=LoopIs.fz a8 h 0 (ver:=v) (sz:=1) (ty:=3) (ps:=L.map ic) rfl bG;simp (decide:=true) only[eD,XC,VB,BC,and_self,↓reduceIte,gu (e6 (L.map ic).length)]at a;have e:Lp 234 0 0 (st [(0,.pv (u32 (.ofNat (x+1)))),(3,.pv .nils)] [] 0 []) (.exit 0) (st [(3,.pv (NA L))] [] 1 []):=
   n6 [5,12,(8,.v (u32 (IntKind.u32.wrap (.ofNat (x+1)-1)))),(9,.v (u32 (.ofNat y)))] Bn (AD (m:=x+1) (n:=0)) d (xn (.ofNat (x+1))) (An c) (dB [] (ic n)) a
  exact⟨L,f1 [(100002,.l ⟨[0,3],[],0,[]⟩ (.exit 0) (st [(3,.pv (NA L))] [] 1 []))] e⟩
def N5(g:List Ty)(b:g.length<=16)(a:∀s∈g,s.size<=64)(j:Jt)(i:j.D [] g [])(d:j.p.ck)(k:j.p.cnt<=16384):FK g.length j.f/\∃L,A 150 [uA [],AA g [],j.p.p] (.tuple [.agg [num j.f.kd,num j.f.tk,.slice j.f.te,.slice j.f.ts,.slice j.f.es,NA L],num 0]):=by
 have c:PlOK g []:=⟨b,a,a8,λh l=>nomatch l⟩;have⟨e,z,m,n⟩:=nD (ls:=[]) (λf h=>nomatch h) j g [] c i d;have⟨L,o⟩:=Dn z m.u;exact⟨e,L,f6 [15,21,34,(35,.o [3,4] [] (.pv (GB j.f.y z 0))),44,47] (I5 g b a) (aX j.p k d) (vn g b a) n (mm j.f e.cn) o⟩
open Go.Lg
def JK:∀a b:Fm,a.mt b->a.er=b.er|.eq _ _,.eq _ _,_=>rfl|.bin _ f g,.bin _ i j,⟨c,d,e⟩=>by subst c;simp only[Fm.er,JK f i d,JK g j e]|.q _ _ f,.q _ _ g,⟨c,d,e⟩=>by subst c;subst d;simp only[Fm.er,JK f g e]|.eq _ _,.bin _ _ _,h=>h.elim|.eq _ _,.q _ _ _,h=>h.elim|.bin _ _ _,.eq _ _,h=>h.elim|.bin _ _ _,.q _ _ _,h=>h.elim|.q _ _ _,.eq _ _,h=>h.elim|.q _ _ _,.bin _ _ _,h=>h.elim
def FM{g:List Ty}{f:Fm}(a:∀s∈g,s.size<=64)(i:g.length<=17)(h:f.chk=0)(b:f.ty g):FK g.length f:=by
 have:=zA;have⟨e,_,c,d⟩:=bM f g a (Fm.chk0 h).2 (by have:=(Fm.chk0 h).1;omega);exact⟨(Fm.chk0 h).1,(Fm.chk0 h).2,c (d b)⟩
def GO{n:Nat}{f:Fm}(h:f.chk=0)(a:f.sc n):FK n f:=⟨(Fm.chk0 h).1,(Fm.chk0 h).2,a⟩
def MQ{g:List Ty}{s:Ty}(a:∀s∈g,s.size<=64)(a:s.size<=64):∀x∈g++[s],x.size<=64:=λx a=>by
 grind
def oT{n:Nat}{a:List Fm}(h:∀f∈a,FK n f)(k:Nat):∀f∈fA k a,FK (n+k) f:=λf b=>by
 obtain⟨x,c,rfl⟩:=iy.1 b;exact(h x c).sh 0 k
def xT{n:Nat}{a:List Fm}{x:Fm}(h:∀f∈a,FK n f)(b:FK n x):∀f∈a++[x],FK n f:=λf a=>by
 grind
def WE{ls:List Fm}(C:∀f∈ls,FK 0 f):∀(j:Jt)(g:List Ty)(v:List Fm),j.D ls g v->(∀s∈g,s.size<=64)->g.length<=16->(∀f∈v,FK g.length f)->j.p.ck->j.OK ls g.length v/\FK g.length j.f
 |.leaf u i f,g,v,M,m,c,p,o=>by
  have d:FK g.length f:=by
   cases u
   ·exact p f (gg M.2.2)
   exact(C f (gg M.2)).up (c6 _)
  exact⟨⟨d,by cases u<;>exact M.2⟩,d⟩
 |.refl t,g,v,⟨D,B,z⟩,m,c,p,o=>by
  have⟨_,F⟩:=IK m c B z;have d:FK g.length (.eq t t):=GO D ⟨F.sc,F.sc⟩;exact⟨⟨F,d⟩,d⟩
 |.p1 k a f,g,v,⟨D,B,z⟩,m,c,p,o=>by
  have⟨o1,n⟩:=WE C a g v B m c p o;cases k
  ·have⟨y,e⟩:=z;rw[e]at n;exact⟨⟨n.bin1,o1,y,e⟩,n.bin1⟩
  ·have⟨y,e⟩:=z;rw[e]at n;exact⟨⟨n.bin2,o1,y,e⟩,n.bin2⟩
  obtain⟨s,u,x,e,U,y,r,rfl⟩:=z;rw[e]at n;have V:=(FK.pt (n:=g.length+2) (n.qf.qf.sh 2 1) (oe g.length) r).2;have d:FK g.length (.q .ex (.two true s u) (.q .all s y)):=GO D V.sc;exact⟨⟨d,o1,s,u,x,e,y,r,rfl⟩,d⟩
 |.p2 k a b f,g,v,⟨D,B,z⟩,m,c,p,o=>by
  have⟨o1,n⟩:=WE C a g v B m c p o.1;have A:∀s:Ty,(g++[s]).length=g.length+1:=λs=>by simp
  cases k
  ·obtain⟨E,rfl⟩:=z;have⟨o2,fb⟩:=WE C b g v E m c p o.2;have d:FK g.length (.bin .and a.f b.f):=GO D ⟨n.sc,fb.sc⟩;exact⟨⟨d,o1,o2,rfl⟩,d⟩
  ·have⟨E,x,e,_⟩:=z;have⟨o2,fb⟩:=WE C b g v E m c p o.2;rw[e]at n;exact⟨⟨n.bin2,o1,o2,x,e⟩,n.bin2⟩
  ·have⟨⟨s,e,E⟩,⟨n1,_⟩,J⟩:=z;generalize K:a.f.bd=x at *
   rw[e]at n;have⟨o2,fb⟩:=WE C b (g++[s]) _ E (MQ m n.qs) (by rw[A];exact n1) (by rw[A];exact xT (oT p 1) n.qf) o.2;rw[A]at o2 fb;have d:FK g.length f:=GO D (me fb a6 J).1;exact⟨⟨d,o1,by rw[K];exact o2,⟨s,by rw[K];exact e⟩,J⟩,d⟩
  have⟨⟨s,e,E⟩,⟨n1,_⟩,J,_⟩:=z;generalize K:a.f.bd=x at *
  rw[e]at n;have⟨o2,fb⟩:=WE C b (g++[s]) _ E (MQ m n.qs) (by rw[A];exact n1) (by rw[A];exact xT (oT p 1) n.qf) o.2;rw[A]at o2 fb;have d:FK g.length f:=GO D (me fb a6 J).1;exact⟨⟨d,o1,by rw[K];exact o2,⟨s,by rw[K];exact e⟩,J⟩,d⟩
 |.impI x a,g,v,⟨D,⟨B,z⟩,_,E⟩,m,c,p,o=>by
  have G:=FM m a6 B z;have⟨o1,n⟩:=WE C a g _ E m c (xT p G) o.2;have d:FK g.length (.bin .imp x a.f):=GO D ⟨G.sc,n.sc⟩;exact⟨⟨G,d,o1⟩,d⟩
 |.all u s a,g,v,⟨D,n1,B,_⟩,m,c,p,o=>by
  have A:(g++[s]).length=g.length+1:=a8
  have⟨o1,n⟩:=WE C a (g++[s]) _ B (MQ m o.1) (by rw[A];exact n1) (by rw[A];exact oT p 1) o.2;rw[A]at o1 n;have d:FK g.length (.q (aq u) s a.f):=GO D n.sc;exact⟨⟨o.1,d,o1⟩,d⟩
 |.ins u t a f,g,v,⟨D,B,z,s,x,H,e,r⟩,m,c,p,o=>by
  have⟨o1,n⟩:=WE C a g v z m c p o.2;have⟨_,F⟩:=IK m c B H;rw[e]at n;have d:=(n.qf.pt F r).2;exact⟨⟨d,F,o1,s,x,e,r⟩,d⟩
 |.ex u x t a,g,v,⟨⟨D,N⟩,B,z,s,y,w,H,e,r,I⟩,m,c,p,o=>by
  have⟨o1,n⟩:=WE C a g v z m c p o.2.2;have⟨_,F⟩:=IK m c B H;have d:=FM m a6 D N;subst e;exact⟨⟨d,F,o1,⟨s,rfl⟩,by rw[<-JK _ _ I,qD r];rfl⟩,d⟩
 |.ind l x t a b f,g,v,⟨D,⟨B,z⟩,⟨E,O⟩,⟨W,X,P,Q⟩,⟨n1,_⟩,⟨T,Y,R,S⟩,r⟩,m,c,p,o=>by
  have⟨o1,n⟩:=WE C a g v W m c p o.2.2.1;have⟨_,F⟩:=IK m c E O;have G:FK (g.length+1) x:=by
   have:=FM (g:=g++[lT l]) (MQ m (by cases l<;>decide)) a9 B z;simp_all
  have d:=(G.pt F r).2;refine⟨⟨d,G,F,o1,r,⟨by rw[<-JK _ _ Q,qD P],by rw[<-JK _ _ S,qD R,nE]⟩,?_⟩,d⟩;cases l
  ·have A:(g++lG false).length=g.length+1:=by simp[lG]
   have:=(WE C b (g++lG false) _ T (MQ m bb) (by rw[A];exact n1) (by rw[A];exact xT (oT p 1) G) o.2.2.2).1;rw[A]at this;exact this
  have A:(g++lG true).length=g.length+2:=by simp[lG]
  have:=(WE C b (g++lG true) _ T (λs v=>by
   rcases eh.1 v with h|h
   ·exact m s h
   simp[lG]at h;rcases h with rfl|rfl<;>decide) (by rw[A];exact n1) (by rw[A];exact xT (oT p 2) (G.sh 1 1)) o.2.2.2).1
  rw[A]at this;exact this
 |.subst x a b f,g,v,⟨D,⟨B,z⟩,E,O,t,u,w,e,r,I,L⟩,m,c,p,o=>by
  have⟨o1,n⟩:=WE C a g v E m c p o.2.1;have⟨o2,fb⟩:=WE C b g v O m c p o.2.2;have G:FK (g.length+1) x:=by
   have:=FM (g:=g++[.nat]) (MQ m bb) a9 B z;simpa using this
  rw[e]at n;have d:=(G.pt n.eq2 L).2;exact⟨⟨d,G,o1,o2,by rw[<-JK _ _ I,qD r],t,u,e,L⟩,d⟩
def Jt.pts:List Fm->Jt->List (List PV)
 |_,.leaf _ _ _=>[]|_,.refl _=>[]|c,.p1 _ a _=>[[.ptr [num a.p.kd,num a.p.ix,num a.p.tk,.slice a.p.te,.slice a.p.ts,.slice a.p.fs,.slice a.p.es,num a.f.kd,num a.f.tk,.slice a.f.te,.slice a.f.ts,.slice a.f.es,uA c,.bool a.f.has,.slice (a.pts c)]]]|c,.p2 k a b _=>match k with|.andI=>[[.ptr [num a.p.kd,num a.p.ix,num a.p.tk,.slice a.p.te,.slice a.p.ts,.slice a.p.fs,.slice a.p.es,num a.f.kd,num a.f.tk,.slice a.f.te,.slice a.f.ts,.slice a.f.es,uA c,.bool a.f.has,.slice (a.pts c)]],[.ptr [num b.p.kd,num b.p.ix,num b.p.tk,.slice b.p.te,.slice b.p.ts,.slice b.p.fs,.slice b.p.es,num b.f.kd,num b.f.tk,.slice b.f.te,.slice b.f.ts,.slice b.f.es,uA c,.bool b.f.has,.slice (b.pts c)]]]|.impE=>[[.ptr [num a.p.kd,num a.p.ix,num a.p.tk,.slice a.p.te,.slice a.p.ts,.slice a.p.fs,.slice a.p.es,num a.f.kd,num a.f.tk,.slice a.f.te,.slice a.f.ts,.slice a.f.es,uA c,.bool a.f.has,.slice (a.pts c)]],[.ptr [num b.p.kd,num b.p.ix,num b.p.tk,.slice b.p.te,.slice b.p.ts,.slice b.p.fs,.slice b.p.es,num b.f.kd,num b.f.tk,.slice b.f.te,.slice b.f.ts,.slice b.f.es,uA c,.bool b.f.has,.slice (b.pts c)]]]|.exE=>[[.ptr [num a.p.kd,num a.p.ix,num a.p.tk,.slice a.p.te,.slice a.p.ts,.slice a.p.fs,.slice a.p.es,num a.f.kd,num a.f.tk,.slice a.f.te,.slice a.f.ts,.slice a.f.es,uA c,.bool a.f.has,.slice (a.pts c)]],[.ptr [num b.p.kd,num b.p.ix,num b.p.tk,.slice b.p.te,.slice b.p.ts,.slice b.p.fs,.slice b.p.es,num b.f.kd,num b.f.tk,.slice b.f.te,.slice b.f.ts,.slice b.f.es,uA (fA 1 c++[a.f.bd]),.bool b.f.has,.slice (b.pts (fA 1 c++[a.f.bd]))]]]|.exUE=>[[.ptr [num a.p.kd,num a.p.ix,num a.p.tk,.slice a.p.te,.slice a.p.ts,.slice a.p.fs,.slice a.p.es,num a.f.kd,num a.f.tk,.slice a.f.te,.slice a.f.ts,.slice a.f.es,uA c,.bool a.f.has,.slice (a.pts c)]],[.ptr [num b.p.kd,num b.p.ix,num b.p.tk,.slice b.p.te,.slice b.p.ts,.slice b.p.fs,.slice b.p.es,num b.f.kd,num b.f.tk,.slice b.f.te,.slice b.f.ts,.slice b.f.es,uA (fA 1 c++[a.f.bd]),.bool b.f.has,.slice (b.pts (fA 1 c++[a.f.bd]))]]]
 |c,.impI x a=>[[.ptr [num a.p.kd,num a.p.ix,num a.p.tk,.slice a.p.te,.slice a.p.ts,.slice a.p.fs,.slice a.p.es,num a.f.kd,num a.f.tk,.slice a.f.te,.slice a.f.ts,.slice a.f.es,uA (c++[x]),.bool a.f.has,.slice (a.pts (c++[x]))]]]|c,.all _ _ a=>[[.ptr [num a.p.kd,num a.p.ix,num a.p.tk,.slice a.p.te,.slice a.p.ts,.slice a.p.fs,.slice a.p.es,num a.f.kd,num a.f.tk,.slice a.f.te,.slice a.f.ts,.slice a.f.es,uA (fA 1 c),.bool a.f.has,.slice (a.pts (fA 1 c))]]]|c,.ins _ _ a _=>[[.ptr [num a.p.kd,num a.p.ix,num a.p.tk,.slice a.p.te,.slice a.p.ts,.slice a.p.fs,.slice a.p.es,num a.f.kd,num a.f.tk,.slice a.f.te,.slice a.f.ts,.slice a.f.es,uA c,.bool a.f.has,.slice (a.pts c)]]]|c,.ex _ _ _ a=>[[.ptr [num a.p.kd,num a.p.ix,num a.p.tk,.slice a.p.te,.slice a.p.ts,.slice a.p.fs,.slice a.p.es,num a.f.kd,num a.f.tk,.slice a.f.te,.slice a.f.ts,.slice a.f.es,uA c,.bool a.f.has,.slice (a.pts c)]]]|c,.ind l x _ a b _=>[[.ptr [num a.p.kd,num a.p.ix,num a.p.tk,.slice a.p.te,.slice a.p.ts,.slice a.p.fs,.slice a.p.es,num a.f.kd,num a.f.tk,.slice a.f.te,.slice a.f.ts,.slice a.f.es,uA c,.bool a.f.has,.slice (a.pts c)]],[.ptr [num b.p.kd,num b.p.ix,num b.p.tk,.slice b.p.te,.slice b.p.ts,.slice b.p.fs,.slice b.p.es,num b.f.kd,num b.f.tk,.slice b.f.te,.slice b.f.ts,.slice b.f.es,uA (iK c x l),.bool b.f.has,.slice (b.pts (iK c x l))]]]|c,.subst _ a b _=>[[.ptr [num a.p.kd,num a.p.ix,num a.p.tk,.slice a.p.te,.slice a.p.ts,.slice a.p.fs,.slice a.p.es,num a.f.kd,num a.f.tk,.slice a.f.te,.slice a.f.ts,.slice a.f.es,uA c,.bool a.f.has,.slice (a.pts c)]],[.ptr [num b.p.kd,num b.p.ix,num b.p.tk,.slice b.p.te,.slice b.p.ts,.slice b.p.fs,.slice b.p.es,num b.f.kd,num b.f.tk,.slice b.f.te,.slice b.f.ts,.slice b.f.es,uA c,.bool b.f.has,.slice (b.pts c)]]]
abbrev Jt.ptr(hs:List Fm)(a:Jt):PV:=.ptr [num a.p.kd,num a.p.ix,num a.p.tk,.slice a.p.te,.slice a.p.ts,.slice a.p.fs,.slice a.p.es,num a.f.kd,num a.f.tk,.slice a.f.te,.slice a.f.ts,.slice a.f.es,uA hs,.bool a.f.has,.slice (a.pts hs)]
abbrev O5(ls hs:List Fm)(j:Jt):Prop:=A 151 [uA ls,uA hs,j.p.p] (j.ptr hs)
def AT(a:List Fm)(f:Fm)(h:a.length<=qA:=by omega):A 301 [uA a,f.p] (uA (a++[f])):=by
 have:=zA;have b:=qH (a.map Fm.c).length;have c:=jG 5 88 Fm.c_len bb a f a6 (by simp only[maxLen];omega);rw[show uA (a++[f])=.slice (a.map Fm.c++[f.c]) by simp[uA]];exact f2 [(10,.ok),(13,.ok)] b c
abbrev En(hs:List Fm)(n k:Nat)(x:V):List (Nat×V):=[(1,.pv (num n)),(5,x),(10,.pv (uA hs)),(11,.pv (num (hs.map Fm.c).length)),(12,.pv (num k))]
abbrev Gn:Kp:=⟨[1,5,10,11,12],[2],3,[]⟩
def Hn{a:List Fm}(n:Nat)(i:a.length<=qA)(H:∀f∈a,A 93 [f.p,num 0,num n] (FR.ok (f.sh 0 (.ofNat n))).p):∀(r:List Fm)(k v:Nat)(A:List (List PV)),a.drop k=r->A.length=k->
  ∃b,Lp 302 0 0 (st (En a n k (.arr 2 v A.length)) [(2,.arr v 5 41 (vA A))] 3 []) (.exit 0) (st [(5,.arr 2 b (A.length+r.length))] [(2,.arr b 5 41 (vA (A++r.map λf=>(f.sh 0 (.ofNat n)).c)))] 3 [])
 |[],k,v,A,h,c=>by
  have e:dA (.ofNat k) (.ofNat (a.map Fm.c).length)=false:=iA bS;simp only[i2,hI,iq,ir];exact⟨v,y1 [13] ⟨[5],[2],3,[]⟩ e (BB A)⟩
 |f::r,k,v,A,h,c=>by
  have:=zA;have⟨d,p,j⟩:=uC h;have e:dA (.ofNat k) (.ofNat (a.map Fm.c).length)=true:=KA bS;have l:=BA (show k+1<=_ by omega);have m:=YD (A:=A) (v:=v) (ty:=41) (m:=88) (c:=(f.sh 0 (.ofNat n)).c) (show 0<5 by decide) rfl rfl (by simp only[maxLen];omega) a6;have⟨b,g⟩:=Hn n i H r (k+1) (v+1) (A++[(f.sh 0 (.ofNat n)).c]) j (by simp[c]);rw[gD,show(A++[(f.sh 0 (.ofNat n)).c]).length=A.length+1 by simp,show A.length+1+r.length=A.length+(f::r).length by simp;omega,gy]at g;exact⟨b,n7 [13,(14,.i f.c),19,(25,.ok),(26,.ok)] Gn e (EA d Fm.c_len) (H f (gg d)) m l (dB A (f.sh 0 (.ofNat n)).c) g⟩
def In(a:List Fm)(n:Nat)(c:a.length<=qA)(H:∀f∈a,A 93 [f.p,num 0,num n] (FR.ok (f.sh 0 (.ofNat n))).p):A 302 [uA a,num n] (uA (fA n a)):=by
 cases a with
 |nil=>exact f0 []|cons f r=>
  have e:dA (.ofNat 0) (.ofNat ((f::r).map Fm.c).length)=true:=KA a8;have⟨v,h⟩:=Hn n c H r 1 1 [(f.sh 0 (.ofNat n)).c] rfl rfl;have d:(f.sh 0 (.ofNat n)).c::r.map (λf=>(f.sh 0 (.ofNat n)).c)=(fA n (f::r)).map Fm.c:=by simp[abl]
  have b:=LoopIs.fz a8 h 2 (ver:=v) (sz:=5) (ty:=41) (ps:=(f.sh 0 (.ofNat n)).c::r.map (λf=>(f.sh 0 (.ofNat n)).c)) rfl bG;simp (decide:=true) only[eD,XC,VB,BC,and_self,↓reduceIte,gu (show((f.sh 0 (.ofNat n)).c::r.map (λf=>(f.sh 0 (.ofNat n)).c)).length<=[(f.sh 0 (.ofNat n)).c].length+r.length by simp;omega)]at b;rw[d]at b;have g:Lp 302 0 0 (st (En (f::r) n 0 (.pv .nils)) [] 0 []) (.exit 0) (st [(5,.pv (uA (fA n (f::r))))] [] 3 []):=
   n6 [13,(14,.i f.c),19,(26,.ok)] Gn e (EA (g:=f::r) (k:=0) rfl Fm.c_len) (H f a8) (BA (show 0+1<=_ by omega)) (dB [] (f.sh 0 (.ofNat n)).c) b
  exact f1 [(100003,.l ⟨[1,5,10,11,12],[],0,[]⟩ (.exit 0) (st [(5,.pv (uA (fA n (f::r))))] [] 3 []))] g
def up1{n:Nat}{a:List Fm}(b:a.length<=qA)(h:∀f∈a,FK n f)(c:n<=nA):A 302 [uA a,num 1] (uA (fA 1 a)):=In a 1 b λf a=>F3 (h f a) c
def up2{n:Nat}{a:List Fm}(b:a.length<=qA)(h:∀f∈a,FK n f)(c:n<=nA):A 302 [uA a,num 2] (uA (fA 2 a)):=In a 2 b λf a=>G3 (h f a) c
def oX{n:Nat}{f g:Fm}{t:Tm}(h:FK (n+1) f)(b:TK n t)(c:n+1<=nA)(e:f.pt t=.ok g):A 303 [f.p,t.p] g.p:=by
 have a:=D3 h b c;rw[e]at a;exact f1 [10] a
def xX:∀(f:Fm)(n:Nat),FK n f->n+f.cnt<=nA->∀g,zB f=some g->A 366 [f.p] g.p
 |.eq a b,n,h,d,g,e=>by
  simp only[Fm.cnt]at d;have c:=(DO h.eq1).1;have m:=(DO h.eq2).1;unfold zB at e;split at e
  ·rename_i x j i;split at e
   ·rename_i y l o;cases e;rw[i]at c;rw[o]at m;exact f2 [23,23] c m
   cases e
  cases e
 |.bin k a b,n,h,d,g,e=>by
  simp only[Fm.cnt]at d;unfold zB at e;split at e
  ·rename_i x i;split at e
   ·rename_i y o;cases e;have c:=xX a n h.bin1 a6 x i;have m:=xX b n h.bin2 a6 y o;cases k<;>exact f2 [44,44] c m
   cases e
  cases e
 |.q k s a,n,h,d,g,e=>by
  simp only[Fm.cnt]at d;unfold zB at e;split at e
  ·rename_i x i;cases e;have c:=xX a (n+1) h.qf a6 x i;cases k<;>exact f1 [44] c
  cases e
def Jn{n:Nat}{f g:Fm}(h:FK (n+1) f)(k:FK n g)(r:n+1<=90000)(e:NC f=some g):A 304 [f.p] g.p:=by
 have s:nA=100000:=rfl;have c:=h.cnt;have a:=Hm h;unfold NC at e;split at e
 ·rename_i b;cases e;rw[gm b]at a;exact f1 [9] a
 rename_i b;rw[e9 b]at a;split at e
 ·rename_i y d;split at e
  ·rename_i i;cases e;have⟨l,m,t⟩:=CQ f (n+1) h a6 y d;have o:FK (n+1) y:=⟨by have:=k.cnt;rwa[ye i]at this,m,l⟩;have p:=xX f (n+1) h a6 y d;have j:=Hm o;rw[gm i]at j;exact f3 [9,17,18] a p j
  cases e
 cases e
open Go.Lg
abbrev cA(p:Pf)(f:Fm)(hs:List Fm)(pts:List (List PV)):PV:=.ptr [num p.kd,num p.ix,num p.tk,.slice p.te,.slice p.ts,.slice p.fs,.slice p.es,num f.kd,num f.tk,.slice f.te,.slice f.ts,.slice f.es,uA hs,.bool f.has,.slice pts]
abbrev Jt.pf(a:Jt)(hs:List Fm)(F:Fm):PV:=cA a.p F hs (a.pts hs)
abbrev tE(f:Fm):Prop:=A 152 [f.p] (.tuple [.bool f.has,num 0])
abbrev pD(ls hs:List Fm)(a:Jt)(F:Fm):Prop:=A 151 [uA ls,uA hs,a.p.p] (a.pf hs F)
def P5{c b:List Fm}{a:Jt}{f y:Fm}(d:pD c b a (.bin .and f y))(e:tE f):A 151 [uA c,uA b,(Pf.p1 .andL a.p).p] (cA (Pf.p1 .andL a.p) f b [[a.pf b (.bin .and f y)]]):=by
 exact f3 [(17,.n [(53,.n [(23,.r (a.pf b (.bin .and f y)))])]),26,(300003,.f 7 [[a.pf b (.bin .and f y)]]),(300004,.fb 1 none)] d e (rfl:vA [[a.pf b (.bin .and f y)]]=vA [[a.pf b (.bin .and f y)]])
def Q5{c b:List Fm}{a:Jt}{f y:Fm}(d:pD c b a (.bin .and y f))(e:tE f):A 151 [uA c,uA b,(Pf.p1 .andR a.p).p] (cA (Pf.p1 .andR a.p) f b [[a.pf b (.bin .and y f)]]):=by
 exact f3 [(17,.n [(62,.n [(23,.r (a.pf b (.bin .and y f)))])]),26,(300003,.f 7 [[a.pf b (.bin .and y f)]]),(300004,.fb 1 none)] d e (rfl:vA [[a.pf b (.bin .and y f)]]=vA [[a.pf b (.bin .and y f)]])
def R5{d c:List Fm}{a b:Jt}{x y:Fm}(e:pD d c a x)(f:pD d c b y)(g:tE (Fm.bin .and x y)):A 151 [uA d,uA c,(Pf.p2 .andI a.p b.p).p] (cA (Pf.p2 .andI a.p b.p) (Fm.bin .and x y) c [[a.pf c x],[b.pf c y]]):=by
 exact f4 [(17,.n [(40,.n [(23,.r (a.pf c x))]),(45,.n [(23,.r (b.pf c y))])]),26,(300003,.f 7 [[a.pf c x],[b.pf c y]]),(300004,.fb 1 none)] e f g (rfl:vA [[a.pf c x],[b.pf c y]]=vA [[a.pf c x],[b.pf c y]])
def S5{d c:List Fm}{a b:Jt}{x y f:Fm}(e:pD d c a (.bin .imp x f))(g:pD d c b y)(h:tE f):A 151 [uA d,uA c,(Pf.p2 .impE a.p b.p).p] (cA (Pf.p2 .impE a.p b.p) f c [[a.pf c (.bin .imp x f)],[b.pf c y]]):=by
 exact f4 [(17,.n [(88,.n [(23,.r (a.pf c (.bin .imp x f)))]),(92,.n [(23,.r (b.pf c y))])]),26,(300003,.f 7 [[a.pf c (.bin .imp x f)],[b.pf c y]]),(300004,.fb 1 none)] e g h (rfl:vA [[a.pf c (.bin .imp x f)],[b.pf c y]]=vA [[a.pf c (.bin .imp x f)],[b.pf c y]])
def T5{c b:List Fm}{a:Jt}{x y:Fm}(d:A 301 [uA b,x.p] (uA (b++[x])))(e:pD c (b++[x]) a y)(f:tE (Fm.bin .imp x y)):A 151 [uA c,uA b,(Pf.impI x a.p).p] (cA (Pf.impI x a.p) (Fm.bin .imp x y) b [[a.pf (b++[x]) y]]):=by
 exact f4 [(17,.n [(79,.r (uA (b++[x]))),(80,.n [(23,.r (a.pf (b++[x]) y))])]),26,(300003,.f 7 [[a.pf (b++[x]) y]]),(300004,.fb 1 none)] d e f (rfl:vA [[a.pf (b++[x]) y]]=vA [[a.pf (b++[x]) y]])
def U5{c b:List Fm}{s:Ty}{a:Jt}{y:Fm}(d:A 302 [uA b,num 1] (uA (fA 1 b)))(e:pD c (fA 1 b) a y)(f:tE (Fm.q .all s y)):A 151 [uA c,uA b,(Pf.all false s a.p).p] (cA (Pf.all false s a.p) (Fm.q .all s y) b [[a.pf (fA 1 b) y]]):=by
 exact f4 [(17,.n [(104,.r (uA (fA 1 b))),(105,.n [(23,.r (a.pf (fA 1 b) y))])]),26,(300003,.f 7 [[a.pf (fA 1 b) y]]),(300004,.fb 1 none)] d e f (rfl:vA [[a.pf (fA 1 b) y]]=vA [[a.pf (fA 1 b) y]])
def V5{c b:List Fm}{s:Ty}{a:Jt}{y:Fm}(d:A 302 [uA b,num 1] (uA (fA 1 b)))(e:pD c (fA 1 b) a y)(f:tE (Fm.q .allU s y)):A 151 [uA c,uA b,(Pf.all true s a.p).p] (cA (Pf.all true s a.p) (Fm.q .allU s y) b [[a.pf (fA 1 b) y]]):=by
 exact f4 [(17,.n [(115,.r (uA (fA 1 b))),(116,.n [(23,.r (a.pf (fA 1 b) y))])]),26,(300003,.f 7 [[a.pf (fA 1 b) y]]),(300004,.fb 1 none)] d e f (rfl:vA [[a.pf (fA 1 b) y]]=vA [[a.pf (fA 1 b) y]])
def X5{c b:List Fm}{t:Tm}{s:Ty}{a:Jt}{x f:Fm}(d:pD c b a (.q .all s x))(e:A 303 [x.p,t.p] f.p)(g:tE f):A 151 [uA c,uA b,(Pf.ins false t a.p).p] (cA (Pf.ins false t a.p) f b [[a.pf b (.q .all s x)]]):=by
 exact f4 [(17,.n [(125,.n [(23,.r (a.pf b (.q .all s x)))]),(133,.r f.p)]),26,(300003,.f 7 [[a.pf b (.q .all s x)]]),(300004,.fb 1 none)] d e g (rfl:vA [[a.pf b (.q .all s x)]]=vA [[a.pf b (.q .all s x)]])
def Y5{c b:List Fm}{t:Tm}{s:Ty}{a:Jt}{x f:Fm}(d:pD c b a (.q .allU s x))(e:A 303 [x.p,t.p] f.p)(g:tE f):A 151 [uA c,uA b,(Pf.ins true t a.p).p] (cA (Pf.ins true t a.p) f b [[a.pf b (.q .allU s x)]]):=by
 exact f4 [(17,.n [(125,.n [(23,.r (a.pf b (.q .allU s x)))]),(133,.r f.p)]),26,(300003,.f 7 [[a.pf b (.q .allU s x)]]),(300004,.fb 1 none)] d e g (rfl:vA [[a.pf b (.q .allU s x)]]=vA [[a.pf b (.q .allU s x)]])
def Z5{c b:List Fm}{u:Bool}{t:Tm}{a:Jt}{x y:Fm}(d:pD c b a y)(e:tE x):A 151 [uA c,uA b,(Pf.ex u x t a.p).p] (cA (Pf.ex u x t a.p) x b [[a.pf b y]]):=by
 cases u<;>exact f3 [(17,.n [(140,.n [(23,.r (a.pf b y))])]),26,(300003,.f 7 [[a.pf b y]]),(300004,.fb 1 none)] d e (rfl:vA [[a.pf b y]]=vA [[a.pf b y]])
def z6{d c:List Fm}{s:Ty}{a b:Jt}{x y f:Fm}(g:pD d c a (.q .ex s x))(h:A 302 [uA c,num 1] (uA (fA 1 c)))(e:A 301 [uA (fA 1 c),x.p] (uA (fA 1 c++[x])))(i:pD d (fA 1 c++[x]) b y)(j:A 304 [y.p] f.p)(k:tE f):A 151 [uA d,uA c,(Pf.p2 .exE a.p b.p).p] (cA (Pf.p2 .exE a.p b.p) f c [[a.pf c (.q .ex s x)],[b.pf (fA 1 c++[x]) y]]):=by
 exact f7 [(17,.n [(151,.n [(23,.r (a.pf c (.q .ex s x)))]),(155,.r (uA (fA 1 c))),(160,.r (uA (fA 1 c++[x]))),(161,.n [(23,.r (b.pf (fA 1 c++[x]) y))]),(162,.r f.p)]),26,(300003,.f 7 [[a.pf c (.q .ex s x)],[b.pf (fA 1 c++[x]) y]]),(300004,.fb 1 none)] g h e i j k (rfl:vA [[a.pf c (.q .ex s x)],[b.pf (fA 1 c++[x]) y]]=vA [[a.pf c (.q .ex s x)],[b.pf (fA 1 c++[x]) y]])
def j6{d c:List Fm}{s:Ty}{a b:Jt}{x y f:Fm}(g:pD d c a (.q .exU s x))(h:A 302 [uA c,num 1] (uA (fA 1 c)))(e:A 301 [uA (fA 1 c),x.p] (uA (fA 1 c++[x])))(i:pD d (fA 1 c++[x]) b y)(j:A 304 [y.p] f.p)(k:tE f):A 151 [uA d,uA c,(Pf.p2 .exUE a.p b.p).p] (cA (Pf.p2 .exUE a.p b.p) f c [[a.pf c (.q .exU s x)],[b.pf (fA 1 c++[x]) y]]):=by
 exact f7 [(17,.n [(151,.n [(23,.r (a.pf c (.q .exU s x)))]),(155,.r (uA (fA 1 c))),(160,.r (uA (fA 1 c++[x]))),(161,.n [(23,.r (b.pf (fA 1 c++[x]) y))]),(162,.r f.p)]),26,(300003,.f 7 [[a.pf c (.q .exU s x)],[b.pf (fA 1 c++[x]) y]]),(300004,.fb 1 none)] g h e i j k (rfl:vA [[a.pf c (.q .exU s x)],[b.pf (fA 1 c++[x]) y]]=vA [[a.pf c (.q .exU s x)],[b.pf (fA 1 c++[x]) y]])
def v6{d c:List Fm}{t:Tm}{a b:Jt}{x y z f:Fm}(g:pD d c a y)(h:A 302 [uA c,num 1] (uA (fA 1 c)))(e:A 301 [uA (fA 1 c),x.p] (uA (fA 1 c++[x])))(i:pD d (fA 1 c++[x]) b z)(j:A 303 [x.p,t.p] f.p)(k:tE f):A 151 [uA d,uA c,(Pf.ind false x t a.p b.p).p] (cA (Pf.ind false x t a.p b.p) f c [[a.pf c y],[b.pf (fA 1 c++[x]) z]]):=by
 exact f7 [(17,.n [(164,.n [(23,.n [(23,.r (a.pf c y))]),(27,.r (uA (fA 1 c))),(32,.r (uA (fA 1 c++[x]))),(33,.n [(23,.r (b.pf (fA 1 c++[x]) z))]),(42,.r f.p)])]),(26,.U [.bool f.has,num 0]),(300003,.f 10 [[a.pf c y],[b.pf (fA 1 c++[x]) z]]),(300004,.fb 1 none)] g h e i j k (rfl:vA [[a.pf c y],[b.pf (fA 1 c++[x]) z]]=vA [[a.pf c y],[b.pf (fA 1 c++[x]) z]])
def y6{d c:List Fm}{t:Tm}{a b:Jt}{x y z f:Fm}(g:pD d c a y)(h:A 93 [x.p,num 1,num 1] (FR.ok (x.sh 1 (.ofNat 1))).p)(i:A 302 [uA c,num 2] (uA (fA 2 c)))(e:A 301 [uA (fA 2 c),(x.sh 1 (.ofNat 1)).p] (uA (fA 2 c++[(x.sh 1 (.ofNat 1))])))(j:pD d (fA 2 c++[(x.sh 1 (.ofNat 1))]) b z)(k:A 303 [x.p,t.p] f.p)(l:tE f):A 151 [uA d,uA c,(Pf.ind true x t a.p b.p).p] (cA (Pf.ind true x t a.p b.p) f c [[a.pf c y],[b.pf (fA 2 c++[(x.sh 1 (.ofNat 1))]) z]]):=by
 exact f8 [(17,.n [(164,.n [(48,.n [(23,.r (a.pf c y))]),(54,.r (FR.ok (x.sh 1 (.ofNat 1))).p),(60,.r (uA (fA 2 c))),(62,.r (uA (fA 2 c++[(x.sh 1 (.ofNat 1))]))),(63,.n [(23,.r (b.pf (fA 2 c++[(x.sh 1 (.ofNat 1))]) z))]),(72,.r f.p)])]),(26,.U [.bool f.has,num 0]),(300003,.f 10 [[a.pf c y],[b.pf (fA 2 c++[(x.sh 1 (.ofNat 1))]) z]]),(300004,.fb 1 none)] g h i e j k l (rfl:vA [[a.pf c y],[b.pf (fA 2 c++[(x.sh 1 (.ofNat 1))]) z]]=vA [[a.pf c y],[b.pf (fA 2 c++[(x.sh 1 (.ofNat 1))]) z]])
def u6{b a:List Fm}{t:Tm}(c:tE (Fm.eq t t)):A 151 [uA b,uA a,(Pf.refl t).p] (cA (Pf.refl t) (Fm.eq t t) a []):=by
 exact f1 [(17,.n [(164,.n [])]),(26,.U [.bool (Fm.eq t t).has,num 0]),(300004,.fb 1 none)] c
def d6{d c:List Fm}{a b:Jt}{t u:Tm}{x y f:Fm}(e:pD d c a (.eq t u))(g:pD d c b y)(h:A 303 [x.p,u.p] f.p)(i:tE f):A 151 [uA d,uA c,(Pf.subst x a.p b.p).p] (cA (Pf.subst x a.p b.p) f c [[a.pf c (.eq t u)],[b.pf c y]]):=by
 exact f5 [(17,.n [(164,.n [(90,.n [(23,.r (a.pf c (.eq t u)))]),(94,.n [(23,.r (b.pf c y))]),(103,.r f.p)])]),(26,.U [.bool f.has,num 0]),(300003,.f 10 [[a.pf c (.eq t u)],[b.pf c y]]),(300004,.fb 1 none)] e g h i (rfl:vA [[a.pf c (.eq t u)],[b.pf c y]]=vA [[a.pf c (.eq t u)],[b.pf c y]])
def m6{c b:List Fm}{a:Jt}{s u:Ty}{x y:Fm}(d:pD c b a (.q .all s (.q .ex u x)))(e:A 93 [x.p,num 2,num 1] (FR.ok (x.sh 2 (.ofNat 1))).p)(f:A 303 [(x.sh 2 (.ofNat 1)).p,vapp.p] y.p)(g:tE (Fm.q .ex (.two true s u) (.q .all s y))):A 151 [uA c,uA b,(Pf.p1 .choice a.p).p] (cA (Pf.p1 .choice a.p) (Fm.q .ex (.two true s u) (.q .all s y)) b [[a.pf b (.q .all s (.q .ex u x))]]):=by
 exact f5 [(17,.n [(164,.n [(107,.n [(23,.r (a.pf b (.q .all s (.q .ex u x))))]),(125,.r (FR.ok (x.sh 2 (.ofNat 1))).p),(133,.r y.p)])]),(26,.U [.bool (Fm.q .ex (.two true s u) (.q .all s y)).has,num 0]),(300003,.f 10 [[a.pf b (.q .all s (.q .ex u x))]]),(300004,.fb 1 none)] d e f g (rfl:vA [[a.pf b (.q .all s (.q .ex u x))]]=vA [[a.pf b (.q .all s (.q .ex u x))]])
def r6{b a:List Fm}{i:Nat}{f:Fm}(c:a.length<=qA)(c:i<a.length)(e:a[a.length-1-i]? =some f)(c:tE f):A 151 [uA b,uA a,(Pf.leaf false i).p] (cA (Pf.leaf false i) f a []):=by
 have:=zA;have:=yA;have b:=lC (a:=(a.map Fm.c).length) a9 a9;have d:xA (Int.ofNat ((a.map Fm.c).length-1)-.ofNat i)=true/\Int.ofNat ((a.map Fm.c).length-1)-.ofNat i=.ofNat (a.length-1-i):=by
  grind[BA]
 exact f4 [(17,.n [(21,.z ((a.map Fm.c).length-1)),(24,.z (a.length-1-i)),(25,.i f.c)]),26,(300004,.fb 1 none)] b d (EA e Fm.c_len) c
def s6{a b:List Fm}{i:Nat}{f:Fm}(e:a[i]? =some f)(c:tE f):A 151 [uA a,uA b,(Pf.leaf true i).p] (cA (Pf.leaf true i) f b []):=by
 exact f2 [(17,.n [(33,.i f.c)]),26,(300004,.fb 1 none)] (EA e Fm.c_len) c
def CT(p:Pf):1<=p.cnt:=by cases p<;>simp[Pf.cnt]<;>omega
def Jt.FKj{a:List Fm}:∀{j:Jt}{n:Nat}{b:List Fm},j.OK a n b->FK n j.f|.leaf _ _ _,_,_,h=>h.1|.refl _,_,_,h=>h.2|.p1 _ _ _,_,_,h=>h.1|.p2 _ _ _ _,_,_,h=>h.1|.impI _ _,_,_,h=>h.2.1|.all _ _ _,_,_,h=>h.2.1|.ins _ _ _ _,_,_,h=>h.1|.ex _ _ _ _,_,_,h=>h.1|.ind _ _ _ _ _ _,_,_,h=>h.1|.subst _ _ _ _,_,_,h=>h.1
def DT{n k:Nat}{a:List Fm}(h:∀f∈a,FK n f):∀f∈fA k a,FK (n+k) f:=by
 intro f b;obtain⟨g,c,rfl⟩:=iy.1 b;exact(h g c).sh 0 k
def ET{n:Nat}{a:List Fm}{x:Fm}(h:∀f∈a,FK n f)(b:FK n x):∀f∈a++[x],FK n f:=by
 grind
def i6(n:Nat):TK (n+2) vapp:=⟨bb,rfl,by show 1<n+2/\0<n+2;omega⟩
def XE{ls:List Fm}:∀(j:Jt)(n:Nat)(c:List Fm),(∀f∈c,FK n f)->c.length+j.p.cnt<=qA->n+j.p.cnt<=90000->j.OK ls n c->O5 ls c j
 |.leaf u i f,n,c,d,w,z,h=>by
  have r:nA=100000:=rfl;simp only[Jt.p,Pf.cnt]at w z;have⟨o,h⟩:=h;cases u
  ·exact r6 a6 h.1 h.2 (o.a70 a6)
  exact s6 h (o.a70 a6)
 |.refl t,n,c,d,w,z,h=>u6 (h.2.a70 (by have r:nA=100000:=rfl;omega))|.p1 k a f,n,c,d,w,z,⟨o,p,m⟩=>by
  have r:nA=100000:=rfl;simp only[Jt.p,Pf.cnt]at w z;have v:=XE a n c d a6 a6 p;have C:=o.a70 a6;cases k
  ·have⟨y,e⟩:=m;have g:=P5 (a:=a) (f:=f) (y:=y) (by rw[<-e];exact v) C;rw[<-e]at g;exact g
  ·have⟨y,e⟩:=m;have g:=Q5 (a:=a) (f:=f) (y:=y) (by rw[<-e];exact v) C;rw[<-e]at g;exact g
  have⟨s,u,x,e,y,B,I⟩:=m;subst I;have D:FK (n+2) x:=by
   have:=Jt.FKj p;rw[e]at this;exact this.qf.qf
  have g:=m6 (a:=a) (s:=s) (u:=u) (x:=x) (y:=y) (by rw[<-e];exact v) (J3 D) (oX (n:=n+2) (D.sh 2 1) (i6 n) a6 B) C;rw[<-e]at g;exact g
 |.p2 k a b f,n,c,d,w,z,⟨o,p,m⟩=>by
  have r:nA=100000:=rfl;simp only[Jt.p,Pf.cnt]at w z;have J:=CT a.p;have v:=XE a n c d a6 a6 p;have C:=o.a70 a6;cases k
  ·have⟨A,e⟩:=m;subst e;exact R5 v (XE b n c d a6 a6 A) C
  ·have⟨A,x,e⟩:=m;have g:=S5 (a:=a) (b:=b) (x:=x) (f:=f) (by rw[<-e];exact v) (XE b n c d a6 a6 A) C;rw[<-e]at g;exact g
  ·have⟨A,⟨s,e⟩,B⟩:=m;generalize D:a.f.bd=x at *
   have E:FK (n+1) x:=by
    have:=Jt.FKj p;rw[e]at this;exact this.qf
   have F:(fA 1 c).length=c.length:=a8
   have g:=z6 (a:=a) (b:=b) (s:=s) (x:=x) (y:=b.f) (f:=f) (by rw[<-e];exact v) (up1 (n:=n) a6 d a6) (AT _ _) (XE b (n+1) _ (ET (DT d) E) a9 a6 A) (Jn (Jt.FKj A) o a6 B) C;rw[<-e,<-D]at g;exact g
  have⟨A,⟨s,e⟩,B⟩:=m;generalize D:a.f.bd=x at *
  have E:FK (n+1) x:=by
   have:=Jt.FKj p;rw[e]at this;exact this.qf
  have F:(fA 1 c).length=c.length:=a8
  have g:=j6 (a:=a) (b:=b) (s:=s) (x:=x) (y:=b.f) (f:=f) (by rw[<-e];exact v) (up1 (n:=n) a6 d a6) (AT _ _) (XE b (n+1) _ (ET (DT d) E) a9 a6 A) (Jn (Jt.FKj A) o a6 B) C;rw[<-e,<-D]at g;exact g
 |.impI x a,n,c,d,w,z,⟨o,p,m⟩=>by
  have r:nA=100000:=rfl;simp only[Jt.p,Pf.cnt]at w z;exact T5 (AT _ _) (XE a n _ (ET d o) a9 a6 m) (p.a70 a6)
 |.all u s a,n,c,d,w,z,⟨o,p,m⟩=>by
  have r:nA=100000:=rfl;simp only[Jt.p,Pf.cnt]at w z;have v:=XE a (n+1) _ (DT d) a9 a6 m;cases u
  ·exact U5 (up1 (n:=n) a6 d a6) v (p.a70 a6)
  exact V5 (up1 (n:=n) a6 d a6) v (p.a70 a6)
 |.ins u t a f,n,c,d,w,z,⟨o,p,m,s,x,e,B⟩=>by
  have r:nA=100000:=rfl;simp only[Jt.p,Pf.cnt]at w z;have v:=XE a n c d a6 a6 m;have E:FK (n+1) x:=by
   have:=Jt.FKj m;rw[e]at this;exact this.qf
  have G:=oX E p a6 B;cases u
  ·have g:=X5 (t:=t) (a:=a) (s:=s) (x:=x) (f:=f) (by rw[show Fm.q .all s x=a.f from e.symm];exact v) G (o.a70 a6);rw[show Fm.q .all s x=a.f from e.symm]at g;exact g
  have g:=Y5 (t:=t) (a:=a) (s:=s) (x:=x) (f:=f) (by rw[show Fm.q .allU s x=a.f from e.symm];exact v) G (o.a70 a6);rw[show Fm.q .allU s x=a.f from e.symm]at g;exact g
 |.ex u x t a,n,c,d,w,z,⟨o,p,m,_,_⟩=>by
  have r:nA=100000:=rfl;simp only[Jt.p,Pf.cnt]at w z;exact Z5 (XE a n c d a6 a6 m) (o.a70 a6)
 |.ind l x t a b f,n,c,d,w,z,⟨o,p,m,A,e,_,H⟩=>by
  have r:nA=100000:=rfl;simp only[Jt.p,Pf.cnt]at w z;have J:=CT a.p;have M:=UE t;have v:=XE a n c d a6 a6 A;have G:=oX p m a6 e;have F:(fA 1 c).length=c.length:=a8
  have K:(fA 2 c).length=c.length:=a8
  cases l
  ·exact v6 v (up1 (n:=n) a6 d a6) (AT _ _) (XE b (n+1) _ (ET (DT d) p) a9 a6 H) G (o.a70 a6)
  exact y6 v (I3 p) (up2 (n:=n) a6 d a6) (AT _ _) (XE b (n+2) _ (ET (DT d) (p.sh 1 1)) a9 a6 H) G (o.a70 a6)
 |.subst x a b f,n,c,d,w,z,⟨o,p,m,A,_,t,u,e,B⟩=>by
  have r:nA=100000:=rfl;simp only[Jt.p,Pf.cnt]at w z;have v:=XE a n c d a6 a6 m;have L:TK n u:=by
   have:=Jt.FKj m;rw[e]at this;exact this.eq2
  have g:=d6 (a:=a) (b:=b) (t:=t) (u:=u) (x:=x) (f:=f) (by rw[<-e];exact v) (XE b n c d a6 a6 A) (oX p L a6 B) (o.a70 a6);rw[<-e]at g;exact g
open Go.Lg
inductive Hy where|bare (pl:Nat)|hy (t:Tm) (d pl:Nat)
def Hy.k:Hy->Nat|.bare _=>0|.hy t _ _=>t.kd
def Hy.i:Hy->Nat|.bare _=>0|.hy t _ _=>t.ix
def Hy.tk:Hy->Nat|.bare _=>0|.hy t _ _=>t.tk
def Hy.te:Hy->List (List PV)|.bare _=>[]|.hy t _ _=>t.te
def Hy.es:Hy->List (List PV)|.bare _=>[]|.hy t _ _=>t.es
def Hy.d:Hy->Nat|.bare _=>0|.hy _ d _=>d
def Hy.has:Hy->Bool|.bare _=>false|.hy _ _ _=>true
def Hy.pl:Hy->Nat|.bare p=>p|.hy _ _ p=>p
abbrev Hy.c(h:Hy):List PV:=[num h.k,num h.i,num h.tk,.slice h.te,.slice h.es,num h.d,.bool h.has,num h.pl]
abbrev ec(e:Tm×Nat):List PV:=[num e.1.kd,num e.1.ix,num e.1.tk,.slice e.1.te,.slice e.1.es,num e.2]
def Kn(e:Tm×Nat):(ec e).length=6:=rfl
def Hy.c_len(h:Hy):h.c.length=8:=rfl
structure Sc where
 dep:Nat
 hyps:Nat
 vs:List (Tm×Nat)
 ks:List Hy
abbrev Sc.p(s:Sc):PV:=.agg [num s.dep,num s.hyps,.slice (s.vs.map ec),.slice (s.ks.map Hy.c)]
def ent(a:List (Tm×Nat))(v:Nat):Option (Tm×Nat):=if v<a.length then a[a.length-1-v]? else none
def Tm.ps(c:List (Tm×Nat))(d:Nat):Tm->Nat->Tm
 |.v i,b=>if i<b then .v i else match ent c (i-b)with
  |some e=>e.1.sh 0 (.ofNat (d-e.2+b))|none=>.v i
 |.lam s t,b=>.lam s (t.ps c d (b+1))|.n0 k,_=>.n0 k|.n1 k a,b=>.n1 k (a.ps c d b)|.n2 k x y,b=>.n2 k (x.ps c d b) (y.ps c d b)|.n3 k s x y z,b=>.n3 k s (x.ps c d b) (y.ps c d b) (z.ps c d b)
def GT{vs:List (Tm×Nat)}{v:Nat}(h:v<vs.length:=by omega):∃e,ent vs v=some e/\e∈vs:=by
 unfold ent;obtain⟨e,a⟩:∃e,vs[vs.length-1-v]? =some e:=⟨_,e7 a6⟩
 grind
def Ln{a:List (Tm×Nat)}{v:Nat}{e:Tm×Nat}(h:ent a v=some e):e∈a:=by
 grind[ent,List.mem_of_getElem]
def AX(a:List (Tm×Nat))(e:Tm×Nat):ent (a++[e]) 0=some e:=by
 simp[ent,gm]
def Ae(a:List (Tm×Nat))(e:Tm×Nat)(v:Nat):ent (a++[e]) (v+1)=ent a v:=by
 grind[ent]
def DI(d:Nat)(a:List (Tm×Nat)):Prop:=∀e∈a,e.2<=d/\TK e.2 e.1
def KK{f:List (Tm×Nat)}{d:Nat}(c:DI d f):∀(t:Tm)(b:Nat),(t.ps f d b).cnt<=4096*t.cnt
 |.v i,b=>by
  unfold Tm.ps;split
  ·omega
  split
  ·rename_i e g;rw[LC];have:=(c e (Ln g)).2.cnt
   grind[Tm.cnt]
  omega
 |.lam s t,b=>by have:=KK c t (b+1);grind[Tm.ps,Tm.cnt]|.n0 _,b=>by simp[Tm.ps,Tm.cnt]|.n1 _ a,b=>by have:=KK c a b;grind[Tm.ps,Tm.cnt]|.n2 _ x y,b=>by have:=KK c x b;have:=KK c y b;grind[Tm.ps,Tm.cnt]|.n3 _ _ x y z,b=>by have:=KK c x b;have:=KK c y b;have:=KK c z b;grind[Tm.ps,Tm.cnt]
def EI{k:List (Tm×Nat)}{d:Nat}(c:DI d k):∀(t:Tm)(b:Nat),t.shp=true->(t.ps k d b).shp=true
 |.v i,b,h=>by
  unfold Tm.ps;split
  ·rfl
  split
  ·rename_i e l;rw[oK];exact(c e (Ln l)).2.shp
  rfl
 |.lam s t,b,h=>by
  have⟨g,f⟩:=JA h;show(_&&_)=true;rw[g,EI c t (b+1) f];rfl
 |.n0 _,b,h=>rfl|.n1 _ a,b,h=>EI c a b h|.n2 _ x y,b,h=>by
  have⟨g,f⟩:=JA h;show(_&&_)=true;rw[EI c x b g,EI c y b f];rfl
 |.n3 _ _ x y z,b,h=>by
  have⟨g,f⟩:=JA h;have⟨f,j⟩:=JA f;have⟨j,m⟩:=JA j;show(_&&(_&&(_&&_)))=true;rw[g,EI c x b f,EI c y b j,EI c z b m];rfl
def FI{vs:List (Tm×Nat)}{d:Nat}(c:DI d vs):∀(t:Tm)(b:Nat),t.sc (vs.length+b)->(t.ps vs d b).sc (d+b)
 |.v i,b,h=>by
  have h:i<vs.length+b:=h;unfold Tm.ps;split
  ·show i<d+b;omega
  have⟨e,f,g⟩:=GT (vs:=vs) (v:=i-b);rw[f];have⟨k,j⟩:=c e g;have:=rG (d-e.2+b) e.1 0 e.2 j.sc;rwa[show e.2+(d-e.2+b)=d+b by omega]at this
 |.lam s t,b,h=>FI c t (b+1) h|.n0 _,b,h=>trivial|.n1 _ a,b,h=>FI c a b h|.n2 _ x y,b,h=>⟨FI c x b h.1,FI c y b h.2⟩|.n3 _ _ x y z,b,h=>⟨FI c x b h.1,FI c y b h.2.1,FI c z b h.2.2⟩
def aE(k:Nat)(a:List Fm):(fA k a).map Fm.has=a.map Fm.has:=by
 grind[List.map_congr_left,XA,nE]
open Go.Lg
structure ScOK(n:Nat)(bs:List Bool)(s:Sc):Prop where
 vl:s.vs.length=n
 kl:s.ks.length=bs.length
 ve:DI s.dep s.vs
 ke:∀h∈s.ks,∀t d p,h=Hy.hy t d p->d<=s.dep/\TK d t
 kh:∀i:Nat,bs[i]? =some true->∃t d p,s.ks[i]? =some (Hy.hy t d p)
def Sc.bind(s:Sc):Sc:=⟨s.dep+1,s.hyps,s.vs,s.ks⟩
def Sc.var(s:Sc)(t:Tm):Sc:=⟨s.dep,s.hyps,s.vs++[(t,s.dep)],s.ks⟩
def Sc.hyp(s:Sc)(t:Tm):Sc:=⟨s.dep,s.hyps+1,s.vs,s.ks++[.hy t s.dep s.hyps]⟩
def Sc.bare(s:Sc):Sc:=⟨s.dep,s.hyps+1,s.vs,s.ks++[.bare s.hyps]⟩
theorem ScOK.bind{n:Nat}{a:List Bool}{s:Sc}(h:ScOK n a s):ScOK n a s.bind:=
 ⟨h.vl,h.kl,λe a=>⟨aaR (h.ve e a).1,(h.ve e a).2⟩,λx a t d p e=>⟨aaR (h.ke x a t d p e).1,(h.ke x a t d p e).2⟩,h.kh⟩
theorem ScOK.var{n:Nat}{b:List Bool}{s:Sc}{t:Tm}(h:ScOK n b s)(c:TK s.dep t):ScOK (n+1) b (s.var t):=
 ⟨by simp[Sc.var,h.vl],h.kl,λe a=>by
  rcases eh.1 a with a|a
  ·exact h.ve e a
  simp at a;subst a;exact⟨e6 _,c⟩,h.ke,h.kh⟩
def Mn{a:List Bool}{c:List Hy}{x:Hy}{b:Bool}(e:c.length=a.length)(h:∀i:Nat,a[i]? =some true->∃t d p,c[i]? =some (Hy.hy t d p))(e:b=true->∃t d p,x=Hy.hy t d p)(i:Nat)(e:(a++[b])[i]? =some true):∃t d p,(c++[x])[i]? =some (Hy.hy t d p):=by
 grind
theorem ScOK.hyp{n:Nat}{c:List Bool}{s:Sc}{t:Tm}(h:ScOK n c s)(f:TK s.dep t)(b:Bool):ScOK n (c++[b]) (s.hyp t):=
 ⟨h.vl,by simp[Sc.hyp,h.kl],h.ve,(λx a g d p e=>by
  rcases eh.1 a with a|a
  ·exact h.ke x a g d p e
  simp at a;subst a;cases e;exact⟨e6 _,f⟩),Mn h.kl h.kh λ_=>⟨_,_,_,rfl⟩⟩
theorem ScOK.bare{n:Nat}{b:List Bool}{s:Sc}(h:ScOK n b s):ScOK n (b++[false]) s.bare:=
 ⟨h.vl,by simp[Sc.bare,h.kl],h.ve,(λx a c d p e=>by
  rcases eh.1 a with a|a
  ·exact h.ke x a c d p e
  simp_all),Mn h.kl h.kh nofun⟩
def aab{p:Prop}(h:p:=by simp[Tm.cnt]):=h
def TB{n i:Nat}(h:i<n:=by omega):TK n (.v i):=⟨aab,rfl,h⟩
def LK{n:Nat}{k:K1}{a:Tm}(h:TK n a)(b:a.cnt<4096):TK n (.n1 k a):=⟨by grind[Tm.cnt],h.shp,h.sc⟩
def A6{n m:Nat}{t:Tm}(h:TK n t)(a:n<=m):TK m t:=⟨h.cnt,h.shp,Pd t a h.sc⟩
theorem TK.sh{n:Nat}{t:Tm}(h:TK n t)(k:Nat):TK (n+k) (t.sh 0 (.ofNat k)):=⟨by rw[LC];exact h.cnt,by rw[oK];exact h.shp,rG k t 0 n h.sc⟩
inductive XR where|er (x:Sx) (n:Nat)|ok (t:Tm)
def XR.k:XR->Nat|.er x _=>x.k|.ok t=>t.kd
def XR.i:XR->Nat|.er x _=>x.i|.ok t=>t.ix
def XR.tk:XR->Nat|.er x _=>x.tk|.ok t=>t.tk
def XR.te:XR->List (List PV)|.er x _=>x.te|.ok t=>t.te
def XR.es:XR->List (List PV)|.er x _=>x.es|.ok t=>t.es
def XR.e:XR->Nat|.er _ n=>n+1|.ok _=>0
def XR.p(r:XR):PV:=.tuple [.agg [num r.k,num r.i,num r.tk,.slice r.te,.slice r.es],num r.e]
def TA(i:Nat):A 92 [num i] (Tm.v i).p:=f0 []
def GM(s:Sc)(h:s.dep<=qA:=by omega):A 102 [s.p] s.bind.p:=by
 have:=zA;have:=yA;exact f1 [5] (lA (a:=s.dep) (b:=1))
def MK(s:Sc)(t:Tm)(h:s.vs.length<=qA):A 103 [s.p,t.p] (s.var t).p:=by
 have:=zA;have a:=qH (s.vs.map ec).length;have b:=jG 6 80 Kn bb s.vs (t,s.dep) a6 (by simp only[maxLen];omega);rw[show(s.var t).p=.agg [num s.dep,num s.hyps,.slice (s.vs.map ec++[ec (t,s.dep)]),.slice (s.ks.map Hy.c)] by simp[Sc.var]];exact f2 [(13,.ok),(19,.ok)] a b
def HO(s:Sc)(t:Tm)(h:s.ks.length<=qA:=by omega)(a:s.hyps<=qA:=by omega):A 155 [s.p,t.p] (s.hyp t).p:=by
 have:=zA;have:=yA;have a:=qH (s.ks.map Hy.c).length;have b:=jG 8 96 Hy.c_len bb s.ks (.hy t s.dep s.hyps) a6 (by simp only[maxLen];omega);rw[show(s.hyp t).p=.agg [num s.dep,num (s.hyps+1),.slice (s.vs.map ec),.slice (s.ks.map Hy.c++[(Hy.hy t s.dep s.hyps).c])] by simp[Sc.hyp]];exact f3 [(13,.ok),(22,.ok),26] a b (lA (a:=s.hyps) (b:=1))
def IT(s:Sc)(h:s.ks.length<=qA:=by omega)(a:s.hyps<=qA:=by omega):A 154 [s.p] s.bare.p:=by
 have:=zA;have:=yA;have a:=qH (s.ks.map Hy.c).length;have b:=jG 8 96 Hy.c_len bb s.ks (.bare s.hyps) a6 (by simp only[maxLen];omega);rw[show s.bare.p=.agg [num s.dep,num (s.hyps+1),.slice (s.vs.map ec),.slice (s.ks.map Hy.c++[(Hy.bare s.hyps).c])] by simp[Sc.bare]];exact f3 [(11,.ok),(16,.ok),20] a b (lA (a:=s.hyps) (b:=1))
theorem HM(k:Nat)(j:k+1<=qA+qA):∀(t:Tm)(c:Nat),t.mx<=qA*qA->c+t.cnt<=qA->A 188 [t.p,num c,num (k+1)] (t.sh c (.ofNat (k+1))).p
 |.v i,c,f,g=>by
  have n:=zA;have:=yA;have f:i<=qA*qA:=f;rw[n]at f;by_cases h:c<=i
  ·have e:(Tm.v i).sh c (.ofNat (k+1))=.v (i+(k+1)):=by simp only[Tm.sh,gm h];rfl
   rw[e];exact f2 [19,23] (dJ h) (lA (a:=i) (b:=k+1))
  have e:(Tm.v i).sh c (.ofNat (k+1))=.v i:=by simp only[Tm.sh,e9 h]
  rw[e];exact f1 [19] (jH (show i<c by omega))
 |.lam s b,c,f,g=>by
  have g:c+(1+b.cnt)<=qA:=g;have n:=zA;exact f2 [(30,.ok),45] (BA (show c+1<=_ by omega)) (HM k j b (c+1) f a6)
 |.n0 q,c,_,_=>by cases q<;>exact f0 []
 |.n1 q a,c,f,g=>by
  have g:c+(1+a.cnt)<=qA:=g;have l:=HM k j a c f a6;cases q<;>exact f1 [45] l
 |.n2 q a b,c,f,g=>by
  simp only[Tm.mx,Tm.cnt]at f g;have l:=HM k j a c a6 a6;have m:=HM k j b c a6 a6;cases q<;>exact f2 [45,45] l m
 |.n3 q s a b d,c,f,g=>by
  simp only[Tm.mx,Tm.cnt]at f g;have l:=HM k j a c a6 a6;have m:=HM k j b c a6 a6;have p:=HM k j d c a6 a6;cases q<;>exact f3 [45,45,45] l m p
def IM(t:Tm)(c k:Nat)(a:k<=qA+qA:=by omega)(h:t.mx<=qA*qA:=by omega)(b:c+t.cnt<=qA:=by omega):A 188 [t.p,num c,num k] (t.sh c (.ofNat k)).p:=by
 cases k with
 |zero=>
  rw[VE];exact f0 []
 |succ k=>grind[HM]
def rD:∀t:Tm,t.cnt<=bA->A 173 [t.p] (num t.cnt)
 |.v i,h=>f0 []|.lam s b,h=>by
  simp only[Tm.cnt]at h;exact f2 [15,16] (rD b a6) (lA (a:=1))
 |.n0 k,h=>by cases k<;>exact f0 []
 |.n1 k a,h=>by
  simp only[Tm.cnt]at h;have c:=rD a a6;have e:=lA (a:=1) (b:=a.cnt);cases k<;>exact f2 [15,16] c e
 |.n2 k a b,h=>by
  simp only[Tm.cnt]at h;have c:=rD a a6;have e:=lA (a:=1) (b:=a.cnt);have f:=rD b a6;have g:=lA (a:=1+a.cnt) (b:=b.cnt);cases k<;>exact f4 [15,16,15,16] c e f g
 |.n3 k s a b d,h=>by
  simp only[Tm.cnt]at h;have c:=rD a a6;have e:=lA (a:=1) (b:=a.cnt);have f:=rD b a6;have g:=lA (a:=1+a.cnt) (b:=b.cnt);have j:=rD d a6;have l:=lA (a:=1+a.cnt+b.cnt) (b:=d.cnt);cases k<;>exact f6 [15,16,15,16,15,16] c e f g j l
def NK(s:Sc)(c:DI s.dep s.vs)(d:s.dep<=nA)(f:s.vs.length<=nA):∀(t:Tm)(b:Nat),t.sc (s.vs.length+b)->b+t.cnt<=qA->A 245 [s.p,t.p,num b] (t.ps s.vs s.dep b).p
 |.v i,b,h,a=>by
  have p:=zA;have:=yA;have:nA=100000:=rfl;simp only[Tm.cnt]at a;have h:i<s.vs.length+b:=h;by_cases r:i<b
  ·have e:(Tm.v i).ps s.vs s.dep b=.v i:=by simp only[Tm.ps,gm r]
   rw[e];have j:xA (Int.ofNat i-.ofNat b)=true/\Int.ofNat i-.ofNat b=Int.ofNat i-.ofNat b:=cQ;have k:dA (Int.ofNat i-.ofNat b) (.ofNat 0)=true:=by rw[vC];simp;omega
   exact f2 [(18,.y (Int.ofNat i-.ofNat b)),20] j k
  have j:xA (Int.ofNat i-.ofNat b)=true/\Int.ofNat i-.ofNat b=.ofNat (i-b):=by
   have e:Int.ofNat i-.ofNat b=.ofNat (i-b):=a9
   grind[BA]
  have⟨e,l,m⟩:=GT (vs:=s.vs) (v:=i-b);have n:s.vs[s.vs.length-1-(i-b)]? =some e:=by
   unfold ent at l;rwa[gm a6]at l
  have C:(Tm.v i).ps s.vs s.dep b=e.1.sh 0 (.ofNat (s.dep-e.2+b)):=by simp only[Tm.ps,e9 r,l]
  rw[C];have⟨L,v⟩:=c e m;have k:dA (.ofNat (i-b)) (.ofNat 0)=false:=iA (c6 _);have D:(!dA (.ofNat (i-b)) (.ofNat (s.vs.map ec).length))=false:=jH a9;have E:=lC (a:=(s.vs.map ec).length) a9 a9;have F:xA (Int.ofNat ((s.vs.map ec).length-1)-.ofNat (i-b))=true/\Int.ofNat ((s.vs.map ec).length-1)-.ofNat (i-b)=.ofNat (s.vs.length-1-(i-b)):=by
   have e:Int.ofNat ((s.vs.map ec).length-1)-.ofNat (i-b)=.ofNat (s.vs.length-1-(i-b)):=a9
   grind[BA]
  have G:=EA n Kn;have H:xA (Int.ofNat s.dep-.ofNat e.2)=true/\Int.ofNat s.dep-.ofNat e.2=.ofNat (s.dep-e.2):=by
   have e:Int.ofNat s.dep-.ofNat e.2=.ofNat (s.dep-e.2):=a9
   grind[BA]
  have I:=lA (a:=s.dep-e.2) (b:=b);have J:=IM e.1 0 (s.dep-e.2+b) a6 (by have:=v.mx a6;rw[p];omega) (by have:=v.cnt;omega);exact f9 [18,20,26,34,36,(37,.i (ec e)),45,47,48] j k D E F G H I J
 |.lam u t,b,h,a=>by
  have a:b+(1+t.cnt)<=qA:=a;have p:=zA;exact f2 [(53,.ok),68] (BA (show b+1<=_ by omega)) (NK s c d f t (b+1) h a6)
 |.n0 q,b,_,_=>by cases q<;>exact f0 []
 |.n1 q x,b,h,a=>by
  have a:b+(1+x.cnt)<=qA:=a;have g:=NK s c d f x b h a6;cases q<;>exact f1 [68] g
 |.n2 q x y,b,h,a=>by
  simp only[Tm.cnt]at a;have g:=NK s c d f x b h.1 a6;have o:=NK s c d f y b h.2 a6;cases q<;>exact f2 [68,68] g o
 |.n3 q u x y z,b,h,a=>by
  simp only[Tm.cnt]at a;have g:=NK s c d f x b h.1 a6;have o:=NK s c d f y b h.2.1 a6;have K:=NK s c d f z b h.2.2 a6;cases q<;>exact f3 [68,68,68] g o K
def XR.fit(t:Tm):XR:=if t.cnt<=4096 then .ok t else .er .z 3
def B6(s:Sc)(t:Tm)(b:Nat)(n:Nat)(f:n=s.vs.length)(a:DI s.dep s.vs)(g:s.dep<=nA)(i:s.vs.length<=nA)(c:TK n t):A 167 [s.p,t.p,num 0] (XR.fit (t.ps s.vs s.dep 0)).p:=by
 have j:=zA;have k:=yA;have l:=c.cnt;have d:=NK s a g i t 0 (f▸c.sc) a6;have m:=KK a t 0;have e:=rD (t.ps s.vs s.dep 0) a6;unfold XR.fit;split
 ·rename_i h;exact f3 [12,14,15] d e (iA h)
 rename_i h;exact f3 [12,14,15] d e (KA (a:=4096) (i3 h))
def JT(s:Sc)(t:Tm)(n:Nat)(a:n=s.vs.length)(b:DI s.dep s.vs)(c:s.dep<=nA)(d:s.vs.length<=nA)(e:TK n t):A 104 [s.p,t.p] (XR.fit (t.ps s.vs s.dep 0)).p:=
 f1 [8] (B6 s t 0 n a b c d e)
abbrev BX:PV:=.agg [num 0,.slice []]
def C6(s:Ty)(b:Tm)(h:b.cnt<=qA):A 169 [num 2,s.p,row [b]] (XR.fit (.lam s b)).p:=by
 have g:=rD (.lam s b) (by grind[Tm.cnt]);unfold XR.fit;split
 ·rename_i h;exact f2 [14,15] g (iA h)
 rename_i h;exact f2 [14,15] g (KA (a:=4096) (i3 h))
def Be(k:K1)(b:Tm)(h:b.cnt<=qA:=by omega):A 169 [num k.n,BX,row [b]] (XR.fit (.n1 k b)).p:=by
 have g:=rD (.n1 k b) (by grind[Tm.cnt]);unfold XR.fit;split
 ·rename_i h;cases k<;>exact f2 [14,15] g (iA h)
 rename_i h;cases k<;>exact f2 [14,15] g (KA (a:=4096) (i3 h))
def JM(k:K2)(a b:Tm)(h:a.cnt+b.cnt<=qA:=by omega):A 169 [num k.n,BX,row [a,b]] (XR.fit (.n2 k a b)).p:=by
 have g:=rD (.n2 k a b) (by grind[Tm.cnt]);unfold XR.fit;split
 ·rename_i h;cases k<;>exact f2 [14,15] g (iA h)
 rename_i h;cases k<;>exact f2 [14,15] g (KA (a:=4096) (i3 h))
def Nn(k:K3)(s:Ty)(a b d:Tm)(h:a.cnt+b.cnt+d.cnt<=qA:=by omega):A 169 [num k.n,s.p,row [a,b,d]] (XR.fit (.n3 k s a b d)).p:=by
 have g:=rD (.n3 k s a b d) (by grind[Tm.cnt]);unfold XR.fit;split
 ·rename_i h;cases k<;>exact f2 [14,15] g (iA h)
 rename_i h;cases k<;>exact f2 [14,15] g (KA (a:=4096) (i3 h))
def D6(s:Sc)(i:Nat)(t:Tm)(d p:Nat)(h:s.ks[i]? =some (.hy t d p))(a:d<=s.dep)(a:s.dep<=nA)(a:TK d t):A 315 [s.p,num i] (.tuple [(t.sh 0 (.ofNat (s.dep-d))).p,.bool true]):=by
 have b:=zA;have:nA=100000:=rfl;have c:xA (Int.ofNat s.dep-.ofNat d)=true/\Int.ofNat s.dep-.ofNat d=.ofNat (s.dep-d):=by
  grind[BA]
 exact f3 [(10,.i (Hy.hy t d p).c),20,21] (EA h Hy.c_len) c (IM t 0 (s.dep-d) a6 (by have:=a.mx a6;rw[b];omega) (by have:=a.cnt;omega))
def Ce:∀t:Ty,t.size<=bA->A 422 [t.p] (num t.size)
 |.nat,_=>f0 []|.list,_=>f0 []|.unit,_=>f0 []|.two k a b,h=>by
  simp only[Ty.size]at h;have c:=Ce a a6;have d:=lA (a:=1) (b:=a.size);have e:=Ce b a6;have f:=lA (a:=1+a.size) (b:=b.size);cases k<;>exact f4 [15,16,15,16] c d e f
def On(k:Bool)(s u:Ty)(h:s.size+u.size<=qA):A 412 [num (bn k 3 4),s.p,u.p] (TR.fit (.two k s u)).p:=by
 have g:=Ce (.two k s u) (by grind[Ty.size]);unfold TR.fit;split
 ·rename_i h;cases k<;>exact f2 [15,16] g (iA h)
 rename_i h;cases k<;>exact f2 [15,16] g (KA (a:=64) (i3 h))
def Qn(s u:Ty)(h:s.size+u.size<=qA:=by omega):A 396 [s.p,u.p] (TR.fit (.two false s u)).p:=f1 [8] (On false s u h)
def E6(s u:Ty)(h:s.size+u.size<=qA):A 399 [s.p,u.p] (TR.fit (.two true s u)).p:=f1 [8] (On true s u h)
def sD:A 91 [] (Tm.n0 .unit).p:=f0 []
def NQ:A 319 [] Ty.nat.p:=f0 []
def Rn:A 320 [] Ty.list.p:=f0 []
open Go.Lg
def Ty.ini:Ty->Tm
 |.nat=>.n0 .zero|.list=>.n0 .nil|.unit=>.n0 .unit|.two k a b=>match k with|false=>.n2 .pair a.ini b.ini|true=>.lam a b.ini
def KM:∀t:Ty,A 374 [t.p] t.ini.p|.nat=>f0 []|.list=>f0 []|.unit=>f1 [38] sD|.two false a b=>f2 [17,22] (KM a) (KM b)|.two true a b=>f1 [35] (KM b)
def DJ{s:Ty}(h:s.size<=64:=by omega):Nat.beq s.chk 0=true:=by rw[RH,ckE_0.2 h];rfl
def CX:∀t:Ty,t.ini.cnt<=t.size|.nat=>e6 _|.list=>e6 _|.unit=>e6 _|.two false a b=>by have:=CX a;have:=CX b;grind[Ty.ini,Tm.cnt,Ty.size]|.two true a b=>by have:=CX b;grind[Ty.ini,Tm.cnt,Ty.size]
def DX:∀t:Ty,t.size<=64->t.ini.shp=true
 |.nat,_=>rfl|.list,_=>rfl|.unit,_=>rfl|.two false a b,h=>by
  simp only[Ty.size]at h;show(_&&_)=true;rw[DX a a6,DX b a6];rfl
 |.two true a b,h=>by
  simp only[Ty.size]at h;show(_&&_)=true;rw[DJ (s:=a),DX b a6];rfl
def MT:∀(t:Ty)(n:Nat),t.ini.sc n|.nat,_=>trivial|.list,_=>trivial|.unit,_=>trivial|.two false a b,n=>⟨MT a n,MT b n⟩|.two true a b,n=>MT b (n+1)
def LF(t:Ty)(h:t.size<=64)(n:Nat):TK n t.ini:=⟨by have:=CX t;omega,DX t h,MT t n⟩
def GI{n:Nat}{f:Fm}(h:FK n f)(a:n<=nA:=by omega):∃r:TR,A 163 [f.p] (.tuple [.agg [num r.k,.slice r.l],.bool f.has,num r.n])/\r.sz<=64/\(∀n,r=.er n->n=3)/\∀t,r=.ok t->f.has=true->t=f.cty:=by
 have⟨r,g,q,b,c⟩:=h.a34;exact⟨r,f2 [10,19] (h.a70 a) g,q,c,b⟩
def JO{t:Ty}{n:Nat}(h:TR.fit t=.er n):n=3:=by
 unfold TR.fit at h;split at h<;>cases h;rfl
def XR.lam(s:Ty):XR->XR|.er _ n=>.er .z n|.ok t=>.fit (.lam s t)
def XR.two(k:K2):XR->XR->XR|.er _ n,_=>.er .z n|.ok _,.er _ n=>.er .z n|.ok a,.ok b=>.fit (.n2 k a b)
def XR.cn:XR->Nat|.er _ _=>0|.ok t=>t.cnt
abbrev XR.b(r:XR):PV:=.agg [num r.k,num r.i,num r.tk,.slice r.te,.slice r.es]
def EJ(s:Ty)(r:XR)(h:r.cn<=4096):A 317 [s.p,r.b,num r.e] (r.lam s).p:=by
 cases r with
 |er x n=>exact f0 []|ok t=>
  have:=zA;exact f1 [15] (C6 s t (by have h:t.cnt<=4096:=h;omega))
def F6(t:Tm):(XR.fit t).cn<=4096:=by
 unfold XR.fit;split
 ·assumption
 exact c6 _
def LM(s:Ty)(r:XR):(r.lam s).cn<=4096:=by
 cases r with|er x n=>exact c6 _|ok t=>exact F6 _
def XR.one(k:K1):XR->XR|.er x n=>.er x n|.ok t=>.fit (.n1 k t)
def XR.Gd(d:Nat)(x:Tm):XR->Prop|.er _ n=>n=3|.ok t=>TK d t/\t=x
def XR.Gd.cn{d:Nat}{x:Tm}{r:XR}(h:r.Gd d x):r.cn<=4096:=by
 cases r with|er x n=>exact c6 _|ok t=>exact h.1.cnt
def PK{d:Nat}{t x:Tm}(a:t.shp=true)(b:t.sc d)(c:t=x):(XR.fit t).Gd d x:=by
 unfold XR.fit;split
 ·rename_i h;exact⟨⟨h,a,b⟩,c⟩
 rfl
def FJ{d:Nat}{x:Tm}{s:Ty}{r:XR}(b:s.size<=64)(h:r.Gd (d+1) x):(r.lam s).Gd d (.lam s x):=by
 cases r with
 |er x n=>exact h|ok t=>
  obtain⟨a,rfl⟩:=h;refine PK ?_ a.sc rfl;show(_&&_)=true;rw[DJ b,a.shp];rfl
def KO{d:Nat}{x y:Tm}{k:K2}{a b:XR}(c:a.Gd d x)(e:b.Gd d y):(XR.two k a b).Gd d (.n2 k x y):=by
 cases a with
 |er x n=>exact c|ok x=>cases b with
  |er z n=>exact e|ok y=>
   obtain⟨f,rfl⟩:=c;obtain⟨g,rfl⟩:=e;refine PK ?_ ⟨f.sc,g.sc⟩ rfl;show(_&&_)=true;rw[f.shp,g.shp];rfl
def Sn{d:Nat}{x:Tm}{k:K1}{a:XR}(b:a.Gd d x):(XR.one k a).Gd d (.n1 k x):=by
 cases a with
 |er x n=>exact b|ok x=>
  obtain⟨c,rfl⟩:=b;exact PK c.shp c.sc rfl
abbrev eA(tl:List Tm):PV:=.agg [row tl]
abbrev tyR(r:TR)(b:Bool):PV:=.tuple [.agg [num r.k,.slice r.l],.bool b,num r.n]
abbrev iB(tl:List Tm)(hs:List Fm)(a:Jt)(F:Fm)(s:Sc)(r:XR):Prop:=A 244 [eA tl,a.pf hs F,s.p] r.p
variable{tl:List Tm}{hs:List Fm}{s:Sc}
def G6{a b:Jt}{x y:Fm}{c rb:XR}(d:x.has=true)(hy:y.has=true)(ga:iB tl hs a x s c)(e:iB tl hs b y s rb)(f:c.cn<=4096)(g:rb.cn<=4096):A 244 [eA tl,cA (Pf.p2 .andI a.p b.p) (Fm.bin .and x y) hs [[a.pf hs x],[b.pf hs y]],s.p] (XR.two .pair c rb).p:=by
 cases c with
 |er x n=>exact f3 [71,81,(87,.n [(13,.n [(15,.r (XR.er x n).p)])])] d hy ga|ok t=>cases rb with
  |er x n=>exact f4 [71,81,(87,.n [(13,.n [(15,.r (XR.ok t).p)]),(22,.n [(15,.r (XR.er x n).p)])])] d hy ga e|ok u=>
   have:t.cnt<=4096:=f;have:u.cnt<=4096:=g;have:=zA;exact f5 [71,81,(87,.n [(13,.n [(15,.r (XR.ok t).p)]),(22,.n [(15,.r (XR.ok u).p)]),(34,.r (XR.fit (.n2 .pair t u)).p)])] d hy ga e (JM .pair t u)
def I6{a b:Jt}{x y:Fm}{c:XR}(d:x.has=true)(hy:y.has=false)(ga:iB tl hs a x s c):A 244 [eA tl,cA (Pf.p2 .andI a.p b.p) (Fm.bin .and x y) hs [[a.pf hs x],[b.pf hs y]],s.p] c.p:=by
 exact f4 [71,81,99,108] d hy d ga
def J6{a b:Jt}{x y:Fm}{rb:XR}(c:x.has=false)(d:iB tl hs b y s rb):A 244 [eA tl,cA (Pf.p2 .andI a.p b.p) (Fm.bin .and x y) hs [[a.pf hs x],[b.pf hs y]],s.p] rb.p:=by
 exact f3 [71,99,119] c c d
def K6{a:Jt}{f y:Fm}{ra:XR}{t0 t1:TR}(ga:iB tl hs a (.bin .and f y) s ra)(b:A 163 [f.p] (tyR t0 true))(c:A 163 [y.p] (tyR t1 true))(d:ra.cn<=4096):A 244 [eA tl,cA (Pf.p1 .andL a.p) f hs [[a.pf hs (.bin .and f y)]],s.p] (XR.one .fst ra).p:=by
 cases ra with
 |er x n=>exact f3 [134,150,167] ga b c|ok t=>
  have:t.cnt<=4096:=d;have:=zA;exact f4 [134,150,167,193] ga b c (Be .fst t)
def L6{a:Jt}{f y:Fm}{ra:XR}{t0 t1:TR}(ga:iB tl hs a (.bin .and f y) s ra)(b:A 163 [f.p] (tyR t0 true))(c:A 163 [y.p] (tyR t1 false))(d:ra.cn<=4096):A 244 [eA tl,cA (Pf.p1 .andL a.p) f hs [[a.pf hs (.bin .and f y)]],s.p] ra.p:=by
 cases ra with|er x n=>exact f3 [134,150,167] ga b c|ok t=>exact f3 [134,150,167] ga b c
def M6{a:Jt}{f y:Fm}{ra:XR}{t0 t1:TR}(ga:iB tl hs a (.bin .and y f) s ra)(b:A 163 [y.p] (tyR t0 true))(c:A 163 [f.p] (tyR t1 true))(d:ra.cn<=4096):A 244 [eA tl,cA (Pf.p1 .andR a.p) f hs [[a.pf hs (.bin .and y f)]],s.p] (XR.one .snd ra).p:=by
 cases ra with
 |er x n=>exact f3 [134,150,167] ga b c|ok t=>
  have:t.cnt<=4096:=d;have:=zA;exact f4 [134,150,167,193] ga b c (Be .snd t)
def N6{a:Jt}{f y:Fm}{ra:XR}{t0 t1:TR}(ga:iB tl hs a (.bin .and y f) s ra)(b:A 163 [y.p] (tyR t0 false))(c:A 163 [f.p] (tyR t1 true))(d:ra.cn<=4096):A 244 [eA tl,cA (Pf.p1 .andR a.p) f hs [[a.pf hs (.bin .and y f)]],s.p] ra.p:=by
 cases ra with|er x n=>exact f3 [134,150,167] ga b c|ok t=>exact f3 [134,150,167] ga b c
def O6{a:Jt}{x y:Fm}{n:Nat}{b:Bool}(g:A 163 [x.p] (tyR (.er n) b)):A 244 [eA tl,cA (Pf.impI x a.p) (Fm.bin .imp x y) hs [[a.pf (hs++[x]) y]],s.p] (XR.er .z n).p:=by
 exact f1 [206] g
def P6{a:Jt}{x y:Fm}{u:Ty}{b:XR}(g:A 163 [x.p] (tyR (.ok u) false))(c:A 154 [s.p] s.bare.p)(ga:iB tl (hs++[x]) a y s.bare b):A 244 [eA tl,cA (Pf.impI x a.p) (Fm.bin .imp x y) hs [[a.pf (hs++[x]) y]],s.p] b.p:=by
 exact f3 [206,224,225] g c ga
def Q6{a:Jt}{x y:Fm}{u:Ty}{b:XR}(g:A 163 [x.p] (tyR (.ok u) true))(c:A 102 [s.p] s.bind.p)(d:A 155 [s.bind.p,(Tm.v 0).p] (s.bind.hyp (.v 0)).p)(ga:iB tl (hs++[x]) a y (s.bind.hyp (.v 0)) b)(e:b.cn<=4096):A 244 [eA tl,cA (Pf.impI x a.p) (Fm.bin .imp x y) hs [[a.pf (hs++[x]) y]],s.p] (b.lam u).p:=by
 exact f6 [206,237,238,239,240,246] g c (TA 0) d ga (EJ u b e)
def R6{a b:Jt}{x y f:Fm}{ra:XR}(hy:y.has=false)(ga:iB tl hs a (.bin .imp x f) s ra):A 244 [eA tl,cA (Pf.p2 .impE a.p b.p) f hs [[a.pf hs (.bin .imp x f)],[b.pf hs y]],s.p] ra.p:=by
 exact f2 [259,269] hy ga
def S6{a b:Jt}{x y f:Fm}{ra rb:XR}(hy:y.has=true)(ga:iB tl hs a (.bin .imp x f) s ra)(c:iB tl hs b y s rb)(d:ra.cn<=4096)(e:rb.cn<=4096):A 244 [eA tl,cA (Pf.p2 .impE a.p b.p) f hs [[a.pf hs (.bin .imp x f)],[b.pf hs y]],s.p] (XR.two .app ra rb).p:=by
 cases ra with
 |er x n=>exact f2 [259,(276,.n [(13,.n [(15,.r (XR.er x n).p)])])] hy ga|ok t=>cases rb with
  |er x n=>exact f3 [259,(276,.n [(13,.n [(15,.r (XR.ok t).p)]),(22,.n [(15,.r (XR.er x n).p)])])] hy ga c|ok u=>
   have:t.cnt<=4096:=d;have:u.cnt<=4096:=e;have:=zA;exact f4 [259,(276,.n [(13,.n [(15,.r (XR.ok t).p)]),(22,.n [(15,.r (XR.ok u).p)]),(34,.r (XR.fit (.n2 .app t u)).p)])] hy ga c (JM .app t u)
def T6{u:Ty}{a:Jt}{y:Fm}{b:XR}(c:A 102 [s.p] s.bind.p)(gv:A 103 [s.bind.p,(Tm.v 0).p] (s.bind.var (.v 0)).p)(ga:iB tl (fA 1 hs) a y (s.bind.var (.v 0)) b)(d:b.cn<=4096):A 244 [eA tl,cA (Pf.all false u a.p) (Fm.q .all u y) hs [[a.pf (fA 1 hs) y]],s.p] (b.lam u).p:=by
 exact f5 [(282,.n [(36,.r s.bind.p),(37,.r (Tm.v 0).p),(38,.r (s.bind.var (.v 0)).p),(39,.r b.p),(49,.r (b.lam u).p)])] c (TA 0) gv ga (EJ u b d)
def U6{u:Ty}{a:Jt}{y:Fm}{b:XR}(gv:A 103 [s.p,u.ini.p] (s.var u.ini).p)(ga:iB tl (fA 1 hs) a y (s.var u.ini) b):A 244 [eA tl,cA (Pf.all true u a.p) (Fm.q .allU u y) hs [[a.pf (fA 1 hs) y]],s.p] b.p:=by
 exact f3 [(282,.n [(105,.r u.ini.p),(106,.r (s.var u.ini).p),(107,.r b.p)])] (KM u) gv ga
def V6{a:Jt}{w:Tm}{u:Ty}{x f:Fm}{b c:XR}(ga:iB tl hs a (.q .all u x) s b)(d:A 104 [s.p,w.p] c.p)(e:b.cn<=4096)(g:c.cn<=4096):A 244 [eA tl,cA (Pf.ins false w a.p) f hs [[a.pf hs (.q .all u x)]],s.p] (XR.two .app b c).p:=by
 cases b with
 |er x n=>exact f1 [(282,.n [(57,.n [(13,.n [(15,.r (XR.er x n).p)])])])] ga|ok t=>cases c with
  |er x n=>exact f2 [(282,.n [(57,.n [(13,.n [(15,.r (XR.ok t).p)]),(22,.n [(12,.r (XR.er x n).p)])])])] ga d|ok u=>
   have:t.cnt<=4096:=e;have:u.cnt<=4096:=g;have:=zA;exact f3 [(282,.n [(57,.n [(13,.n [(15,.r (XR.ok t).p)]),(22,.n [(12,.r (XR.ok u).p)]),(34,.r (XR.fit (.n2 .app t u)).p)])])] ga d (JM .app t u)
def W6{a:Jt}{w:Tm}{u:Ty}{x f:Fm}{b:XR}(ga:iB tl hs a (.q .allU u x) s b):A 244 [eA tl,cA (Pf.ins true w a.p) f hs [[a.pf hs (.q .allU u x)]],s.p] b.p:=by
 exact f1 [(282,.n [(128,.r b.p)])] ga
def X6{a:Jt}{w:Tm}{x y:Fm}{b:XR}(hy:y.has=false)(c:A 104 [s.p,w.p] b.p):A 244 [eA tl,cA (Pf.ex false x w a.p) x hs [[a.pf hs y]],s.p] b.p:=by
 exact f2 [(282,.n [(70,.H),(73,.n [(12,.r b.p)])])] hy c
def Y6{a:Jt}{w:Tm}{x y:Fm}{b c:XR}(hy:y.has=true)(ga:iB tl hs a y s b)(d:A 104 [s.p,w.p] c.p)(e:b.cn<=4096)(f:c.cn<=4096):A 244 [eA tl,cA (Pf.ex false x w a.p) x hs [[a.pf hs y]],s.p] (XR.two .pair c b).p:=by
 cases c with
 |er x n=>exact f2 [(282,.n [(70,.G),(79,.n [(13,.n [(12,.r (XR.er x n).p)])])])] hy d|ok t=>cases b with
  |er x n=>exact f3 [(282,.n [(70,.G),(79,.n [(13,.n [(12,.r (XR.ok t).p)]),(22,.n [(15,.r (XR.er x n).p)])])])] hy d ga|ok u=>
   have:t.cnt<=4096:=f;have:u.cnt<=4096:=e;have:=zA;exact f4 [(282,.n [(70,.G),(79,.n [(13,.n [(12,.r (XR.ok t).p)]),(22,.n [(15,.r (XR.ok u).p)]),(34,.r (XR.fit (.n2 .pair t u)).p)])])] hy d ga (JM .pair t u)
def Z6{a:Jt}{w:Tm}{x y:Fm}{b:XR}(ga:iB tl hs a y s b):A 244 [eA tl,cA (Pf.ex true x w a.p) x hs [[a.pf hs y]],s.p] b.p:=by
 exact f1 [(282,.n [(128,.r b.p)])] ga
def z7{a b:Jt}{x y z f:Fm}{rb:XR}(c:iB tl hs b y s rb):A 244 [eA tl,cA (Pf.subst x a.p b.p) f hs [[a.pf hs z],[b.pf hs y]],s.p] rb.p:=by
 exact f1 [(282,.n [(128,.r rb.p)])] c
def j7{a b:Jt}{u:Ty}{x y f:Fm}{n:Nat}{c:Bool}(g:A 163 [x.p] (tyR (.er n) c)):A 244 [eA tl,cA (Pf.p2 .exE a.p b.p) f hs [[a.pf hs (.q .ex u x)],[b.pf (fA 1 hs++[x]) y]],s.p] (XR.er .z n).p:=by
 exact f1 [(282,.n [(87,.n [(29,.r (tyR (.er n) c))])])] g
def v7{a b:Jt}{u w:Ty}{x y f:Fm}{n:Nat}(g:A 163 [x.p] (tyR (.ok w) true))(c:A 102 [s.p] s.bind.p)(d:A 396 [u.p,w.p] (TR.er n).p):A 244 [eA tl,cA (Pf.p2 .exE a.p b.p) f hs [[a.pf hs (.q .ex u x)],[b.pf (fA 1 hs++[x]) y]],s.p] (XR.er .z n).p:=by
 exact f3 [(282,.n [(87,.n [(29,.r (tyR (.ok w) true)),(40,.r s.bind.p),(46,.r (TR.er n).p)])])] g c d
def w7{a b:Jt}{u w:Ty}{x y f:Fm}{c rb:XR}(g:A 163 [x.p] (tyR (.ok w) true))(d:A 102 [s.p] s.bind.p)(e:A 396 [u.p,w.p] (TR.ok (.two false u w)).p)(gv:A 103 [s.bind.p,(Tm.n1 .fst (.v 0)).p] (s.bind.var (.n1 .fst (.v 0))).p)(h:A 155 [(s.bind.var (.n1 .fst (.v 0))).p,(Tm.n1 .snd (.v 0)).p] ((s.bind.var (.n1 .fst (.v 0))).hyp (.n1 .snd (.v 0))).p)(i:iB tl (fA 1 hs++[x]) b y ((s.bind.var (.n1 .fst (.v 0))).hyp (.n1 .snd (.v 0))) rb)(k:rb.cn<=4096)(ga:iB tl hs a (.q .ex u x) s c)(l:c.cn<=4096):A 244 [eA tl,cA (Pf.p2 .exE a.p b.p) f hs [[a.pf hs (.q .ex u x)],[b.pf (fA 1 hs++[x]) y]],s.p] (XR.two .app (rb.lam (.two false u w)) c).p:=by
 have gl:=EJ (.two false u w) rb k;have j:=LM (.two false u w) rb;generalize rb.lam (.two false u w)=m at gl j⊢
 cases m with
 |er x n=>exact f9 [(282,.n [(87,.n [(29,.r (tyR (.ok w) true)),(40,.r s.bind.p),(46,.r (TR.ok (.two false u w)).p),(54,.r (Tm.v 0).p),(57,.r (s.bind.var (.n1 .fst (.v 0))).p),(58,.r (Tm.v 0).p),(61,.r ((s.bind.var (.n1 .fst (.v 0))).hyp (.n1 .snd (.v 0))).p),(75,.r rb.p),(82,.r (XR.er x n).p)])])] g d e (TA 0) gv (TA 0) h i gl|ok t=>cases c with
  |er x n=>exact bJ [(282,.n [(87,.n [(29,.r (tyR (.ok w) true)),(40,.r s.bind.p),(46,.r (TR.ok (.two false u w)).p),(54,.r (Tm.v 0).p),(57,.r (s.bind.var (.n1 .fst (.v 0))).p),(58,.r (Tm.v 0).p),(61,.r ((s.bind.var (.n1 .fst (.v 0))).hyp (.n1 .snd (.v 0))).p),(75,.r rb.p),(82,.r (XR.ok t).p),(87,.n [(22,.n [(13,.r (XR.er x n).p)])])])])] g d e (TA 0) gv (TA 0) h i gl ga|ok v=>
   have:t.cnt<=4096:=j;have:v.cnt<=4096:=l;have:=zA;exact qM [(282,.n [(87,.n [(29,.r (tyR (.ok w) true)),(40,.r s.bind.p),(46,.r (TR.ok (.two false u w)).p),(54,.r (Tm.v 0).p),(57,.r (s.bind.var (.n1 .fst (.v 0))).p),(58,.r (Tm.v 0).p),(61,.r ((s.bind.var (.n1 .fst (.v 0))).hyp (.n1 .snd (.v 0))).p),(75,.r rb.p),(82,.r (XR.ok t).p),(87,.n [(22,.n [(13,.r (XR.ok v).p)]),(34,.r (XR.fit (.n2 .app t v)).p)])])])] g d e (TA 0) gv (TA 0) h i gl ga (JM .app t v)
def k7{a b:Jt}{u w:Ty}{x y f:Fm}{c rb:XR}(g:A 163 [x.p] (tyR (.ok w) false))(d:A 102 [s.p] s.bind.p)(gv:A 103 [s.bind.p,(Tm.v 0).p] (s.bind.var (.v 0)).p)(e:A 154 [(s.bind.var (.v 0)).p] (s.bind.var (.v 0)).bare.p)(h:iB tl (fA 1 hs++[x]) b y (s.bind.var (.v 0)).bare rb)(j:rb.cn<=4096)(ga:iB tl hs a (.q .ex u x) s c)(k:c.cn<=4096):A 244 [eA tl,cA (Pf.p2 .exE a.p b.p) f hs [[a.pf hs (.q .ex u x)],[b.pf (fA 1 hs++[x]) y]],s.p] (XR.two .app (rb.lam u) c).p:=by
 have gl:=EJ u rb j;have i:=LM u rb;generalize rb.lam u=l at gl i⊢
 cases l with
 |er x n=>exact f7 [(282,.n [(87,.n [(29,.r (tyR (.ok w) false)),(40,.r s.bind.p),(63,.r (Tm.v 0).p),(64,.r (s.bind.var (.v 0)).p),(65,.r (s.bind.var (.v 0)).bare.p),(75,.r rb.p),(82,.r (XR.er x n).p)])])] g d (TA 0) gv e h gl|ok t=>cases c with
  |er x n=>exact f8 [(282,.n [(87,.n [(29,.r (tyR (.ok w) false)),(40,.r s.bind.p),(63,.r (Tm.v 0).p),(64,.r (s.bind.var (.v 0)).p),(65,.r (s.bind.var (.v 0)).bare.p),(75,.r rb.p),(82,.r (XR.ok t).p),(87,.n [(22,.n [(13,.r (XR.er x n).p)])])])])] g d (TA 0) gv e h gl ga|ok v=>
   have:t.cnt<=4096:=i;have:v.cnt<=4096:=k;have:=zA;exact f9 [(282,.n [(87,.n [(29,.r (tyR (.ok w) false)),(40,.r s.bind.p),(63,.r (Tm.v 0).p),(64,.r (s.bind.var (.v 0)).p),(65,.r (s.bind.var (.v 0)).bare.p),(75,.r rb.p),(82,.r (XR.ok t).p),(87,.n [(22,.n [(13,.r (XR.ok v).p)]),(34,.r (XR.fit (.n2 .app t v)).p)])])])] g d (TA 0) gv e h gl ga (JM .app t v)
def u7{a b:Jt}{u:Ty}{x y f:Fm}{n:Nat}{c:Bool}(g:A 163 [x.p] (tyR (.er n) c)):A 244 [eA tl,cA (Pf.p2 .exUE a.p b.p) f hs [[a.pf hs (.q .exU u x)],[b.pf (fA 1 hs++[x]) y]],s.p] (XR.er .z n).p:=by
 exact f1 [(282,.n [(146,.r (tyR (.er n) c))])] g
def b7{a b:Jt}{u w:Ty}{x y f:Fm}{rb:XR}(g:A 163 [x.p] (tyR (.ok w) false))(gv:A 103 [s.p,u.ini.p] (s.var u.ini).p)(c:A 154 [(s.var u.ini).p] (s.var u.ini).bare.p)(d:iB tl (fA 1 hs++[x]) b y (s.var u.ini).bare rb):A 244 [eA tl,cA (Pf.p2 .exUE a.p b.p) f hs [[a.pf hs (.q .exU u x)],[b.pf (fA 1 hs++[x]) y]],s.p] rb.p:=by
 exact f5 [(282,.n [(146,.r (tyR (.ok w) false)),(174,.r u.ini.p),(175,.r (s.var u.ini).p),(176,.r (s.var u.ini).bare.p),(177,.r rb.p)])] g (KM u) gv c d
def d7{a b:Jt}{u w:Ty}{x y f:Fm}{c rb:XR}(g:A 163 [x.p] (tyR (.ok w) true))(d:A 102 [s.p] s.bind.p)(gv:A 103 [s.bind.p,u.ini.p] (s.bind.var u.ini).p)(e:A 155 [(s.bind.var u.ini).p,(Tm.v 0).p] ((s.bind.var u.ini).hyp (.v 0)).p)(h:iB tl (fA 1 hs++[x]) b y ((s.bind.var u.ini).hyp (.v 0)) rb)(j:rb.cn<=4096)(ga:iB tl hs a (.q .exU u x) s c)(k:c.cn<=4096):A 244 [eA tl,cA (Pf.p2 .exUE a.p b.p) f hs [[a.pf hs (.q .exU u x)],[b.pf (fA 1 hs++[x]) y]],s.p] (XR.two .app (rb.lam w) c).p:=by
 have gl:=EJ w rb j;have i:=LM w rb;generalize rb.lam w=l at gl i⊢
 cases l with
 |er x n=>exact f8 [(282,.n [(146,.r (tyR (.ok w) true)),(189,.r s.bind.p),(200,.r u.ini.p),(201,.r (s.bind.var u.ini).p),(202,.r (Tm.v 0).p),(203,.r ((s.bind.var u.ini).hyp (.v 0)).p),(204,.r rb.p),(211,.r (XR.er x n).p)])] g d (KM u) gv (TA 0) e h gl|ok t=>cases c with
  |er x n=>exact f9 [(282,.n [(146,.r (tyR (.ok w) true)),(189,.r s.bind.p),(200,.r u.ini.p),(201,.r (s.bind.var u.ini).p),(202,.r (Tm.v 0).p),(203,.r ((s.bind.var u.ini).hyp (.v 0)).p),(204,.r rb.p),(211,.r (XR.ok t).p),(217,.n [(22,.n [(15,.r (XR.er x n).p)])])])] g d (KM u) gv (TA 0) e h gl ga|ok v=>
   have:t.cnt<=4096:=i;have:v.cnt<=4096:=k;have:=zA;exact bJ [(282,.n [(146,.r (tyR (.ok w) true)),(189,.r s.bind.p),(200,.r u.ini.p),(201,.r (s.bind.var u.ini).p),(202,.r (Tm.v 0).p),(203,.r ((s.bind.var u.ini).hyp (.v 0)).p),(204,.r rb.p),(211,.r (XR.ok t).p),(217,.n [(22,.n [(15,.r (XR.ok v).p)]),(34,.r (XR.fit (.n2 .app t v)).p)])])] g d (KM u) gv (TA 0) e h gl ga (JM .app t v)
def l7{l:Bool}{a b:Jt}{x f:Fm}{w:Tm}{q:Sx}{n:Nat}{pts:List (List PV)}(c:A 104 [s.p,w.p] (XR.er q n).p):A 244 [eA tl,cA (Pf.ind l x w a.p b.p) f hs pts,s.p] (XR.er .z n).p:=by
 cases l<;>exact f1 [(282,.n [(225,.n [(12,.r (XR.er q n).p)])])] c
def m7{l:Bool}{a b:Jt}{x f:Fm}{w t:Tm}{r:XR}{pts:List (List PV)}(c:A 104 [s.p,w.p] (XR.ok t).p)(g:A 246 [eA tl,cA (Pf.ind l x w a.p b.p) f hs pts,s.p,t.p] r.p):A 244 [eA tl,cA (Pf.ind l x w a.p b.p) f hs pts,s.p] r.p:=by
 cases l<;>exact f2 [(282,.n [(225,.n [(12,.r (XR.ok t).p)]),(236,.r r.p)])] c g
def r7{l:Bool}{a b:Jt}{x f:Fm}{w t:Tm}{n:Nat}{c:Bool}{pts:List (List PV)}(g:A 163 [x.p] (tyR (.er n) c)):A 246 [eA tl,cA (Pf.ind l x w a.p b.p) f hs pts,s.p,t.p] (XR.er .z n).p:=by
 cases l<;>exact f1 [27] g
def s7{l:Bool}{a b:Jt}{x y f:Fm}{w t:Tm}{u:Ty}{c:Bool}{q:Sx}{n:Nat}{z:PV}(g:A 163 [x.p] (tyR (.ok u) c))(ga:iB tl hs a y s (.er q n)):A 246 [eA tl,cA (Pf.ind l x w a.p b.p) f hs [[a.pf hs y],[z]],s.p,t.p] (XR.er .z n).p:=by
 cases l<;>exact f2 [27,44] g ga
def c7{a b:Jt}{x y z f:Fm}{w t v:Tm}{u:Ty}{c:Bool}{rb:XR}(r:t.cnt<=4096)(g:A 163 [x.p] (tyR (.ok u) c))(ga:iB tl hs a y s (.ok v))(B:v.cnt<=4096)(i:A 102 [s.p] s.bind.p)(gv:A 103 [s.bind.p,(Tm.v 0).p] (s.bind.var (.v 0)).p)(e:A 102 [(s.bind.var (.v 0)).p] (s.bind.var (.v 0)).bind.p)(j:A 155 [(s.bind.var (.v 0)).bind.p,(Tm.v 0).p] ((s.bind.var (.v 0)).bind.hyp (.v 0)).p)(l:iB tl (fA 1 hs++[x]) b z ((s.bind.var (.v 0)).bind.hyp (.v 0)) rb)(o:rb.cn<=4096):A 246 [eA tl,cA (Pf.ind false x w a.p b.p) f hs [[a.pf hs y],[b.pf (fA 1 hs++[x]) z]],s.p,t.p] (match (rb.lam u).lam .nat with|.er _ n=>XR.er .z n|.ok k=>XR.fit (.n3 .re u v k t)).p:=by
 have h:=EJ u rb o;have d:=EJ .nat (rb.lam u) (LM _ _);have m:=LM .nat (rb.lam u);generalize (rb.lam u).lam .nat=p at d m⊢
 cases p with
 |er q n=>exact NS [27,44,51,55,56,57,81,82,83,84,101,101] g ga NQ i (TA 0) gv e (TA 0) j l h d|ok k=>
  have:k.cnt<=4096:=m;have:=zA;exact sW [27,44,51,55,56,57,81,82,83,84,101,101,114] g ga NQ i (TA 0) gv e (TA 0) j l h d (Nn .re u v k t)
def i7{a b:Jt}{x y z f:Fm}{w t v:Tm}{u:Ty}{c:Bool}{rb:XR}(D:t.cnt<=4096)(g:A 163 [x.p] (tyR (.ok u) c))(ga:iB tl hs a y s (.ok v))(E:v.cnt<=4096)(m:A 102 [s.p] s.bind.p)(gv:A 103 [s.bind.p,(Tm.v 0).p] (s.bind.var (.v 0)).p)(e:A 102 [(s.bind.var (.v 0)).p] (s.bind.var (.v 0)).bind.p)(h:A 103 [(s.bind.var (.v 0)).bind.p,(Tm.v 0).p] ((s.bind.var (.v 0)).bind.var (.v 0)).p)(i:A 102 [((s.bind.var (.v 0)).bind.var (.v 0)).p] ((s.bind.var (.v 0)).bind.var (.v 0)).bind.p)(o:A 155 [((s.bind.var (.v 0)).bind.var (.v 0)).bind.p,(Tm.v 0).p] (((s.bind.var (.v 0)).bind.var (.v 0)).bind.hyp (.v 0)).p)(p:iB tl (fA 2 hs++[x.sh 1 (.ofNat 1)]) b z (((s.bind.var (.v 0)).bind.var (.v 0)).bind.hyp (.v 0)) rb)(B:rb.cn<=4096):A 246 [eA tl,cA (Pf.ind true x w a.p b.p) f hs [[a.pf hs y],[b.pf (fA 2 hs++[x.sh 1 (.ofNat 1)]) z]],s.p,t.p] (match ((rb.lam u).lam .list).lam .nat with|.er _ n=>XR.er .z n|.ok k=>XR.fit (.n3 .fo u v k t)).p:=by
 have j:=EJ u rb B;have l:=EJ .list (rb.lam u) (LM _ _);have d:=EJ .nat ((rb.lam u).lam .list) (LM _ _);have r:=LM .nat ((rb.lam u).lam .list);generalize ((rb.lam u).lam .list).lam .nat=C at d r⊢
 cases C with
 |er q n=>exact Iz [27,44,51,55,56,57,64,65,69,70,71,81,82,83,84,101,101,101] g ga NQ m (TA 0) gv NQ Rn e (TA 0) h i (TA 0) o p j l d|ok k=>
  have:k.cnt<=4096:=r;have:=zA;exact Jz [27,44,51,55,56,57,64,65,69,70,71,81,82,83,84,101,101,101,114] g ga NQ m (TA 0) gv NQ Rn e (TA 0) h i (TA 0) o p j l d (Nn .fo u v k t)
def A7{a:Jt}{u w:Ty}{x f:Fm}{q:Sx}{n:Nat}(ga:iB tl hs a (.q .all u (.q .ex w x)) s (.er q n)):A 244 [eA tl,cA (Pf.p1 .choice a.p) f hs [[a.pf hs (.q .all u (.q .ex w x))]],s.p] (XR.er .z n).p:=by
 exact f1 [(282,.n [(242,.n [(26,.r (XR.er q n).p)])])] ga
def B7{a:Jt}{u w:Ty}{x f:Fm}{t:Tm}{n:Nat}{c:Bool}(ga:iB tl hs a (.q .all u (.q .ex w x)) s (.ok t))(g:A 163 [x.p] (tyR (.er n) c)):A 244 [eA tl,cA (Pf.p1 .choice a.p) f hs [[a.pf hs (.q .all u (.q .ex w x))]],s.p] (XR.er t.x n).p:=by
 exact f2 [(282,.n [(242,.n [(26,.r (XR.ok t).p),(50,.r (tyR (.er n) c))])])] ga g
def C7{a:Jt}{u w:Ty}{x f:Fm}{t:Tm}{v:Ty}(ga:iB tl hs a (.q .all u (.q .ex w x)) s (.ok t))(g:A 163 [x.p] (tyR (.ok v) false)):A 244 [eA tl,cA (Pf.p1 .choice a.p) f hs [[a.pf hs (.q .all u (.q .ex w x))]],s.p] (XR.ok t).p:=by
 exact f2 [(282,.n [(242,.n [(26,.r (XR.ok t).p),(50,.r (tyR (.ok v) false))])])] ga g
def D7{a:Jt}{u w:Ty}{x f:Fm}{t:Tm}{v:Ty}{n:Nat}(ga:iB tl hs a (.q .all u (.q .ex w x)) s (.ok t))(g:A 163 [x.p] (tyR (.ok v) true))(b:A 396 [w.p,v.p] (TR.er n).p):A 244 [eA tl,cA (Pf.p1 .choice a.p) f hs [[a.pf hs (.q .all u (.q .ex w x))]],s.p] (XR.er .z n).p:=by
 exact f3 [(282,.n [(242,.n [(26,.r (XR.ok t).p),(50,.r (tyR (.ok v) true)),(69,.r (TR.er n).p)])])] ga g b
def E7{a:Jt}{u w:Ty}{x f:Fm}{t:Tm}{v k:Ty}{n:Nat}(ga:iB tl hs a (.q .all u (.q .ex w x)) s (.ok t))(g:A 163 [x.p] (tyR (.ok v) true))(b:A 396 [w.p,v.p] (TR.ok k).p)(c:A 399 [u.p,k.p] (TR.er n).p):A 244 [eA tl,cA (Pf.p1 .choice a.p) f hs [[a.pf hs (.q .all u (.q .ex w x))]],s.p] (XR.er .z n).p:=by
 exact f4 [(282,.n [(242,.n [(26,.r (XR.ok t).p),(50,.r (tyR (.ok v) true)),(69,.r (TR.ok k).p),(80,.r (TR.er n).p)])])] ga g b c
abbrev VH(u:Ty):Tm:=.n2 .pair (.lam u (.n1 .fst (.n2 .app (.v 1) (.v 0)))) (.lam u (.n1 .snd (.n2 .app (.v 1) (.v 0))))
def F7{a:Jt}{u w:Ty}{x f:Fm}{t:Tm}{v k m:Ty}(ga:iB tl hs a (.q .all u (.q .ex w x)) s (.ok t))(b:t.cnt<=4096)(g:A 163 [x.p] (tyR (.ok v) true))(b:A 396 [w.p,v.p] (TR.ok k).p)(c:A 399 [u.p,k.p] (TR.ok m).p):A 244 [eA tl,cA (Pf.p1 .choice a.p) f hs [[a.pf hs (.q .all u (.q .ex w x))]],s.p] (XR.fit (.n2 .app (.lam m (VH u)) t)).p:=by
 exact f9 [(282,.n [(242,.n [(26,.r (XR.ok t).p),(50,.r (tyR (.ok v) true)),(69,.r (TR.ok k).p),(80,.r (TR.ok m).p),(89,.n [(5,.r (Tm.v 1).p),(6,.r (Tm.v 0).p)]),(91,.n [(5,.r (Tm.v 1).p),(6,.r (Tm.v 0).p)]),(101,.r (XR.fit (.n2 .app (.lam m (VH u)) t)).p)])])] ga g b c (TA 1) (TA 0) (TA 1) (TA 0) (JM .app (.lam m (VH u)) t (by grind[Tm.cnt]))
end Go.Proofs.YtbebdmlomjpamaaGreatDoor
