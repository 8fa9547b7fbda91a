/- Contracts of functions; no conditions. -/
import Derived.Test.YtnkoaepelgbhfaaGreatDoorPC5
import Derived.Test.YtnkoaepelgbhfaaGreatDoorPC2
import Derived.WalkKit
import Derived.Laws.Bits64b
import Derived.Lib.TrailingZeros
set_option linter.all false
set_option maxHeartbeats 4000000
namespace Go.Proofs.YtnkoaepelgbhfaaGreatDoor
open Go.Lg
set_option maxRecDepth 100000
theorem wX {n:Nat} {f g:Fm} (h:FK (n+1) f) (hn:n+1<=90000) (e:IC f=some g):g.sc n/\g.shp=true/\g.cnt<=16777216:=by
 have hl:DA=100000:=rfl;have c:=h.cnt;unfold IC at e;split at e
 ·rename_i h0;cases e;have:=h.low h0;exact⟨this.sc,this.shp,by have:=this.cnt;omega⟩
 ·split at e
  ·rename_i y e1;split at e
   ·rename_i h0;cases e;obtain⟨k1,k2,k3⟩:=pN f (n+1) h (by omega) y e1;refine⟨dN _ n y 0 k1 (.inr h0),PH 0 _ y 0 (.inr h0) k2,?_⟩;rw [ZW h0];omega
   ·cases e
  ·cases e
theorem yX {g:List Ty} {f:Fm} {s:Ty} (hg:∀ s∈g,s.size<=64) (hl:g.length<=16) (hs:s.size<=64) (h:f.chk=0) (ht:f.ty (g++[s])):A 231 [VA (g++[s]),f.p] (num 0)/\FK (g.length+1) f:=by
 have hm:=zA;have el:(g++[s]).length=g.length+1:=by simp
 obtain⟨e,g1,q1,q2⟩:=FL f (g++[s]) (λ x hx=>by
  rcases List.mem_append.1 hx with hx|hx
  ·exact hg x hx
  ·simp at hx;subst hx;exact hs) (Fm.chk0 h).2 (by rw [el];have:=(Fm.chk0 h).1;omega)
 obtain rfl:=q2 ht;exact⟨g1,(Fm.chk0 h).1,(Fm.chk0 h).2,by have:=q1 rfl;rwa [el] at this⟩
theorem uX (s u:Ty):A 254 [u.p,AA [s]] (Ty.two true s u).p:=f0 []
theorem bX (n:Nat):TK (n+2) vapp:=⟨by decide,rfl,⟨by show 1<n+2;omega,by show 0<n+2;omega⟩⟩
abbrev sucT1:Tm:=.n1 .succ (.v 0)
abbrev conT:Tm:=.n2 .cons (.v 1) (.v 0)
abbrev rN:PV:=.agg ([num 1]++(Tm.n0 .zero).c++[AA [.nat]]++sucT1.c)
abbrev sN:PV:=.agg ([num 2]++(Tm.n0 .nil).c++[AA [.nat,.list]]++conT.c)
theorem Jo:A 277 [] Ty.list.p:=f0 []
theorem EP:A 247 [num 16] rN:=f4 [(5,.r (Tm.n0 .zero).p),(6,.Y),(8,.r (Tm.v 0).p),(10,.r sucT1.p)] (VS .zero) iG (wF 0) (Yc .succ (.v 0))
theorem FP:A 247 [num 17] sN:=f6 [(12,.r (Tm.n0 .nil).p),(13,.Y),(14,.r Ty.list.p),(16,.r (Tm.v 1).p),(17,.r (Tm.v 0).p),(19,.r conT.p)] (VS .nil) iG Jo (wF 1) (wF 0) (WS .cons (.v 1) (.v 0))
theorem od (k:K0) (n:Nat):TK n (.n0 k):=⟨by show 1<=4096;decide,rfl,trivial⟩
theorem Ko (n:Nat):TK (n+1) sucT1:=⟨by decide,rfl,by show 0<n+1;omega⟩
theorem Lo (n:Nat):TK (n+2) conT:=⟨by decide,rfl,⟨by show 1<n+2;omega,by show 0<n+2;omega⟩⟩
theorem bH {f:Nat} {args:List V} {objs:List (Nat × Ob)} {x:V} {objs':List (Nat × Ob)} (m:Nat) (tp:Di) {H1 H2 H3 H4 H5 H6 H7 H8 H9 H10 H11:Prop} (h1:H1) (h2:H2) (h3:H3) (h4:H4) (h5:H5) (h6:H6) (h7:H7) (h8:H8) (h9:H9) (h10:H10) (h11:H11) (e:(H1/\H2/\H3/\H4/\H5/\H6/\H7/\H8/\H9/\H10/\H11/\(x,objs')=(x,objs'))=UO f args objs m tp x objs':=by kernel_rfl):O f args objs x objs':=ok m tp ⟨h1,h2,h3,h4,h5,h6,h7,h8,h9,h10,h11,rfl⟩ e
theorem RH {f:Nat} {args:List V} {objs:List (Nat × Ob)} {x:V} {objs':List (Nat × Ob)} (m:Nat) (tp:Di) {H1 H2 H3 H4 H5 H6 H7 H8 H9 H10 H11 H12:Prop} (h1:H1) (h2:H2) (h3:H3) (h4:H4) (h5:H5) (h6:H6) (h7:H7) (h8:H8) (h9:H9) (h10:H10) (h11:H11) (h12:H12) (e:(H1/\H2/\H3/\H4/\H5/\H6/\H7/\H8/\H9/\H10/\H11/\H12/\(x,objs')=(x,objs'))=UO f args objs m tp x objs':=by kernel_rfl):O f args objs x objs':=ok m tp ⟨h1,h2,h3,h4,h5,h6,h7,h8,h9,h10,h11,h12,rfl⟩ e
theorem o13 {f:Nat} {args:List V} {objs:List (Nat × Ob)} {x:V} {objs':List (Nat × Ob)} (m:Nat) (tp:Di) {H1 H2 H3 H4 H5 H6 H7 H8 H9 H10 H11 H12 H13:Prop} (h1:H1) (h2:H2) (h3:H3) (h4:H4) (h5:H5) (h6:H6) (h7:H7) (h8:H8) (h9:H9) (h10:H10) (h11:H11) (h12:H12) (h13:H13) (e:(H1/\H2/\H3/\H4/\H5/\H6/\H7/\H8/\H9/\H10/\H11/\H12/\H13/\(x,objs')=(x,objs'))=UO f args objs m tp x objs':=by kernel_rfl):O f args objs x objs':=ok m tp ⟨h1,h2,h3,h4,h5,h6,h7,h8,h9,h10,h11,h12,h13,rfl⟩ e
theorem Mo {f:Nat} {args:List V} {objs:List (Nat × Ob)} {x:V} {objs':List (Nat × Ob)} (m:Nat) (tp:Di) {H1 H2 H3 H4 H5 H6 H7 H8 H9 H10 H11 H12 H13 H14:Prop} (h1:H1) (h2:H2) (h3:H3) (h4:H4) (h5:H5) (h6:H6) (h7:H7) (h8:H8) (h9:H9) (h10:H10) (h11:H11) (h12:H12) (h13:H13) (h14:H14) (e:(H1/\H2/\H3/\H4/\H5/\H6/\H7/\H8/\H9/\H10/\H11/\H12/\H13/\H14/\(x,objs')=(x,objs'))=UO f args objs m tp x objs':=by kernel_rfl):O f args objs x objs':=ok m tp ⟨h1,h2,h3,h4,h5,h6,h7,h8,h9,h10,h11,h12,h13,h14,rfl⟩ e
theorem No {f:Nat} {args:List V} {objs:List (Nat × Ob)} {x:V} {objs':List (Nat × Ob)} (m:Nat) (tp:Di) {H1 H2 H3 H4 H5 H6 H7 H8 H9 H10 H11 H12 H13 H14 H15:Prop} (h1:H1) (h2:H2) (h3:H3) (h4:H4) (h5:H5) (h6:H6) (h7:H7) (h8:H8) (h9:H9) (h10:H10) (h11:H11) (h12:H12) (h13:H13) (h14:H14) (h15:H15) (e:(H1/\H2/\H3/\H4/\H5/\H6/\H7/\H8/\H9/\H10/\H11/\H12/\H13/\H14/\H15/\(x,objs')=(x,objs'))=UO f args objs m tp x objs':=by kernel_rfl):O f args objs x objs':=ok m tp ⟨h1,h2,h3,h4,h5,h6,h7,h8,h9,h10,h11,h12,h13,h14,h15,rfl⟩ e
theorem GP {f:Nat} {args:List V} {objs:List (Nat × Ob)} {x:V} {objs':List (Nat × Ob)} (m:Nat) (tp:Di) {H1 H2 H3 H4 H5 H6 H7 H8 H9 H10 H11 H12 H13 H14 H15 H16:Prop} (h1:H1) (h2:H2) (h3:H3) (h4:H4) (h5:H5) (h6:H6) (h7:H7) (h8:H8) (h9:H9) (h10:H10) (h11:H11) (h12:H12) (h13:H13) (h14:H14) (h15:H15) (h16:H16) (e:(H1/\H2/\H3/\H4/\H5/\H6/\H7/\H8/\H9/\H10/\H11/\H12/\H13/\H14/\H15/\H16/\(x,objs')=(x,objs'))=UO f args objs m tp x objs':=by kernel_rfl):O f args objs x objs':=ok m tp ⟨h1,h2,h3,h4,h5,h6,h7,h8,h9,h10,h11,h12,h13,h14,h15,h16,rfl⟩ e
open Go.Lg
abbrev ZA (g:List Ty) (hs:List Fm):PV:=.agg [AA g,fA hs]
abbrev xd:List PV:=[.int 0,.int 0,.nils,.nils]
abbrev Oo (hs:List Fm) (k:Nat) (c:List PV):IS:=st [(2,.loc 1 0),(3,.loc 2 0),(16,.pv (fA hs)),(17,.pv (num (hs.map Fm.c).length)),(18,.pv (num k))] [(1,bx xd),(2,bx c)] 3 []
abbrev Ad (c:List PV):IS:=st [(2,.loc 1 0),(3,.loc 2 0)] [(1,bx xd),(2,bx c)] 3 []
abbrev Po:Kp:=⟨[2,3,16,17,18],[1,2],3,[]⟩
abbrev Qo:Kp:=⟨[2,3],[1,2],3,[]⟩
theorem Ro (g:List Ty) (hg:g.length<=16) (hgs:∀ s∈g,s.size<=64):A 128 [ZA g []] (XA g []):=by
 have hb:=kA;have hm:=zA;have g0:=mn g (by omega) (λ s h=>by have:=hgs s h;omega);have el:num (g.map Ty.c).length=num g.length:=by rw [List.length_map]
 have g1:Lp 128 0 0 (Oo [] 0 [num (g.map Ty.c).length,.int 0,VA g,.nils]) (.exit 0) (Ad [num (g.map Ty.c).length,.int 0,VA g,.nils]):=x0 [] Qo;have g2:A 128 [ZA g []] (.agg [num (g.map Ty.c).length,num 0,VA g,.slice []]):=f2 [(8,.r (VA g)),(100004,.l Po (.exit 0) (Ad [num (g.map Ty.c).length,.int 0,VA g,.nils]))] g0 g1;rwa [el] at g2
abbrev Cd (g:List Ty):IS:=st [(3,.loc 0 0)] [(0,bx [AA g,fA []])] 1 []
abbrev So (g:List Ty):IS:=st [(3,.loc 0 0),(15,.pv (fA [])),(16,.pv (num 0)),(17,.pv (num 0))] [(0,bx [AA g,fA []])] 1 []
abbrev To (g:List Ty):IS:=st [(3,.loc 0 0),(38,.pv (fA [])),(39,.pv (num 0)),(40,.pv (num 0))] [(0,bx [AA g,fA []])] 1 []
theorem Uo {g:List Ty} (hg:g.length<=16) (hgs:∀ s∈g,s.size<=64):XG g=0:=by
 have:∀ {g:List Ty},(∀ s∈g,s.size<=64)->pG g=0:=by
  intro g
  induction g with
  | nil=>intro _;rfl
  | cons t r ih =>
   intro h;have e:t.chk=0:=by rw [vH,ckE_0.2 (h t (by simp))]
   unfold pG;rw [e];exact ih λ s hs=>h s (by simp [hs])
 unfold XG;rw [show uA (.ofNat 16) (.ofNat (g.map Ty.c).length)=false from JA (by simpa using hg)];exact this hgs
theorem Vo (g:List Ty) (hg:g.length<=16) (hgs:∀ s∈g,s.size<=64):A 124 [fA [],ZA g []] (num 0):=by
 have hb:=kA;have g1:Lp 124 0 0 (So g) (.exit 0) (Cd g):=x0 [] ⟨[3],[0],1,[]⟩;have g2:=dn g (λ s h=>by have:=hgs s h;omega);rw [Uo hg hgs] at g2;have g4:Lp 124 1 0 (To g) (.exit 2) (st [] [] 1 []):=x0 [] ⟨[],[],1,[]⟩;exact f3 [(100004,.l ⟨[3,15,16,17],[0],1,[]⟩ (.exit 0) (Cd g)),(29,.N 0),(100016,.l ⟨[3,38,39,40],[0],1,[]⟩ (.exit 2) (st [] [] 1 []))] g1 g2 g4
theorem Wo (w:World):Calls Tryz.prog 190 #[.int .u32 0] w λ e w'=>e = .returned (.int .i64 32)/\w'=w:=by
 go_enter Tryz.func190,Tryz.ntmps190
 go_wp2
 go_ret
 exact⟨rfl,rfl⟩
theorem Dd (n:Int):IntKind.u32.wrap n=n % 4294967296:=by simp [IntKind.wrap,IntKind.signed,IntKind.bits]
theorem Ed (a b:Nat) (ha:a<4294967296) (hb:b<4294967296):bits .and .u32 (a:Int) (b:Int)=((a &&& b:Nat):Int):=by
 have hx:a &&& b<2 ^ 32:=Nat.and_lt_two_pow _ (by omega);have h1:(BitVec.ofInt 32 (a:Int)).toNat=a:=by
  rw [BitVec.ofInt_natCast,BitVec.toNat_ofNat];exact Nat.mod_eq_of_lt (by omega)
 have h2:(BitVec.ofInt 32 (b:Int)).toNat=b:=by
  rw [BitVec.ofInt_natCast,BitVec.toNat_ofNat];exact Nat.mod_eq_of_lt (by omega)
 show IntKind.u32.wrap ((BitVec.ofInt 32 (a:Int) &&& BitVec.ofInt 32 (b:Int)).toNat:Int)=_;rw [BitVec.toNat_and,h1,h2,Dd];omega
theorem Xo (x a:Nat) (hx:x<4294967296) (hx0:x≠0) (hlow:x &&& (4294967296-x)=a) :
  bits BinOp.and IntKind.u32 (x:Int) (-(x:Int) % 4294967296) * 125613361 % 4294967296 / 134217728=((a * 125613361 % 4294967296 / 134217728:Nat):Int):=by
 have e1 : -(x:Int) % 4294967296=((4294967296-x:Nat):Int):=by omega
 rw [e1,Ed x _ hx (by omega),hlow];omega
theorem Yo (x k idx:Nat) (w:World) (hx0:((x:Int) == 0)=false)
  (key:bits BinOp.and IntKind.u32 (x:Int) (-(x:Int) % 4294967296) * 125613361 % 4294967296 / 134217728=(idx:Int))
  (hi:idx<32) (hk:k<32) (hcell:w.cell? ⟨0,idx,none⟩=some (.int .u8 k)) :
  Calls Tryz.prog 190 #[.int .u32 x] w λ e w'=>e = .returned (.int .i64 k)/\w'=w:=by
 go_enter Tryz.func190,Tryz.ntmps190
 go_wp2_with (simp only [key])
 go_ret
 exact⟨rfl,rfl⟩
theorem Fd {H:Hp} : ∀ {cs:List PV} {vs:List Value} {i:Nat} {k:IntKind} {n:Int},RepL H cs vs->cs[i]? = some (.num k n)->vs[i]? = some (.int k n)
 | [],_,_,_,_,_,h=>by simp at h
 | c::cs,[],i,k,n,r,h=>by simp only [RepL] at r
 | c::cs,v::vs,0,k,n,r,h=>by
  simp only [RepL] at r;simp only [List.getElem?_cons_zero,Option.some.injEq] at h;subst h;have:=r.1;simp only [RepP] at this;rw [this.1];rfl
 | c::cs,v::vs,i+1,k,n,r,h=>by
  simp only [RepL] at r;exact Fd (i:=i) r.2 (by simpa using h)
theorem Zo:∀ i,i<32->deB[i]? = some (.num .u8 (.ofNat (Go.Lib.deBruijn32tab.getD i 0)))
 | 0,_=>rfl
 | 1,_=>rfl
 | 2,_=>rfl
 | 3,_=>rfl
 | 4,_=>rfl
 | 5,_=>rfl
 | 6,_=>rfl
 | 7,_=>rfl
 | 8,_=>rfl
 | 9,_=>rfl
 | 10,_=>rfl
 | 11,_=>rfl
 | 12,_=>rfl
 | 13,_=>rfl
 | 14,_=>rfl
 | 15,_=>rfl
 | 16,_=>rfl
 | 17,_=>rfl
 | 18,_=>rfl
 | 19,_=>rfl
 | 20,_=>rfl
 | 21,_=>rfl
 | 22,_=>rfl
 | 23,_=>rfl
 | 24,_=>rfl
 | 25,_=>rfl
 | 26,_=>rfl
 | 27,_=>rfl
 | 28,_=>rfl
 | 29,_=>rfl
 | 30,_=>rfl
 | 31,_=>rfl
 | n+32,h=>absurd h (by omega)
theorem Hd (z:Int) (hz:0<=z/\z<4294967296):∃ n:Nat,n<=32/\AC Tryz.prog gl 190 [.pv (.num .u32 z)] [] (.ret (.pv (.int (.ofNat n)))) []:=by
 obtain⟨x,rfl⟩:∃ x:Nat,z=x:=⟨z.toNat,by omega⟩;have hx:x<4294967296:=by omega
 refine⟨Go.Lib.ctz 32 x,?_,?_,?_,?_,?_⟩
 ·by_cases h0:x=0
  ·subst h0;simp [Go.Lib.ctz]
  ·exact Nat.le_of_lt (Go.Lib.lowest_bit 32 x h0 hx).2
 ·exact⟨Tryz.f190,rfl,rfl,rfl⟩
 ·intro n hn;cases hn
 ·intro m o ho;cases ho
 ·intro E w vs hB hl hr;have hv:vs=[.int .u32 (x:Int)]:=by
   cases vs with
   | nil=>cases hl
   | cons v r =>
    cases r with
    | cons _ _=>simp at hl
    | nil =>
     simp only [RepVL,RepV,RepP] at hr;rw [hr.1.1]
  subst hv;have jC:∀ (e:Ending) (w':World),e = .returned (.int .i64 (Go.Lib.ctz 32 x:Nat))/\w'=w->∃ E',dM E w [] E' w' []/\yU E' (.ret (.pv (.int (.ofNat (Go.Lib.ctz 32 x))))) e:=by
   rintro e w' ⟨rfl,rfl⟩
   refine⟨E,⟨hB.heap,λ n o h=>(by cases h),λ n m o o' h=>(by cases h),Hle.refl _,Nat.le_refl _,⟨rfl,rfl,rfl⟩,λ b _ _=>⟨λ _=>rfl,rfl⟩,λ n o b h=>(by cases h),λ n o h=>(by cases h),λ n _ _=>⟨rfl,rfl,rfl⟩⟩,_,rfl,?_⟩;simp only [RepV,RepP];rfl
  by_cases h0:x=0
  ·subst h0;exact (Wo w).mono jC
  ·obtain⟨hlow,hk⟩:=Go.Lib.lowest_bit 32 x h0 hx;obtain⟨hi,htab⟩:=Go.Lib.deBruijn32_at _ hk;have hg:RepL E.H deB (E.H 0):=hB.glob 0 deB rfl;have h1:=Fd hg (Zo _ hi);rw [htab] at h1;have hne:E.H 0≠[]:=by intro e;rw [e] at h1;simp at h1
   obtain⟨c,T,fr,hc,hm,_⟩:=hB.heap 0 hne;have h2:=hm.2.1 _ _ h1 (by simp [kC]) (by intro b;cases b<;>exact nofun);refine (Yo x _ _ w (by simp;omega) (Xo x _ hx h0 hlow) hi hk ?_).mono jC;simp only [World.cell?,hc];simpa using h2
open Go.Lg
theorem Jd {x:Nat} (h0:x≠0) (hx:x<4294967296):∃ y:Nat,y<x/\BA .and .u32 (x:Int) (IntKind.u32.wrap ((x:Int)-1))=(y:Int):=by
 refine⟨x &&& (x-1),?_,?_⟩
 ·have:x &&& (x-1)<=x-1:=Nat.and_le_right;omega
 ·have e:IntKind.u32.wrap ((x:Int)-1)=((x-1:Nat):Int):=by rw [Dd];omega
  rw [e];exact Ed x (x-1) hx (by omega)
theorem Kd (z:Int):(bif VF .u32 .u32 then aA (IntKind.u32.wrap (z-1)) else false)=true/\u32 (IntKind.u32.wrap (z-1))=u32 (IntKind.u32.wrap (z-1)):=⟨(show aA (IntKind.u32.wrap (z-1))=true from CP (qX _)),rfl⟩
theorem Ld {z w:Int} {y:Nat} (h:BA .and .u32 z w=(y:Int)):(bif VF .u32 .u32 then aA (BA .and .u32 z w) else false)=true/\u32 (BA .and .u32 z w)=u32 (.ofNat y):=⟨(zX z w).1,by rw [h];rfl⟩
abbrev Md:Kp:=⟨[0,3],[0],1,[]⟩
theorem Nd:∀ (N x:Nat) (L:List Nat) (v:Nat),x<=N->x<4294967296->L.length+N<=8589934592 ->
  ∃ (v':Nat) (L':List Nat),Lp 130 0 0 (st [(0,.pv (u32 (.ofNat x))),(3,.arr 0 v (L.map ic).length)] [(0,.arr v 1 3 (vA (L.map ic)))] 1 []) (.exit 0) (st [(3,.arr 0 v' (L'.map ic).length)] [(0,.arr v' 1 3 (vA (L'.map ic)))] 1 [])
 | N,0,L,v,h1,h2,h3=>⟨v,L,y1 [(5,.H)] ⟨[3],[0],1,[]⟩ (rB 0) (QC (L.map ic))⟩
 | 0,x+1,L,v,h1,h2,h3=>absurd h1 (by omega)
 | N+1,x+1,L,v,h1,h2,h3=>by
  obtain⟨y,hy,ey⟩:=Jd (x:=x+1) (by omega) h2;obtain⟨n,hn,g1⟩:=Hd (x+1:Nat) (by omega);obtain⟨v',L',ih⟩:=Nd N y (L++[n]) (v+1) (by omega) (by omega) (by simp;omega);have g5:=GL (A:=L.map ic) (v:=v) (ty:=3) (m:=8) (c:=ic n) (show 0<1 by decide) rfl rfl (by simp only [List.length_map,maxLen];omega) (by simp;omega);have e1:(L++[n]).map ic=L.map ic++[ic n]:=by simp
  rw [e1,xI,show (L.map ic++[ic n]).length=(L.map ic).length+1 by simp] at ih;exact⟨v',L',n7 [(5,.G),(12,.N n),(14,.ok),(8,.v (u32 (IntKind.u32.wrap (.ofNat (x+1)-1)))),(9,.v (u32 (.ofNat y)))] Md (GC (m:=x+1) (n:=0) (by omega)) g1 g5 (Kd (.ofNat (x+1))) (Ld ey) (DF (L.map ic) (ic n)) ih⟩
theorem zp (z:Int) (hz:ld z):∃ L:List Nat,A 130 [u32 z] (dA L):=by
 obtain⟨x,rfl⟩:∃ x:Nat,z = .ofNat x:=⟨z.toNat,by have:=hz.1;simp;omega⟩;have hx:x<4294967296:=by have:=hz.2;simp at this;omega
 cases x with
 | zero=>exact⟨[],f0 []⟩
 | succ x =>
  obtain⟨y,hy,ey⟩:=Jd (x:=x+1) (by omega) hx;obtain⟨n,hn,g1⟩:=Hd (x+1:Nat) (by omega);obtain⟨v,L,h⟩:=Nd 4294967296 y [n] 1 (by omega) (by omega) (by simp);have h2:=LoopIs.fz (by simp) h 0 (ver:=v) (sz:=1) (ty:=3) (ps:=L.map ic) rfl (by kernel_rfl);simp (decide:=true) only [rE,FD,cC,ZB,BC,tD,and_self,↓reduceIte,List.take_of_length_le (Nat.le_refl (L.map ic).length)] at h2;have h3:Lp 130 0 0 (st [(0,.pv (u32 (.ofNat (x+1)))),(3,.pv .nils)] [] 0 []) (.exit 0) (st [(3,.pv (dA L))] [] 1 []) :=
   n6 [(5,.G),(12,.N n),(8,.v (u32 (IntKind.u32.wrap (.ofNat (x+1)-1)))),(9,.v (u32 (.ofNat y)))] Md (GC (m:=x+1) (n:=0) (by omega)) g1 (Kd (.ofNat (x+1))) (Ld ey) (DF [] (ic n)) h2
  exact⟨L,f1 [(100002,.l ⟨[0,3],[],0,[]⟩ (.exit 0) (st [(3,.pv (dA L))] [] 1 []))] h3⟩
theorem NL:∀ a b:Fm,a.mt b->a.er=b.er
 | .eq _ _,.eq _ _,_=>rfl
 | .bin _ f g,.bin _ f' g',⟨h1,h2,h3⟩=>by subst h1;simp only [Fm.er,NL f f' h2,NL g g' h3]
 | .q _ _ f,.q _ _ g,⟨h1,h2,h3⟩=>by subst h1;subst h2;simp only [Fm.er,NL f g h3]
 | .eq _ _,.bin _ _ _,h=>h.elim
 | .eq _ _,.q _ _ _,h=>h.elim
 | .bin _ _ _,.eq _ _,h=>h.elim
 | .bin _ _ _,.q _ _ _,h=>h.elim
 | .q _ _ _,.eq _ _,h=>h.elim
 | .q _ _ _,.bin _ _ _,h=>h.elim
theorem uT {g:List Ty} {f:Fm} (hg:∀ s∈g,s.size<=64) (hl:g.length<=17) (h:f.chk=0) (ht:f.ty g):FK g.length f:=by
 have hm:=zA;obtain⟨e,_,q1,q2⟩:=FL f g hg (Fm.chk0 h).2 (by have:=(Fm.chk0 h).1;omega);exact⟨(Fm.chk0 h).1,(Fm.chk0 h).2,q1 (q2 ht)⟩
theorem OL {n:Nat} {f:Fm} (h:f.chk=0) (hs:f.sc n):FK n f:=⟨(Fm.chk0 h).1,(Fm.chk0 h).2,hs⟩
theorem tN {g:List Ty} {s:Ty} (hg:∀ s∈g,s.size<=64) (hs:s.size<=64):∀ x∈g++[s],x.size<=64:=λ x hx=>by
 rcases List.mem_append.1 hx with hx|hx
 ·exact hg x hx
 ·simp at hx;subst hx;exact hs
theorem HP {n:Nat} {hs:List Fm} (h:∀ f∈hs,FK n f) (k:Nat):∀ f∈gA k hs,FK (n+k) f:=λ f hf=>by
 obtain⟨x,hx,rfl⟩:=List.mem_map.1 hf;exact (h x hx).sh 0 k
theorem IP {n:Nat} {hs:List Fm} {x:Fm} (h:∀ f∈hs,FK n f) (hx:FK n x):∀ f∈hs++[x],FK n f:=λ f hf=>by
 rcases List.mem_append.1 hf with hf|hf
 ·exact h f hf
 ·simp at hf;subst hf;exact hx
theorem jE {ls:List Fm} (hl:∀ f∈ls,FK 0 f):∀ (j:Jt) (g:List Ty) (hs:List Fm),j.D ls g hs->(∀ s∈g,s.size<=64)->g.length<=16->(∀ f∈hs,FK g.length f)->j.p.ck->j.OK ls g.length hs/\FK g.length j.f
 | .leaf u i f,g,hs,hD,hg,h16,hh,hc=>by
  have hf:FK g.length f:=by
   cases u
   ·exact hh f (List.mem_of_getElem? hD.2.2)
   ·exact (hl f (List.mem_of_getElem? hD.2)).up (Nat.zero_le _)
  exact⟨⟨hf,by cases u<;>exact hD.2⟩,hf⟩
 | .refl t,g,hs,⟨h0,h1,h2⟩,hg,h16,hh,hc=>by
  obtain⟨_,hT⟩:=JI hg h16 h1 h2;have hf:FK g.length (.eq t t):=OL h0 ⟨hT.sc,hT.sc⟩;exact⟨⟨hT,hf⟩,hf⟩
 | .p1 k a f,g,hs,⟨h0,h1,h2⟩,hg,h16,hh,hc=>by
  obtain⟨o1,fa⟩:=jE hl a g hs h1 hg h16 hh hc;cases k
  ·obtain⟨y,e⟩:=h2;rw [e] at fa;exact⟨⟨fa.bin1,o1,y,e⟩,fa.bin1⟩
  ·obtain⟨y,e⟩:=h2;rw [e] at fa;exact⟨⟨fa.bin2,o1,y,e⟩,fa.bin2⟩
  ·obtain⟨s,u,x,e,hsz,y,hpt,rfl⟩:=h2;rw [e] at fa;have hv:=(FK.pt (n:=g.length+2) (fa.qf.qf.sh 2 1) (bX g.length) hpt).2;have hf:FK g.length (.q .ex (.two true s u) (.q .all s y)):=OL h0 hv.sc;exact⟨⟨hf,o1,s,u,x,e,y,hpt,rfl⟩,hf⟩
 | .p2 k a b f,g,hs,⟨h0,h1,h2⟩,hg,h16,hh,hc=>by
  obtain⟨o1,fa⟩:=jE hl a g hs h1 hg h16 hh hc.1;have el:∀ s:Ty,(g++[s]).length=g.length+1:=λ s=>by simp
  cases k
  ·obtain⟨h3,rfl⟩:=h2;obtain⟨o2,fb⟩:=jE hl b g hs h3 hg h16 hh hc.2;have hf:FK g.length (.bin .and a.f b.f):=OL h0 ⟨fa.sc,fb.sc⟩;exact⟨⟨hf,o1,o2,rfl⟩,hf⟩
  ·obtain⟨h3,x,e,_⟩:=h2;obtain⟨o2,fb⟩:=jE hl b g hs h3 hg h16 hh hc.2;rw [e] at fa;exact⟨⟨fa.bin2,o1,o2,x,e⟩,fa.bin2⟩
  ·obtain⟨⟨s,e,h3⟩,⟨n1,_⟩,hw⟩:=h2;generalize hx:a.f.bd=x at *
   rw [e] at fa;obtain⟨o2,fb⟩:=jE hl b (g++[s]) _ h3 (tN hg fa.qs) (by rw [el];exact n1) (by rw [el];exact IP (HP hh 1) fa.qf) hc.2;rw [el] at o2 fb;have hf:FK g.length f:=OL h0 (wX fb (by omega) hw).1;exact⟨⟨hf,o1,by rw [hx];exact o2,⟨s,by rw [hx];exact e⟩,hw⟩,hf⟩
  ·obtain⟨⟨s,e,h3⟩,⟨n1,_⟩,hw,_⟩:=h2;generalize hx:a.f.bd=x at *
   rw [e] at fa;obtain⟨o2,fb⟩:=jE hl b (g++[s]) _ h3 (tN hg fa.qs) (by rw [el];exact n1) (by rw [el];exact IP (HP hh 1) fa.qf) hc.2;rw [el] at o2 fb;have hf:FK g.length f:=OL h0 (wX fb (by omega) hw).1;exact⟨⟨hf,o1,by rw [hx];exact o2,⟨s,by rw [hx];exact e⟩,hw⟩,hf⟩
 | .impI x a,g,hs,⟨h0,⟨h1,h2⟩,_,h3⟩,hg,h16,hh,hc=>by
  have fx:=uT hg (by omega) h1 h2;obtain⟨o1,fa⟩:=jE hl a g _ h3 hg h16 (IP hh fx) hc.2;have hf:FK g.length (.bin .imp x a.f):=OL h0 ⟨fx.sc,fa.sc⟩;exact⟨⟨fx,hf,o1⟩,hf⟩
 | .all u s a,g,hs,⟨h0,n1,h1,_⟩,hg,h16,hh,hc=>by
  have el:(g++[s]).length=g.length+1:=by simp
  obtain⟨o1,fa⟩:=jE hl a (g++[s]) _ h1 (tN hg hc.1) (by rw [el];exact n1) (by rw [el];exact HP hh 1) hc.2;rw [el] at o1 fa;have hf:FK g.length (.q (aq u) s a.f):=OL h0 fa.sc;exact⟨⟨hc.1,hf,o1⟩,hf⟩
 | .ins u t a f,g,hs,⟨h0,h1,h2,s,x,hty,e,hpt⟩,hg,h16,hh,hc=>by
  obtain⟨o1,fa⟩:=jE hl a g hs h2 hg h16 hh hc.2;obtain⟨_,hT⟩:=JI hg h16 h1 hty;rw [e] at fa;have hf:=(fa.qf.pt hT hpt).2;exact⟨⟨hf,hT,o1,s,x,e,hpt⟩,hf⟩
 | .ex u x t a,g,hs,⟨⟨h0,h0'⟩,h1,h2,s,y,w,hty,e,hpt,hmt⟩,hg,h16,hh,hc=>by
  obtain⟨o1,fa⟩:=jE hl a g hs h2 hg h16 hh hc.2.2;obtain⟨_,hT⟩:=JI hg h16 h1 hty;have hf:=uT hg (by omega) h0 h0';subst e;exact⟨⟨hf,hT,o1,⟨s,rfl⟩,by rw [<- NL _ _ hmt,iD hpt];rfl⟩,hf⟩
 | .ind l x t a b f,g,hs,⟨h0,⟨h1,h2⟩,⟨h3,h4⟩,⟨h5,wa,hpa,hma⟩,⟨n1,_⟩,⟨h6,wb,hpb,hmb⟩,hpt⟩,hg,h16,hh,hc=>by
  obtain⟨o1,fa⟩:=jE hl a g hs h5 hg h16 hh hc.2.2.1;obtain⟨_,hT⟩:=JI hg h16 h3 h4;have fx:FK (g.length+1) x:=by
   have:=uT (g:=g++[lT l]) (tN hg (by cases l<;>decide)) (by simp;omega) h1 h2;simpa using this
  have hf:=(fx.pt hT hpt).2;refine⟨⟨hf,fx,hT,o1,hpt,⟨by rw [<- NL _ _ hma,iD hpa],by rw [<- NL _ _ hmb,iD hpb,oE]⟩,?_⟩,hf⟩;cases l
  ·have el:(g++lG false).length=g.length+1:=by simp [lG]
   have:=(jE hl b (g++lG false) _ h6 (tN hg (by decide)) (by rw [el];exact n1) (by rw [el];exact IP (HP hh 1) fx) hc.2.2.2).1;rw [el] at this;exact this
  ·have el:(g++lG true).length=g.length+2:=by simp [lG]
   have:=(jE hl b (g++lG true) _ h6 (λ s hs=>by
    rcases List.mem_append.1 hs with h|h
    ·exact hg s h
    ·simp [lG] at h;rcases h with rfl|rfl<;>decide) (by rw [el];exact n1) (by rw [el];exact IP (HP hh 2) (fx.sh 1 1)) hc.2.2.2).1
   rw [el] at this;exact this
 | .subst x a b f,g,hs,⟨h0,⟨h1,h2⟩,h3,h4,t,u,w,e,hpt,hmt,hpu⟩,hg,h16,hh,hc=>by
  obtain⟨o1,fa⟩:=jE hl a g hs h3 hg h16 hh hc.2.1;obtain⟨o2,fb⟩:=jE hl b g hs h4 hg h16 hh hc.2.2;have fx:FK (g.length+1) x:=by
   have:=uT (g:=g++[.nat]) (tN hg (by decide)) (by simp;omega) h1 h2;simpa using this
  rw [e] at fa;have hf:=(fx.pt fa.eq2 hpu).2;exact⟨⟨hf,fx,o1,o2,by rw [<- NL _ _ hmt,iD hpt],t,u,e,hpu⟩,hf⟩
def Jt.pts:List Fm->Jt->List (List PV)
 | _,.leaf _ _ _=>[]
 | _,.refl _=>[]
 | hs,.p1 _ a _=>[[.ptr [num a.p.kd,num a.p.ix,num a.p.tk,.slice a.p.te,.slice a.p.ts,.slice a.p.fs,.slice a.p.es,num a.f.kd,num a.f.tk,.slice a.f.te,.slice a.f.ts,.slice a.f.es,fA hs,.bool a.f.has,.slice (a.pts hs)]]]
 | hs,.p2 k a b _=>match k with
  | .andI=>[[.ptr [num a.p.kd,num a.p.ix,num a.p.tk,.slice a.p.te,.slice a.p.ts,.slice a.p.fs,.slice a.p.es,num a.f.kd,num a.f.tk,.slice a.f.te,.slice a.f.ts,.slice a.f.es,fA hs,.bool a.f.has,.slice (a.pts hs)]],[.ptr [num b.p.kd,num b.p.ix,num b.p.tk,.slice b.p.te,.slice b.p.ts,.slice b.p.fs,.slice b.p.es,num b.f.kd,num b.f.tk,.slice b.f.te,.slice b.f.ts,.slice b.f.es,fA hs,.bool b.f.has,.slice (b.pts hs)]]]
  | .impE=>[[.ptr [num a.p.kd,num a.p.ix,num a.p.tk,.slice a.p.te,.slice a.p.ts,.slice a.p.fs,.slice a.p.es,num a.f.kd,num a.f.tk,.slice a.f.te,.slice a.f.ts,.slice a.f.es,fA hs,.bool a.f.has,.slice (a.pts hs)]],[.ptr [num b.p.kd,num b.p.ix,num b.p.tk,.slice b.p.te,.slice b.p.ts,.slice b.p.fs,.slice b.p.es,num b.f.kd,num b.f.tk,.slice b.f.te,.slice b.f.ts,.slice b.f.es,fA hs,.bool b.f.has,.slice (b.pts hs)]]]
  | .exE=>[[.ptr [num a.p.kd,num a.p.ix,num a.p.tk,.slice a.p.te,.slice a.p.ts,.slice a.p.fs,.slice a.p.es,num a.f.kd,num a.f.tk,.slice a.f.te,.slice a.f.ts,.slice a.f.es,fA hs,.bool a.f.has,.slice (a.pts hs)]],[.ptr [num b.p.kd,num b.p.ix,num b.p.tk,.slice b.p.te,.slice b.p.ts,.slice b.p.fs,.slice b.p.es,num b.f.kd,num b.f.tk,.slice b.f.te,.slice b.f.ts,.slice b.f.es,fA (gA 1 hs++[a.f.bd]),.bool b.f.has,.slice (b.pts (gA 1 hs++[a.f.bd]))]]]
  | .exUE=>[[.ptr [num a.p.kd,num a.p.ix,num a.p.tk,.slice a.p.te,.slice a.p.ts,.slice a.p.fs,.slice a.p.es,num a.f.kd,num a.f.tk,.slice a.f.te,.slice a.f.ts,.slice a.f.es,fA hs,.bool a.f.has,.slice (a.pts hs)]],[.ptr [num b.p.kd,num b.p.ix,num b.p.tk,.slice b.p.te,.slice b.p.ts,.slice b.p.fs,.slice b.p.es,num b.f.kd,num b.f.tk,.slice b.f.te,.slice b.f.ts,.slice b.f.es,fA (gA 1 hs++[a.f.bd]),.bool b.f.has,.slice (b.pts (gA 1 hs++[a.f.bd]))]]]
 | hs,.impI x a=>[[.ptr [num a.p.kd,num a.p.ix,num a.p.tk,.slice a.p.te,.slice a.p.ts,.slice a.p.fs,.slice a.p.es,num a.f.kd,num a.f.tk,.slice a.f.te,.slice a.f.ts,.slice a.f.es,fA (hs++[x]),.bool a.f.has,.slice (a.pts (hs++[x]))]]]
 | hs,.all _ _ a=>[[.ptr [num a.p.kd,num a.p.ix,num a.p.tk,.slice a.p.te,.slice a.p.ts,.slice a.p.fs,.slice a.p.es,num a.f.kd,num a.f.tk,.slice a.f.te,.slice a.f.ts,.slice a.f.es,fA (gA 1 hs),.bool a.f.has,.slice (a.pts (gA 1 hs))]]]
 | hs,.ins _ _ a _=>[[.ptr [num a.p.kd,num a.p.ix,num a.p.tk,.slice a.p.te,.slice a.p.ts,.slice a.p.fs,.slice a.p.es,num a.f.kd,num a.f.tk,.slice a.f.te,.slice a.f.ts,.slice a.f.es,fA hs,.bool a.f.has,.slice (a.pts hs)]]]
 | hs,.ex _ _ _ a=>[[.ptr [num a.p.kd,num a.p.ix,num a.p.tk,.slice a.p.te,.slice a.p.ts,.slice a.p.fs,.slice a.p.es,num a.f.kd,num a.f.tk,.slice a.f.te,.slice a.f.ts,.slice a.f.es,fA hs,.bool a.f.has,.slice (a.pts hs)]]]
 | hs,.ind l x _ a b _=>[[.ptr [num a.p.kd,num a.p.ix,num a.p.tk,.slice a.p.te,.slice a.p.ts,.slice a.p.fs,.slice a.p.es,num a.f.kd,num a.f.tk,.slice a.f.te,.slice a.f.ts,.slice a.f.es,fA hs,.bool a.f.has,.slice (a.pts hs)]],[.ptr [num b.p.kd,num b.p.ix,num b.p.tk,.slice b.p.te,.slice b.p.ts,.slice b.p.fs,.slice b.p.es,num b.f.kd,num b.f.tk,.slice b.f.te,.slice b.f.ts,.slice b.f.es,fA (XM hs x l),.bool b.f.has,.slice (b.pts (XM hs x l))]]]
 | hs,.subst _ a b _=>[[.ptr [num a.p.kd,num a.p.ix,num a.p.tk,.slice a.p.te,.slice a.p.ts,.slice a.p.fs,.slice a.p.es,num a.f.kd,num a.f.tk,.slice a.f.te,.slice a.f.ts,.slice a.f.es,fA hs,.bool a.f.has,.slice (a.pts hs)]],[.ptr [num b.p.kd,num b.p.ix,num b.p.tk,.slice b.p.te,.slice b.p.ts,.slice b.p.fs,.slice b.p.es,num b.f.kd,num b.f.tk,.slice b.f.te,.slice b.f.ts,.slice b.f.es,fA hs,.bool b.f.has,.slice (b.pts hs)]]]
abbrev Jt.ptr (hs:List Fm) (a:Jt):PV:=.ptr [num a.p.kd,num a.p.ix,num a.p.tk,.slice a.p.te,.slice a.p.ts,.slice a.p.fs,.slice a.p.es,num a.f.kd,num a.f.tk,.slice a.f.te,.slice a.f.ts,.slice a.f.es,fA hs,.bool a.f.has,.slice (a.pts hs)]
abbrev jp (ls hs:List Fm) (j:Jt):Prop:=A 93 [fA ls,fA hs,j.p.p] (j.ptr hs)
open Go.Lg
theorem JP (hs:List Fm) (f:Fm) (h:hs.length<=qA):A 192 [fA hs,f.p] (fA (hs++[f])):=by
 have hm:=zA;have g1:=oF (hs.map Fm.c).length;have g2:=OE 5 88 Fm.c_len (by decide) hs f (by omega) (by simp only [maxLen];omega);rw [show fA (hs++[f]) = .slice (hs.map Fm.c++[f.c]) by simp [fA]];exact f2 [(10,.ok),(13,.ok)] g1 g2
abbrev Od (hs:List Fm) (n k:Nat) (x:V):List (Nat × V):=[(1,.pv (num n)),(5,x),(10,.pv (fA hs)),(11,.pv (num (hs.map Fm.c).length)),(12,.pv (num k))]
abbrev Pd:Kp:=⟨[1,5,10,11,12],[2],3,[]⟩
theorem Qd {hs:List Fm} (n:Nat) (hl:hs.length<=qA) (H:∀ f∈hs,A 258 [f.p,num 0,num n] (FR.ok (f.sh 0 (.ofNat n))).p):∀ (r:List Fm) (k v:Nat) (A:List (List PV)),hs.drop k=r->A.length=k ->
  ∃ v',Lp 193 0 0 (st (Od hs n k (.arr 2 v A.length)) [(2,.arr v 5 36 (vA A))] 3 []) (.exit 0) (st [(5,.arr 2 v' (A.length+r.length))] [(2,.arr v' 5 36 (vA (A++r.map λ f=>(f.sh 0 (.ofNat n)).c)))] 3 [])
 | [],k,v,A,h,hA=>by
  have e:uA (.ofNat k) (.ofNat (hs.map Fm.c).length)=false:=JA (by simpa using nG h);simp only [List.map_nil,List.append_nil,List.length_nil,Nat.add_zero];exact⟨v,y1 [(13,.H)] ⟨[5],[2],3,[]⟩ e (QC A)⟩
 | f::r,k,v,A,h,hA=>by
  have hm:=zA;obtain⟨d1,d2,d3⟩:=mG h;have e:uA (.ofNat k) (.ofNat (hs.map Fm.c).length)=true:=cA (by simpa using d2);have g3:=rA (show k+1<=_ by omega);have g5:=GL (A:=A) (v:=v) (ty:=36) (m:=88) (c:=(f.sh 0 (.ofNat n)).c) (show 0<5 by decide) rfl rfl (by simp only [maxLen];omega) (by omega);obtain⟨v',ih⟩:=Qd n hl H r (k+1) (v+1) (A++[(f.sh 0 (.ofNat n)).c]) d3 (by simp [hA]);rw [xI,show (A++[(f.sh 0 (.ofNat n)).c]).length=A.length+1 by simp,show A.length+1+r.length=A.length+(f::r).length by simp;omega,List.append_assoc] at ih;exact⟨v',n7 [(13,.G),(14,.i f.c),(19,.r (FR.ok (f.sh 0 (.ofNat n))).p),(25,.ok),(26,.ok)] Pd e (kB d1 Fm.c_len) (H f (List.mem_of_getElem? d1)) g5 g3 (DF A (f.sh 0 (.ofNat n)).c) ih⟩
theorem Sd (hs:List Fm) (n:Nat) (hl:hs.length<=qA) (H:∀ f∈hs,A 258 [f.p,num 0,num n] (FR.ok (f.sh 0 (.ofNat n))).p):A 193 [fA hs,num n] (fA (gA n hs)):=by
 cases hs with
 | nil=>exact f0 []
 | cons f r =>
  have hm:=zA;have e:uA (.ofNat 0) (.ofNat ((f::r).map Fm.c).length)=true:=cA (by simp);obtain⟨v,h⟩:=Qd n hl H r 1 1 [(f.sh 0 (.ofNat n)).c] rfl rfl;have em:(f.sh 0 (.ofNat n)).c::r.map (λ f=>(f.sh 0 (.ofNat n)).c)=(gA n (f::r)).map Fm.c:=by simp [Function.comp_def]
  have h2:=LoopIs.fz (by simp) h 2 (ver:=v) (sz:=5) (ty:=36) (ps:=(f.sh 0 (.ofNat n)).c::r.map (λ f=>(f.sh 0 (.ofNat n)).c)) rfl (by kernel_rfl);simp (decide:=true) only [rE,FD,cC,ZB,BC,List.map,tD,and_self,↓reduceIte,List.take_of_length_le (show ((f.sh 0 (.ofNat n)).c::r.map (λ f=>(f.sh 0 (.ofNat n)).c)).length<=[(f.sh 0 (.ofNat n)).c].length+r.length by simp;omega)] at h2;rw [em] at h2;have h3:Lp 193 0 0 (st (Od (f::r) n 0 (.pv .nils)) [] 0 []) (.exit 0) (st [(5,.pv (fA (gA n (f::r))))] [] 3 []) :=
   n6 [(13,.G),(14,.i f.c),(19,.r (FR.ok (f.sh 0 (.ofNat n))).p),(26,.ok)] Pd e (kB (g:=f::r) (k:=0) rfl Fm.c_len) (H f (by simp)) (rA (show 0+1<=_ by omega)) (DF [] (f.sh 0 (.ofNat n)).c) h2
  exact f1 [(100003,.l ⟨[1,5,10,11,12],[],0,[]⟩ (.exit 0) (st [(5,.pv (fA (gA n (f::r))))] [] 3 []))] h3
theorem KP {n:Nat} {hs:List Fm} (hl:hs.length<=qA) (h:∀ f∈hs,FK n f) (hn:n<=DA):A 193 [fA hs,num 1] (fA (gA 1 hs)):=Sd hs 1 hl λ f hf=>Tn (h f hf) hn
theorem vp {n:Nat} {hs:List Fm} (hl:hs.length<=qA) (h:∀ f∈hs,FK n f) (hn:n<=DA):A 193 [fA hs,num 2] (fA (gA 2 hs)):=Sd hs 2 hl λ f hf=>Un (h f hf) hn
theorem bT {n:Nat} {f g:Fm} {t:Tm} (h:FK (n+1) f) (ht:TK n t) (hn:n+1<=DA) (e:f.pt t = .ok g):A 194 [f.p,t.p] g.p:=by
 have g1:=Sn h ht hn;rw [e] at g1;exact f1 [(10,.r (FR.ok g).p)] g1
theorem dT:∀ (f:Fm) (n:Nat),FK n f->n+f.cnt<=DA->∀ g,iB f=some g->A 261 [f.p] g.p
 | .eq a b,n,h,hn,g,e=>by
  simp only [Fm.cnt] at hn;have g1:=(LL h.eq1 (by omega)).1;have g2:=(LL h.eq2 (by omega)).1;unfold iB at e;split at e
  ·rename_i x j e1;split at e
   ·rename_i y l e2;cases e;rw [e1] at g1;rw [e2] at g2;exact f2 [(23,.r (NF.ok x j).p),(23,.r (NF.ok y l).p)] g1 g2
   ·cases e
  ·cases e
 | .bin k a b,n,h,hn,g,e=>by
  simp only [Fm.cnt] at hn;unfold iB at e;split at e
  ·rename_i x e1;split at e
   ·rename_i y e2;cases e;have g1:=dT a n h.bin1 (by omega) x e1;have g2:=dT b n h.bin2 (by omega) y e2;cases k<;>exact f2 [(44,.r x.p),(44,.r y.p)] g1 g2
   ·cases e
  ·cases e
 | .q k s a,n,h,hn,g,e=>by
  simp only [Fm.cnt] at hn;unfold iB at e;split at e
  ·rename_i x e1;cases e;have g1:=dT a (n+1) h.qf (by omega) x e1;cases k<;>exact f1 [(44,.r x.p)] g1
  ·cases e
theorem Td {n:Nat} {f g:Fm} (h:FK (n+1) f) (hg:FK n g) (hn:n+1<=90000) (e:IC f=some g):A 195 [f.p] g.p:=by
 have hl:DA=100000:=rfl;have c:=h.cnt;have g1:=Xc h (by omega);unfold IC at e;split at e
 ·rename_i h0;cases e;rw [if_pos h0] at g1;exact f1 [(9,.r (FR.ok f.low).p)] g1
 ·rename_i h0;rw [if_neg h0] at g1;split at e
  ·rename_i y e1;split at e
   ·rename_i h1;cases e;obtain⟨k1,k2,k3⟩:=pN f (n+1) h (by omega) y e1;have hy:FK (n+1) y:=⟨by have:=hg.cnt;rwa [ZW h1] at this,k2,k1⟩;have g2:=dT f (n+1) h (by omega) y e1;have g3:=Xc hy (by omega);rw [if_pos h1] at g3;exact f3 [(9,.r (FR.er 5).p),(17,.r y.p),(18,.r (FR.ok y.low).p)] g1 g2 g3
   ·cases e
  ·cases e
abbrev MA (p:Pf) (f:Fm) (hs:List Fm) (pts:List (List PV)):PV:=.ptr [num p.kd,num p.ix,num p.tk,.slice p.te,.slice p.ts,.slice p.fs,.slice p.es,num f.kd,num f.tk,.slice f.te,.slice f.ts,.slice f.es,fA hs,.bool f.has,.slice pts]
abbrev Jt.pf (a:Jt) (hs:List Fm) (F:Fm):PV:=MA a.p F hs (a.pts hs)
abbrev nD (f:Fm):Prop:=A 95 [f.p] (.tuple [.bool f.has,num 0])
abbrev oC (ls hs:List Fm) (a:Jt) (F:Fm):Prop:=A 93 [fA ls,fA hs,a.p.p] (a.pf hs F)
theorem yp {ls hs:List Fm} {a:Jt} {f y:Fm} (ha:oC ls hs a (.bin .and f y)) (hc:nD f):A 93 [fA ls,fA hs,(Pf.p1 .andL a.p).p] (MA (Pf.p1 .andL a.p) f hs [[a.pf hs (.bin .and f y)]]):=by
 exact f3 [(17,.n [(53,.n [(23,.r (a.pf hs (.bin .and f y)))])]),(26,.U [.bool f.has,num 0]),(300003,.f 7 [[a.pf hs (.bin .and f y)]]),(300004,.fb 1 none)] ha hc (rfl:vA [[a.pf hs (.bin .and f y)]]=vA [[a.pf hs (.bin .and f y)]])
theorem bp {ls hs:List Fm} {a:Jt} {f y:Fm} (ha:oC ls hs a (.bin .and y f)) (hc:nD f):A 93 [fA ls,fA hs,(Pf.p1 .andR a.p).p] (MA (Pf.p1 .andR a.p) f hs [[a.pf hs (.bin .and y f)]]):=by
 exact f3 [(17,.n [(62,.n [(23,.r (a.pf hs (.bin .and y f)))])]),(26,.U [.bool f.has,num 0]),(300003,.f 7 [[a.pf hs (.bin .and y f)]]),(300004,.fb 1 none)] ha hc (rfl:vA [[a.pf hs (.bin .and y f)]]=vA [[a.pf hs (.bin .and y f)]])
theorem fp {ls hs:List Fm} {a b:Jt} {x y:Fm} (ha:oC ls hs a x) (hb:oC ls hs b y) (hc:nD (Fm.bin .and x y)):A 93 [fA ls,fA hs,(Pf.p2 .andI a.p b.p).p] (MA (Pf.p2 .andI a.p b.p) (Fm.bin .and x y) hs [[a.pf hs x],[b.pf hs y]]):=by
 exact f4 [(17,.n [(40,.n [(23,.r (a.pf hs x))]),(45,.n [(23,.r (b.pf hs y))])]),(26,.U [.bool (Fm.bin .and x y).has,num 0]),(300003,.f 7 [[a.pf hs x],[b.pf hs y]]),(300004,.fb 1 none)] ha hb hc (rfl:vA [[a.pf hs x],[b.pf hs y]]=vA [[a.pf hs x],[b.pf hs y]])
theorem lp {ls hs:List Fm} {a b:Jt} {x y f:Fm} (ha:oC ls hs a (.bin .imp x f)) (hb:oC ls hs b y) (hc:nD f):A 93 [fA ls,fA hs,(Pf.p2 .impE a.p b.p).p] (MA (Pf.p2 .impE a.p b.p) f hs [[a.pf hs (.bin .imp x f)],[b.pf hs y]]):=by
 exact f4 [(17,.n [(88,.n [(23,.r (a.pf hs (.bin .imp x f)))]),(92,.n [(23,.r (b.pf hs y))])]),(26,.U [.bool f.has,num 0]),(300003,.f 7 [[a.pf hs (.bin .imp x f)],[b.pf hs y]]),(300004,.fb 1 none)] ha hb hc (rfl:vA [[a.pf hs (.bin .imp x f)],[b.pf hs y]]=vA [[a.pf hs (.bin .imp x f)],[b.pf hs y]])
theorem np {ls hs:List Fm} {a:Jt} {x y:Fm} (hw:A 192 [fA hs,x.p] (fA (hs++[x]))) (ha:oC ls (hs++[x]) a y) (hc:nD (Fm.bin .imp x y)):A 93 [fA ls,fA hs,(Pf.impI x a.p).p] (MA (Pf.impI x a.p) (Fm.bin .imp x y) hs [[a.pf (hs++[x]) y]]):=by
 exact f4 [(17,.n [(79,.r (fA (hs++[x]))),(80,.n [(23,.r (a.pf (hs++[x]) y))])]),(26,.U [.bool (Fm.bin .imp x y).has,num 0]),(300003,.f 7 [[a.pf (hs++[x]) y]]),(300004,.fb 1 none)] hw ha hc (rfl:vA [[a.pf (hs++[x]) y]]=vA [[a.pf (hs++[x]) y]])
theorem pp {ls hs:List Fm} {s:Ty} {a:Jt} {y:Fm} (hw:A 193 [fA hs,num 1] (fA (gA 1 hs))) (ha:oC ls (gA 1 hs) a y) (hc:nD (Fm.q .all s y)):A 93 [fA ls,fA hs,(Pf.all false s a.p).p] (MA (Pf.all false s a.p) (Fm.q .all s y) hs [[a.pf (gA 1 hs) y]]):=by
 exact f4 [(17,.n [(104,.r (fA (gA 1 hs))),(105,.n [(23,.r (a.pf (gA 1 hs) y))])]),(26,.U [.bool (Fm.q .all s y).has,num 0]),(300003,.f 7 [[a.pf (gA 1 hs) y]]),(300004,.fb 1 none)] hw ha hc (rfl:vA [[a.pf (gA 1 hs) y]]=vA [[a.pf (gA 1 hs) y]])
theorem ap {ls hs:List Fm} {s:Ty} {a:Jt} {y:Fm} (hw:A 193 [fA hs,num 1] (fA (gA 1 hs))) (ha:oC ls (gA 1 hs) a y) (hc:nD (Fm.q .allU s y)):A 93 [fA ls,fA hs,(Pf.all true s a.p).p] (MA (Pf.all true s a.p) (Fm.q .allU s y) hs [[a.pf (gA 1 hs) y]]):=by
 exact f4 [(17,.n [(115,.r (fA (gA 1 hs))),(116,.n [(23,.r (a.pf (gA 1 hs) y))])]),(26,.U [.bool (Fm.q .allU s y).has,num 0]),(300003,.f 7 [[a.pf (gA 1 hs) y]]),(300004,.fb 1 none)] hw ha hc (rfl:vA [[a.pf (gA 1 hs) y]]=vA [[a.pf (gA 1 hs) y]])
theorem ip {ls hs:List Fm} {t:Tm} {s:Ty} {a:Jt} {x f:Fm} (ha:oC ls hs a (.q .all s x)) (hp:A 194 [x.p,t.p] f.p) (hc:nD f):A 93 [fA ls,fA hs,(Pf.ins false t a.p).p] (MA (Pf.ins false t a.p) f hs [[a.pf hs (.q .all s x)]]):=by
 exact f4 [(17,.n [(125,.n [(23,.r (a.pf hs (.q .all s x)))]),(133,.r f.p)]),(26,.U [.bool f.has,num 0]),(300003,.f 7 [[a.pf hs (.q .all s x)]]),(300004,.fb 1 none)] ha hp hc (rfl:vA [[a.pf hs (.q .all s x)]]=vA [[a.pf hs (.q .all s x)]])
theorem xp {ls hs:List Fm} {t:Tm} {s:Ty} {a:Jt} {x f:Fm} (ha:oC ls hs a (.q .allU s x)) (hp:A 194 [x.p,t.p] f.p) (hc:nD f):A 93 [fA ls,fA hs,(Pf.ins true t a.p).p] (MA (Pf.ins true t a.p) f hs [[a.pf hs (.q .allU s x)]]):=by
 exact f4 [(17,.n [(125,.n [(23,.r (a.pf hs (.q .allU s x)))]),(133,.r f.p)]),(26,.U [.bool f.has,num 0]),(300003,.f 7 [[a.pf hs (.q .allU s x)]]),(300004,.fb 1 none)] ha hp hc (rfl:vA [[a.pf hs (.q .allU s x)]]=vA [[a.pf hs (.q .allU s x)]])
theorem Ap {ls hs:List Fm} {u:Bool} {t:Tm} {a:Jt} {x y:Fm} (ha:oC ls hs a y) (hc:nD x):A 93 [fA ls,fA hs,(Pf.ex u x t a.p).p] (MA (Pf.ex u x t a.p) x hs [[a.pf hs y]]):=by
 cases u<;>exact f3 [(17,.n [(140,.n [(23,.r (a.pf hs y))])]),(26,.U [.bool x.has,num 0]),(300003,.f 7 [[a.pf hs y]]),(300004,.fb 1 none)] ha hc (rfl:vA [[a.pf hs y]]=vA [[a.pf hs y]])
theorem Bp {ls hs:List Fm} {s:Ty} {a b:Jt} {x y f:Fm} (ha:oC ls hs a (.q .ex s x)) (hw:A 193 [fA hs,num 1] (fA (gA 1 hs))) (hw2:A 192 [fA (gA 1 hs),x.p] (fA (gA 1 hs++[x]))) (hb:oC ls (gA 1 hs++[x]) b y) (hl:A 195 [y.p] f.p) (hc:nD f):A 93 [fA ls,fA hs,(Pf.p2 .exE a.p b.p).p] (MA (Pf.p2 .exE a.p b.p) f hs [[a.pf hs (.q .ex s x)],[b.pf (gA 1 hs++[x]) y]]):=by
 exact f7 [(17,.n [(151,.n [(23,.r (a.pf hs (.q .ex s x)))]),(155,.r (fA (gA 1 hs))),(160,.r (fA (gA 1 hs++[x]))),(161,.n [(23,.r (b.pf (gA 1 hs++[x]) y))]),(162,.r f.p)]),(26,.U [.bool f.has,num 0]),(300003,.f 7 [[a.pf hs (.q .ex s x)],[b.pf (gA 1 hs++[x]) y]]),(300004,.fb 1 none)] ha hw hw2 hb hl hc (rfl:vA [[a.pf hs (.q .ex s x)],[b.pf (gA 1 hs++[x]) y]]=vA [[a.pf hs (.q .ex s x)],[b.pf (gA 1 hs++[x]) y]])
theorem Cp {ls hs:List Fm} {s:Ty} {a b:Jt} {x y f:Fm} (ha:oC ls hs a (.q .exU s x)) (hw:A 193 [fA hs,num 1] (fA (gA 1 hs))) (hw2:A 192 [fA (gA 1 hs),x.p] (fA (gA 1 hs++[x]))) (hb:oC ls (gA 1 hs++[x]) b y) (hl:A 195 [y.p] f.p) (hc:nD f):A 93 [fA ls,fA hs,(Pf.p2 .exUE a.p b.p).p] (MA (Pf.p2 .exUE a.p b.p) f hs [[a.pf hs (.q .exU s x)],[b.pf (gA 1 hs++[x]) y]]):=by
 exact f7 [(17,.n [(151,.n [(23,.r (a.pf hs (.q .exU s x)))]),(155,.r (fA (gA 1 hs))),(160,.r (fA (gA 1 hs++[x]))),(161,.n [(23,.r (b.pf (gA 1 hs++[x]) y))]),(162,.r f.p)]),(26,.U [.bool f.has,num 0]),(300003,.f 7 [[a.pf hs (.q .exU s x)],[b.pf (gA 1 hs++[x]) y]]),(300004,.fb 1 none)] ha hw hw2 hb hl hc (rfl:vA [[a.pf hs (.q .exU s x)],[b.pf (gA 1 hs++[x]) y]]=vA [[a.pf hs (.q .exU s x)],[b.pf (gA 1 hs++[x]) y]])
theorem Dp {ls hs:List Fm} {t:Tm} {a b:Jt} {x y z f:Fm} (ha:oC ls hs a y) (hw:A 193 [fA hs,num 1] (fA (gA 1 hs))) (hw2:A 192 [fA (gA 1 hs),x.p] (fA (gA 1 hs++[x]))) (hb:oC ls (gA 1 hs++[x]) b z) (hp:A 194 [x.p,t.p] f.p) (hc:nD f):A 93 [fA ls,fA hs,(Pf.ind false x t a.p b.p).p] (MA (Pf.ind false x t a.p b.p) f hs [[a.pf hs y],[b.pf (gA 1 hs++[x]) z]]):=by
 exact f7 [(17,.n [(164,.n [(23,.n [(23,.r (a.pf hs y))]),(27,.r (fA (gA 1 hs))),(32,.r (fA (gA 1 hs++[x]))),(33,.n [(23,.r (b.pf (gA 1 hs++[x]) z))]),(42,.r f.p)])]),(26,.U [.bool f.has,num 0]),(300003,.f 10 [[a.pf hs y],[b.pf (gA 1 hs++[x]) z]]),(300004,.fb 1 none)] ha hw hw2 hb hp hc (rfl:vA [[a.pf hs y],[b.pf (gA 1 hs++[x]) z]]=vA [[a.pf hs y],[b.pf (gA 1 hs++[x]) z]])
theorem Ep {ls hs:List Fm} {t:Tm} {a b:Jt} {x y z f:Fm} (ha:oC ls hs a y) (hx:A 258 [x.p,num 1,num 1] (FR.ok (x.sh 1 (.ofNat 1))).p) (hw:A 193 [fA hs,num 2] (fA (gA 2 hs))) (hw2:A 192 [fA (gA 2 hs),(x.sh 1 (.ofNat 1)).p] (fA (gA 2 hs++[(x.sh 1 (.ofNat 1))]))) (hb:oC ls (gA 2 hs++[(x.sh 1 (.ofNat 1))]) b z) (hp:A 194 [x.p,t.p] f.p) (hc:nD f):A 93 [fA ls,fA hs,(Pf.ind true x t a.p b.p).p] (MA (Pf.ind true x t a.p b.p) f hs [[a.pf hs y],[b.pf (gA 2 hs++[(x.sh 1 (.ofNat 1))]) z]]):=by
 exact f8 [(17,.n [(164,.n [(48,.n [(23,.r (a.pf hs y))]),(54,.r (FR.ok (x.sh 1 (.ofNat 1))).p),(60,.r (fA (gA 2 hs))),(62,.r (fA (gA 2 hs++[(x.sh 1 (.ofNat 1))]))),(63,.n [(23,.r (b.pf (gA 2 hs++[(x.sh 1 (.ofNat 1))]) z))]),(72,.r f.p)])]),(26,.U [.bool f.has,num 0]),(300003,.f 10 [[a.pf hs y],[b.pf (gA 2 hs++[(x.sh 1 (.ofNat 1))]) z]]),(300004,.fb 1 none)] ha hx hw hw2 hb hp hc (rfl:vA [[a.pf hs y],[b.pf (gA 2 hs++[(x.sh 1 (.ofNat 1))]) z]]=vA [[a.pf hs y],[b.pf (gA 2 hs++[(x.sh 1 (.ofNat 1))]) z]])
theorem Fp {ls hs:List Fm} {t:Tm}  (hc:nD (Fm.eq t t)):A 93 [fA ls,fA hs,(Pf.refl t).p] (MA (Pf.refl t) (Fm.eq t t) hs []):=by
 exact f1 [(17,.n [(164,.n [])]),(26,.U [.bool (Fm.eq t t).has,num 0]),(300004,.fb 1 none)] hc
theorem Gp {ls hs:List Fm} {a b:Jt} {t u:Tm} {x y f:Fm} (ha:oC ls hs a (.eq t u)) (hb:oC ls hs b y) (hp:A 194 [x.p,u.p] f.p) (hc:nD f):A 93 [fA ls,fA hs,(Pf.subst x a.p b.p).p] (MA (Pf.subst x a.p b.p) f hs [[a.pf hs (.eq t u)],[b.pf hs y]]):=by
 exact f5 [(17,.n [(164,.n [(90,.n [(23,.r (a.pf hs (.eq t u)))]),(94,.n [(23,.r (b.pf hs y))]),(103,.r f.p)])]),(26,.U [.bool f.has,num 0]),(300003,.f 10 [[a.pf hs (.eq t u)],[b.pf hs y]]),(300004,.fb 1 none)] ha hb hp hc (rfl:vA [[a.pf hs (.eq t u)],[b.pf hs y]]=vA [[a.pf hs (.eq t u)],[b.pf hs y]])
theorem Ip {ls hs:List Fm} {a:Jt} {s u:Ty} {x y:Fm} (ha:oC ls hs a (.q .all s (.q .ex u x))) (hx:A 258 [x.p,num 2,num 1] (FR.ok (x.sh 2 (.ofNat 1))).p) (hp:A 194 [(x.sh 2 (.ofNat 1)).p,vapp.p] y.p) (hc:nD (Fm.q .ex (.two true s u) (.q .all s y))):A 93 [fA ls,fA hs,(Pf.p1 .choice a.p).p] (MA (Pf.p1 .choice a.p) (Fm.q .ex (.two true s u) (.q .all s y)) hs [[a.pf hs (.q .all s (.q .ex u x))]]):=by
 exact f5 [(17,.n [(164,.n [(107,.n [(23,.r (a.pf hs (.q .all s (.q .ex u x))))]),(125,.r (FR.ok (x.sh 2 (.ofNat 1))).p),(133,.r y.p)])]),(26,.U [.bool (Fm.q .ex (.two true s u) (.q .all s y)).has,num 0]),(300003,.f 10 [[a.pf hs (.q .all s (.q .ex u x))]]),(300004,.fb 1 none)] ha hx hp hc (rfl:vA [[a.pf hs (.q .all s (.q .ex u x))]]=vA [[a.pf hs (.q .all s (.q .ex u x))]])
open Go.Lg
theorem Jp {ls hs:List Fm} {i:Nat} {f:Fm} (hl:hs.length<=qA) (hi:i<hs.length) (e:hs[hs.length-1-i]? = some f) (hc:nD f):A 93 [fA ls,fA hs,(Pf.leaf false i).p] (MA (Pf.leaf false i) f hs []):=by
 have hm:=zA;have hb:=kA;have h1:=uB (a:=(hs.map Fm.c).length) (by simp;omega) (by simp;omega);have h2:aA (Int.ofNat ((hs.map Fm.c).length-1) - .ofNat i)=true/\Int.ofNat ((hs.map Fm.c).length-1) - .ofNat i = .ofNat (hs.length-1-i):=by
  have e:Int.ofNat ((hs.map Fm.c).length-1) - .ofNat i = .ofNat (hs.length-1-i):=by simp;omega
  exact⟨by rw [e];exact rA (by omega),e⟩
 exact f4 [(17,.n [(21,.z ((hs.map Fm.c).length-1)),(24,.z (hs.length-1-i)),(25,.i f.c)]),(26,.U [.bool f.has,num 0]),(300004,.fb 1 none)] h1 h2 (kB e Fm.c_len) hc
theorem Mp {ls hs:List Fm} {i:Nat} {f:Fm} (e:ls[i]? = some f) (hc:nD f):A 93 [fA ls,fA hs,(Pf.leaf true i).p] (MA (Pf.leaf true i) f hs []):=by
 exact f2 [(17,.n [(33,.i f.c)]),(26,.U [.bool f.has,num 0]),(300004,.fb 1 none)] (kB e Fm.c_len) hc
theorem LP (p:Pf):1<=p.cnt:=by cases p<;>simp [Pf.cnt]<;>omega
theorem Jt.FKj {ls:List Fm} : ∀ {j:Jt} {n:Nat} {hs:List Fm},j.OK ls n hs->FK n j.f
 | .leaf _ _ _,_,_,h=>h.1
 | .refl _,_,_,h=>h.2
 | .p1 _ _ _,_,_,h=>h.1
 | .p2 _ _ _ _,_,_,h=>h.1
 | .impI _ _,_,_,h=>h.2.1
 | .all _ _ _,_,_,h=>h.2.1
 | .ins _ _ _ _,_,_,h=>h.1
 | .ex _ _ _ _,_,_,h=>h.1
 | .ind _ _ _ _ _ _,_,_,h=>h.1
 | .subst _ _ _ _,_,_,h=>h.1
theorem MP {n k:Nat} {hs:List Fm} (h:∀ f∈hs,FK n f):∀ f∈gA k hs,FK (n+k) f:=by
 intro f hf;obtain⟨g,hg,rfl⟩:=List.mem_map.1 hf;exact (h g hg).sh 0 k
theorem NP {n:Nat} {hs:List Fm} {x:Fm} (h:∀ f∈hs,FK n f) (hx:FK n x):∀ f∈hs++[x],FK n f:=by
 intro f hf;rcases List.mem_append.1 hf with hf|hf
 ·exact h f hf
 ·simp at hf;subst hf;exact hx
theorem Np (n:Nat):TK (n+2) vapp:=⟨by decide,rfl,by show 1<n+2/\0<n+2;omega⟩
theorem JD {ls:List Fm} : ∀ (j:Jt) (n:Nat) (hs:List Fm),(∀ f∈hs,FK n f)->hs.length+j.p.cnt<=qA->n+j.p.cnt<=90000->j.OK ls n hs->jp ls hs j
 | .leaf u i f,n,hs,hh,hl,hn,h=>by
  have hlm:DA=100000:=rfl;simp only [Jt.p,Pf.cnt] at hl hn;obtain⟨h0,h⟩:=h;cases u
  ·exact Jp (by omega) h.1 h.2 (h0.a70 (by omega))
  ·exact Mp h (h0.a70 (by omega))
 | .refl t,n,hs,hh,hl,hn,h=>Fp (h.2.a70 (by have hlm:DA=100000:=rfl;omega))
 | .p1 k a f,n,hs,hh,hl,hn,⟨h0,h1,h2⟩=>by
  have hlm:DA=100000:=rfl;simp only [Jt.p,Pf.cnt] at hl hn;have ih:=JD a n hs hh (by omega) (by omega) h1;have hc:=h0.a70 (by omega);cases k
  ·obtain⟨y,e⟩:=h2;have g:=yp (a:=a) (f:=f) (y:=y) (by rw [<- e];exact ih) hc;rw [<- e] at g;exact g
  ·obtain⟨y,e⟩:=h2;have g:=bp (a:=a) (f:=f) (y:=y) (by rw [<- e];exact ih) hc;rw [<- e] at g;exact g
  ·obtain⟨s,u,x,e,y,e1,e2⟩:=h2;subst e2;have hx:FK (n+2) x:=by
    have:=Jt.FKj h1;rw [e] at this;exact this.qf.qf
   have g:=Ip (a:=a) (s:=s) (u:=u) (x:=x) (y:=y) (by rw [<- e];exact ih) (Wn hx (by omega)) (bT (n:=n+2) (hx.sh 2 1) (Np n) (by omega) e1) hc;rw [<- e] at g;exact g
 | .p2 k a b f,n,hs,hh,hl,hn,⟨h0,h1,h2⟩=>by
  have hlm:DA=100000:=rfl;simp only [Jt.p,Pf.cnt] at hl hn;have ca:=LP a.p;have ih:=JD a n hs hh (by omega) (by omega) h1;have hc:=h0.a70 (by omega);cases k
  ·obtain⟨h3,e⟩:=h2;subst e;exact fp ih (JD b n hs hh (by omega) (by omega) h3) hc
  ·obtain⟨h3,x,e⟩:=h2;have g:=lp (a:=a) (b:=b) (x:=x) (f:=f) (by rw [<- e];exact ih) (JD b n hs hh (by omega) (by omega) h3) hc;rw [<- e] at g;exact g
  ·obtain⟨h3,⟨s,e⟩,e1⟩:=h2;generalize hx:a.f.bd=x at *
   have hF:FK (n+1) x:=by
    have:=Jt.FKj h1;rw [e] at this;exact this.qf
   have hl2:(gA 1 hs).length=hs.length:=by simp
   have g:=Bp (a:=a) (b:=b) (s:=s) (x:=x) (y:=b.f) (f:=f) (by rw [<- e];exact ih) (KP (n:=n) (by omega) hh (by omega)) (JP _ _ (by omega)) (JD b (n+1) _ (NP (MP hh) hF) (by simp;omega) (by omega) h3) (Td (Jt.FKj h3) h0 (by omega) e1) hc;rw [<- e,<- hx] at g;exact g
  ·obtain⟨h3,⟨s,e⟩,e1⟩:=h2;generalize hx:a.f.bd=x at *
   have hF:FK (n+1) x:=by
    have:=Jt.FKj h1;rw [e] at this;exact this.qf
   have hl2:(gA 1 hs).length=hs.length:=by simp
   have g:=Cp (a:=a) (b:=b) (s:=s) (x:=x) (y:=b.f) (f:=f) (by rw [<- e];exact ih) (KP (n:=n) (by omega) hh (by omega)) (JP _ _ (by omega)) (JD b (n+1) _ (NP (MP hh) hF) (by simp;omega) (by omega) h3) (Td (Jt.FKj h3) h0 (by omega) e1) hc;rw [<- e,<- hx] at g;exact g
 | .impI x a,n,hs,hh,hl,hn,⟨h0,h1,h2⟩=>by
  have hlm:DA=100000:=rfl;simp only [Jt.p,Pf.cnt] at hl hn;exact np (JP _ _ (by omega)) (JD a n _ (NP hh h0) (by simp;omega) (by omega) h2) (h1.a70 (by omega))
 | .all u s a,n,hs,hh,hl,hn,⟨h0,h1,h2⟩=>by
  have hlm:DA=100000:=rfl;simp only [Jt.p,Pf.cnt] at hl hn;have ih:=JD a (n+1) _ (MP hh) (by simp;omega) (by omega) h2;cases u
  ·exact pp (KP (n:=n) (by omega) hh (by omega)) ih (h1.a70 (by omega))
  ·exact ap (KP (n:=n) (by omega) hh (by omega)) ih (h1.a70 (by omega))
 | .ins u t a f,n,hs,hh,hl,hn,⟨h0,h1,h2,s,x,e,e1⟩=>by
  have hlm:DA=100000:=rfl;simp only [Jt.p,Pf.cnt] at hl hn;have ih:=JD a n hs hh (by omega) (by omega) h2;have hF:FK (n+1) x:=by
   have:=Jt.FKj h2;rw [e] at this;exact this.qf
  have hp:=bT hF h1 (by omega) e1;cases u
  ·have g:=ip (t:=t) (a:=a) (s:=s) (x:=x) (f:=f) (by rw [show Fm.q .all s x=a.f from e.symm];exact ih) hp (h0.a70 (by omega));rw [show Fm.q .all s x=a.f from e.symm] at g;exact g
  ·have g:=xp (t:=t) (a:=a) (s:=s) (x:=x) (f:=f) (by rw [show Fm.q .allU s x=a.f from e.symm];exact ih) hp (h0.a70 (by omega));rw [show Fm.q .allU s x=a.f from e.symm] at g;exact g
 | .ex u x t a,n,hs,hh,hl,hn,⟨h0,h1,h2,_,_⟩=>by
  have hlm:DA=100000:=rfl;simp only [Jt.p,Pf.cnt] at hl hn;exact Ap (JD a n hs hh (by omega) (by omega) h2) (h0.a70 (by omega))
 | .ind l x t a b f,n,hs,hh,hl,hn,⟨h0,h1,h2,h3,e,_,h4⟩=>by
  have hlm:DA=100000:=rfl;simp only [Jt.p,Pf.cnt] at hl hn;have ca:=LP a.p;have ct:=TB t;have ih:=JD a n hs hh (by omega) (by omega) h3;have hp:=bT h1 h2 (by omega) e;have hl2:(gA 1 hs).length=hs.length:=by simp
  have hl3:(gA 2 hs).length=hs.length:=by simp
  cases l
  ·exact Dp ih (KP (n:=n) (by omega) hh (by omega)) (JP _ _ (by omega)) (JD b (n+1) _ (NP (MP hh) h1) (by simp;omega) (by omega) h4) hp (h0.a70 (by omega))
  ·exact Ep ih (Vn h1 (by omega)) (vp (n:=n) (by omega) hh (by omega)) (JP _ _ (by omega)) (JD b (n+2) _ (NP (MP hh) (h1.sh 1 1)) (by simp;omega) (by omega) h4) hp (h0.a70 (by omega))
 | .subst x a b f,n,hs,hh,hl,hn,⟨h0,h1,h2,h3,_,t,u,e,e1⟩=>by
  have hlm:DA=100000:=rfl;simp only [Jt.p,Pf.cnt] at hl hn;have ih:=JD a n hs hh (by omega) (by omega) h2;have hT:TK n u:=by
   have:=Jt.FKj h2;rw [e] at this;exact this.eq2
  have g:=Gp (a:=a) (b:=b) (t:=t) (u:=u) (x:=x) (f:=f) (by rw [<- e];exact ih) (JD b n hs hh (by omega) (by omega) h3) (bT h1 hT (by omega) e1) (h0.a70 (by omega));rw [<- e] at g;exact g
inductive Hy where
 | bare (pl:Nat)
 | hy (t:Tm) (d pl:Nat)
def Hy.k:Hy->Nat
 | .bare _=>0 | .hy t _ _=>t.kd
def Hy.i:Hy->Nat
 | .bare _=>0 | .hy t _ _=>t.ix
def Hy.tk:Hy->Nat
 | .bare _=>0 | .hy t _ _=>t.tk
def Hy.te:Hy->List (List PV)
 | .bare _=>[] | .hy t _ _=>t.te
def Hy.es:Hy->List (List PV)
 | .bare _=>[] | .hy t _ _=>t.es
def Hy.d:Hy->Nat
 | .bare _=>0 | .hy _ d _=>d
def Hy.has:Hy->Bool
 | .bare _=>false | .hy _ _ _=>true
def Hy.pl:Hy->Nat
 | .bare p=>p | .hy _ _ p=>p
abbrev Hy.c (h:Hy):List PV:=[num h.k,num h.i,num h.tk,.slice h.te,.slice h.es,num h.d,.bool h.has,num h.pl]
abbrev ec (e:Tm × Nat):List PV:=[num e.1.kd,num e.1.ix,num e.1.tk,.slice e.1.te,.slice e.1.es,num e.2]
theorem Ud (e:Tm × Nat):(ec e).length=6:=rfl
theorem Hy.c_len (h:Hy):h.c.length=8:=rfl
structure Sc where
 dep:Nat
 hyps:Nat
 vs:List (Tm × Nat)
 ks:List Hy
abbrev Sc.p (s:Sc):PV:=.agg [num s.dep,num s.hyps,.slice (s.vs.map ec),.slice (s.ks.map Hy.c)]
def ent (vs:List (Tm × Nat)) (v:Nat):Option (Tm × Nat):=if v<vs.length then vs[vs.length-1-v]? else none
def Tm.ps (vs:List (Tm × Nat)) (d:Nat):Tm->Nat->Tm
 | .v i,b=>if i<b then .v i else match ent vs (i-b) with
  | some e=>e.1.sh 0 (.ofNat (d-e.2+b))
  | none => .v i
 | .lam s t,b => .lam s (t.ps vs d (b+1))
 | .n0 k,_ => .n0 k
 | .n1 k a,b => .n1 k (a.ps vs d b)
 | .n2 k x y,b => .n2 k (x.ps vs d b) (y.ps vs d b)
 | .n3 k s x y z,b => .n3 k s (x.ps vs d b) (y.ps vs d b) (z.ps vs d b)
theorem fT {vs:List (Tm × Nat)} {v:Nat} (h:v<vs.length):∃ e,ent vs v=some e/\e∈vs:=by
 unfold ent;rw [if_pos h];obtain⟨e,he⟩:∃ e,vs[vs.length-1-v]? = some e:=⟨_,List.getElem?_eq_getElem (by omega)⟩;exact⟨e,he,List.mem_of_getElem? he⟩
theorem Vd {vs:List (Tm × Nat)} {v:Nat} {e:Tm × Nat} (h:ent vs v=some e):e∈vs:=by
 unfold ent at h;split at h
 ·exact List.mem_of_getElem? h
 ·cases h
theorem Pp (vs:List (Tm × Nat)) (e:Tm × Nat):ent (vs++[e]) 0=some e:=by
 unfold ent;rw [if_pos (by simp)];simp
theorem Rp (vs:List (Tm × Nat)) (e:Tm × Nat) (v:Nat):ent (vs++[e]) (v+1)=ent vs v:=by
 unfold ent;by_cases h:v<vs.length
 ·rw [if_pos h,if_pos (by simp;omega)];rw [List.getElem?_append_left (by simp;omega)];congr 1;simp;omega
 ·rw [if_neg h,if_neg (by simp;omega)]
def sK (d:Nat) (vs:List (Tm × Nat)):Prop:=∀ e∈vs,e.2<=d/\TK e.2 e.1
theorem tK {vs:List (Tm × Nat)} {d:Nat} (hv:sK d vs):∀ (t:Tm) (b:Nat),(t.ps vs d b).cnt<=4096 * t.cnt
 | .v i,b=>by
  unfold Tm.ps;split
  ·simp [Tm.cnt]
  ·split
   ·rename_i e he;rw [lB];have:=(hv e (Vd he)).2.cnt;simp only [Tm.cnt];omega
   ·simp [Tm.cnt]
 | .lam s t,b=>by have:=tK hv t (b+1);simp only [Tm.ps,Tm.cnt];omega
 | .n0 _,b=>by simp only [Tm.ps,Tm.cnt];omega
 | .n1 _ a,b=>by have:=tK hv a b;simp only [Tm.ps,Tm.cnt];omega
 | .n2 _ x y,b=>by have:=tK hv x b;have:=tK hv y b;simp only [Tm.ps,Tm.cnt];omega
 | .n3 _ _ x y z,b=>by have:=tK hv x b;have:=tK hv y b;have:=tK hv z b;simp only [Tm.ps,Tm.cnt];omega
theorem aK {vs:List (Tm × Nat)} {d:Nat} (hv:sK d vs):∀ (t:Tm) (b:Nat),t.shp=true->(t.ps vs d b).shp=true
 | .v i,b,h=>by
  unfold Tm.ps;split
  ·rfl
  ·split
   ·rename_i e he;rw [yH];exact (hv e (Vd he)).2.shp
   ·rfl
 | .lam s t,b,h=>by
  obtain⟨h1,h2⟩:=HA h;show (_ && _)=true;rw [h1,aK hv t (b+1) h2];rfl
 | .n0 _,b,h=>rfl
 | .n1 _ a,b,h=>aK hv a b h
 | .n2 _ x y,b,h=>by
  obtain⟨h1,h2⟩:=HA h;show (_ && _)=true;rw [aK hv x b h1,aK hv y b h2];rfl
 | .n3 _ _ x y z,b,h=>by
  obtain⟨h1,h2⟩:=HA h;obtain⟨h2,h3⟩:=HA h2;obtain⟨h3,h4⟩:=HA h3;show (_ && (_ && (_ && _)))=true;rw [h1,aK hv x b h2,aK hv y b h3,aK hv z b h4];rfl
theorem cK {vs:List (Tm × Nat)} {d:Nat} (hv:sK d vs):∀ (t:Tm) (b:Nat),t.sc (vs.length+b)->(t.ps vs d b).sc (d+b)
 | .v i,b,h=>by
  have h:i<vs.length+b:=h;unfold Tm.ps;split
  ·show i<d+b;omega
  ·obtain⟨e,he,hm⟩:=fT (vs:=vs) (v:=i-b) (by omega);rw [he];simp only;obtain⟨h1,h2⟩:=hv e hm;have:=FF (d-e.2+b) e.1 0 e.2 h2.sc;rwa [show e.2+(d-e.2+b)=d+b by omega] at this
 | .lam s t,b,h=>cK hv t (b+1) h
 | .n0 _,b,h=>trivial
 | .n1 _ a,b,h=>cK hv a b h
 | .n2 _ x y,b,h=>⟨cK hv x b h.1,cK hv y b h.2⟩
 | .n3 _ _ x y z,b,h=>⟨cK hv x b h.1,cK hv y b h.2.1,cK hv z b h.2.2⟩
open Go.Lg
theorem GF (k:Nat) (hs:List Fm):(gA k hs).map Fm.has=hs.map Fm.has:=by
 simp only [gA,List.map_map];exact List.map_congr_left λ f _=>oB (oE _ f 0)
structure ScOK (n:Nat) (bs:List Bool) (s:Sc):Prop where
 vl:s.vs.length=n
 kl:s.ks.length=bs.length
 ve:sK s.dep s.vs
 ke:∀ h∈s.ks,∀ t d p,h=Hy.hy t d p->d<=s.dep/\TK d t
 kh:∀ i:Nat,bs[i]? = some true->∃ t d p,s.ks[i]? = some (Hy.hy t d p)
def Sc.bind (s:Sc):Sc:=⟨s.dep+1,s.hyps,s.vs,s.ks⟩
def Sc.var (s:Sc) (t:Tm):Sc:=⟨s.dep,s.hyps,s.vs++[(t,s.dep)],s.ks⟩
def Sc.hyp (s:Sc) (t:Tm):Sc:=⟨s.dep,s.hyps+1,s.vs,s.ks++[.hy t s.dep s.hyps]⟩
def Sc.bare (s:Sc):Sc:=⟨s.dep,s.hyps+1,s.vs,s.ks++[.bare s.hyps]⟩
theorem ScOK.bind {n:Nat} {bs:List Bool} {s:Sc} (h:ScOK n bs s):ScOK n bs s.bind :=
 ⟨h.vl,h.kl,λ e he=>⟨Nat.le_succ_of_le (h.ve e he).1,(h.ve e he).2⟩,λ x hx t d p e=>⟨Nat.le_succ_of_le (h.ke x hx t d p e).1,(h.ke x hx t d p e).2⟩,h.kh⟩
theorem ScOK.var {n:Nat} {bs:List Bool} {s:Sc} {t:Tm} (h:ScOK n bs s) (ht:TK s.dep t):ScOK (n+1) bs (s.var t) :=
 ⟨by simp [Sc.var,h.vl],h.kl,λ e he=>by
  rcases List.mem_append.1 he with he|he
  ·exact h.ve e he
  ·simp at he;subst he;exact⟨Nat.le_refl _,ht⟩,h.ke,h.kh⟩
theorem Wd {bs:List Bool} {ks:List Hy} {x:Hy} {b:Bool} (hl:ks.length=bs.length) (h:∀ i:Nat,bs[i]? = some true->∃ t d p,ks[i]? = some (Hy.hy t d p)) (hx:b=true->∃ t d p,x=Hy.hy t d p) (i:Nat) (hi:(bs++[b])[i]? = some true):∃ t d p,(ks++[x])[i]? = some (Hy.hy t d p):=by
 by_cases hlt:i<bs.length
 ·rw [List.getElem?_append_left hlt] at hi;rw [List.getElem?_append_left (by omega)];exact h i hi
 ·rw [List.getElem?_append_right (by omega)] at hi;rw [List.getElem?_append_right (by omega),hl];by_cases e:i-bs.length=0
  ·rw [e] at hi ⊢;simp at hi;obtain⟨t,d,p,e⟩:=hx hi;exact⟨t,d,p,by simp [e]⟩
  ·have : [b][i-bs.length]? = none:=by simp;omega
   rw [this] at hi;cases hi
theorem ScOK.hyp {n:Nat} {bs:List Bool} {s:Sc} {t:Tm} (h:ScOK n bs s) (ht:TK s.dep t) (b:Bool):ScOK n (bs++[b]) (s.hyp t) :=
 ⟨h.vl,by simp [Sc.hyp,h.kl],h.ve,(λ x hx t' d p e=>by
  rcases List.mem_append.1 hx with hx|hx
  ·exact h.ke x hx t' d p e
  ·simp at hx;subst hx;cases e;exact⟨Nat.le_refl _,ht⟩),Wd h.kl h.kh λ _=>⟨_,_,_,rfl⟩⟩
theorem ScOK.bare {n:Nat} {bs:List Bool} {s:Sc} (h:ScOK n bs s):ScOK n (bs++[false]) s.bare :=
 ⟨h.vl,by simp [Sc.bare,h.kl],h.ve,(λ x hx t' d p e=>by
  rcases List.mem_append.1 hx with hx|hx
  ·exact h.ke x hx t' d p e
  ·simp at hx;subst hx;cases e),Wd h.kl h.kh nofun⟩
theorem KD {n i:Nat} (h:i<n):TK n (.v i):=⟨by simp [Tm.cnt],rfl,h⟩
theorem aN {n:Nat} {k:K1} {a:Tm} (h:TK n a) (hc:a.cnt<4096):TK n (.n1 k a):=⟨by simp only [Tm.cnt];omega,h.shp,h.sc⟩
theorem Sp {n m:Nat} {t:Tm} (h:TK n t) (hm:n<=m):TK m t:=⟨h.cnt,h.shp,NW t hm h.sc⟩
theorem TK.sh {n:Nat} {t:Tm} (h:TK n t) (k:Nat):TK (n+k) (t.sh 0 (.ofNat k)):=⟨by rw [lB];exact h.cnt,by rw [yH];exact h.shp,FF k t 0 n h.sc⟩
inductive XR where
 | er (x:Sx) (n:Nat)
 | ok (t:Tm)
def XR.k:XR->Nat
 | .er x _=>x.k | .ok t=>t.kd
def XR.i:XR->Nat
 | .er x _=>x.i | .ok t=>t.ix
def XR.tk:XR->Nat
 | .er x _=>x.tk | .ok t=>t.tk
def XR.te:XR->List (List PV)
 | .er x _=>x.te | .ok t=>t.te
def XR.es:XR->List (List PV)
 | .er x _=>x.es | .ok t=>t.es
def XR.e:XR->Nat
 | .er _ n=>n+1 | .ok _=>0
def XR.p (r:XR):PV:=.tuple [.agg [num r.k,num r.i,num r.tk,.slice r.te,.slice r.es],num r.e]
open Go.Lg
theorem GB (i:Nat):A 99 [num i] (Tm.v i).p:=f0 []
theorem SH (s:Sc) (h:s.dep<=qA):A 138 [s.p] s.bind.p:=by
 have hm:=zA;have hbg:=kA;exact f1 [(5,.z (s.dep+1))] (iA (a:=s.dep) (b:=1) (by omega))
theorem TH (s:Sc) (t:Tm) (h:s.vs.length<=qA):A 203 [s.p,t.p] (s.var t).p:=by
 have hm:=zA;have hbg:=kA;have g1:=oF (s.vs.map ec).length;have g2:=OE 6 80 Ud (by decide) s.vs (t,s.dep) (by omega) (by simp only [maxLen];omega);rw [show (s.var t).p = .agg [num s.dep,num s.hyps,.slice (s.vs.map ec++[ec (t,s.dep)]),.slice (s.ks.map Hy.c)] by simp [Sc.var]];exact f2 [(13,.ok),(19,.ok)] g1 g2
theorem OP (s:Sc) (t:Tm) (h:s.ks.length<=qA) (h':s.hyps<=qA):A 98 [s.p,t.p] (s.hyp t).p:=by
 have hm:=zA;have hbg:=kA;have g1:=oF (s.ks.map Hy.c).length;have g2:=OE 8 96 Hy.c_len (by decide) s.ks (.hy t s.dep s.hyps) (by omega) (by simp only [maxLen];omega);rw [show (s.hyp t).p = .agg [num s.dep,num (s.hyps+1),.slice (s.vs.map ec),.slice (s.ks.map Hy.c++[(Hy.hy t s.dep s.hyps).c])] by simp [Sc.hyp]];exact f3 [(13,.ok),(22,.ok),(26,.z (s.hyps+1))] g1 g2 (iA (a:=s.hyps) (b:=1) (by omega))
theorem dX (s:Sc) (h:s.ks.length<=qA) (h':s.hyps<=qA):A 97 [s.p] s.bare.p:=by
 have hm:=zA;have hbg:=kA;have g1:=oF (s.ks.map Hy.c).length;have g2:=OE 8 96 Hy.c_len (by decide) s.ks (.bare s.hyps) (by omega) (by simp only [maxLen];omega);rw [show s.bare.p = .agg [num s.dep,num (s.hyps+1),.slice (s.vs.map ec),.slice (s.ks.map Hy.c++[(Hy.bare s.hyps).c])] by simp [Sc.bare]];exact f3 [(11,.ok),(16,.ok),(20,.z (s.hyps+1))] g1 g2 (iA (a:=s.hyps) (b:=1) (by omega))
theorem eK (k:Nat) (hk:k+1<=qA+qA):∀ (t:Tm) (c:Nat),t.mx<=qA * qA->c+t.cnt<=qA->A 197 [t.p,num c,num (k+1)] (t.sh c (.ofNat (k+1))).p
 | .v i,c,h3,h4=>by
  have hm:=zA;have hbg:=kA;have h3:i<=qA * qA:=h3;rw [hm] at h3;by_cases h:c<=i
  ·have e:(Tm.v i).sh c (.ofNat (k+1)) = .v (i+(k+1)):=by simp only [Tm.sh,if_pos h];rfl
   rw [e];exact f2 [(19,.G),(23,.z (i+(k+1)))] (CH h) (iA (a:=i) (b:=k+1) (by omega))
  ·have e:(Tm.v i).sh c (.ofNat (k+1)) = .v i:=by simp only [Tm.sh,if_neg h]
   rw [e];exact f1 [(19,.H)] (xF (show i<c by omega))
 | .lam s b,c,h3,h4=>by
  have h4:c+(1+b.cnt)<=qA:=h4;have hm:=zA;have hbg:=kA;exact f2 [(30,.ok),(45,.r (b.sh (c+1) (.ofNat (k+1))).p)] (rA (show c+1<=_ by omega)) (eK k hk b (c+1) h3 (by omega))
 | .n0 q,c,_,_=>by cases q<;>exact f0 []
 | .n1 q a,c,h3,h4=>by
  have h4:c+(1+a.cnt)<=qA:=h4;have h5:=eK k hk a c h3 (by omega);cases q<;>exact f1 [(45,.r (a.sh c (.ofNat (k+1))).p)] h5
 | .n2 q a b,c,h3,h4=>by
  simp only [Tm.mx,Tm.cnt] at h3 h4;have h5:=eK k hk a c (by omega) (by omega);have h6:=eK k hk b c (by omega) (by omega);cases q<;>exact f2 [(45,.r (a.sh c (.ofNat (k+1))).p),(45,.r (b.sh c (.ofNat (k+1))).p)] h5 h6
 | .n3 q s a b d,c,h3,h4=>by
  simp only [Tm.mx,Tm.cnt] at h3 h4;have h5:=eK k hk a c (by omega) (by omega);have h6:=eK k hk b c (by omega) (by omega);have h7:=eK k hk d c (by omega) (by omega);cases q<;>exact f3 [(45,.r (a.sh c (.ofNat (k+1))).p),(45,.r (b.sh c (.ofNat (k+1))).p),(45,.r (d.sh c (.ofNat (k+1))).p)] h5 h6 h7
theorem Xd (t:Tm) (c k:Nat) (hk:k<=qA+qA) (h:t.mx<=qA * qA) (h':c+t.cnt<=qA):A 197 [t.p,num c,num k] (t.sh c (.ofNat k)).p:=by
 cases k with
 | zero =>
  rw [ZE];exact f0 []
 | succ k=>exact eK k hk t c h h'
theorem AG:∀ t:Tm,t.cnt<=bA->A 198 [t.p] (num t.cnt)
 | .v i,h=>f0 []
 | .lam s b,h=>by
  have hb:=kA;simp only [Tm.cnt] at h;exact f2 [(15,.N b.cnt),(16,.z (1+b.cnt))] (AG b (by omega)) (iA (a:=1) (by omega))
 | .n0 k,h=>by cases k<;>exact f0 []
 | .n1 k a,h=>by
  have hb:=kA;simp only [Tm.cnt] at h;have g1:=AG a (by omega);have g2:=iA (a:=1) (b:=a.cnt) (by omega);cases k<;>exact f2 [(15,.N a.cnt),(16,.z (1+a.cnt))] g1 g2
 | .n2 k a b,h=>by
  have hb:=kA;simp only [Tm.cnt] at h;have g1:=AG a (by omega);have g2:=iA (a:=1) (b:=a.cnt) (by omega);have g3:=AG b (by omega);have g4:=iA (a:=1+a.cnt) (b:=b.cnt) (by omega);cases k<;>exact f4 [(15,.N a.cnt),(16,.z (1+a.cnt)),(15,.N b.cnt),(16,.z (1+a.cnt+b.cnt))] g1 g2 g3 g4
 | .n3 k s a b d,h=>by
  have hb:=kA;simp only [Tm.cnt] at h;have g1:=AG a (by omega);have g2:=iA (a:=1) (b:=a.cnt) (by omega);have g3:=AG b (by omega);have g4:=iA (a:=1+a.cnt) (b:=b.cnt) (by omega);have g5:=AG d (by omega);have g6:=iA (a:=1+a.cnt+b.cnt) (b:=d.cnt) (by omega);cases k<;>exact f6 [(15,.N a.cnt),(16,.z (1+a.cnt)),(15,.N b.cnt),(16,.z (1+a.cnt+b.cnt)),(15,.N d.cnt),(16,.z (1+a.cnt+b.cnt+d.cnt))] g1 g2 g3 g4 g5 g6
theorem iK (s:Sc) (hv:sK s.dep s.vs) (hd:s.dep<=DA) (hl:s.vs.length<=DA):∀ (t:Tm) (b:Nat),t.sc (s.vs.length+b)->b+t.cnt<=qA->A 301 [s.p,t.p,num b] (t.ps s.vs s.dep b).p
 | .v i,b,h,h4=>by
  have hm:=zA;have hbg:=kA;have hlm:DA=100000:=rfl;simp only [Tm.cnt] at h4;have h:i<s.vs.length+b:=h;by_cases hb:i<b
  ·have e:(Tm.v i).ps s.vs s.dep b = .v i:=by simp only [Tm.ps,if_pos hb]
   rw [e];have g1:aA (Int.ofNat i - .ofNat b)=true/\Int.ofNat i - .ofNat b=Int.ofNat i - .ofNat b:=bN (by omega) (by omega);have g2:uA (Int.ofNat i - .ofNat b) (.ofNat 0)=true:=by rw [KB];simp;omega
   exact f2 [(18,.y (Int.ofNat i - .ofNat b)),(20,.G)] g1 g2
  ·have g1:aA (Int.ofNat i - .ofNat b)=true/\Int.ofNat i - .ofNat b = .ofNat (i-b):=by
    have e:Int.ofNat i - .ofNat b = .ofNat (i-b):=by simp;omega
    exact⟨by rw [e];exact rA (by omega),e⟩
   obtain⟨e,he,hme⟩:=fT (vs:=s.vs) (v:=i-b) (by omega);have he':s.vs[s.vs.length-1-(i-b)]? = some e:=by
    unfold ent at he;rwa [if_pos (by omega)] at he
   have ee:(Tm.v i).ps s.vs s.dep b=e.1.sh 0 (.ofNat (s.dep-e.2+b)):=by simp only [Tm.ps,if_neg hb,he]
   rw [ee];obtain⟨q1,q2⟩:=hv e hme;have g2:uA (.ofNat (i-b)) (.ofNat 0)=false:=JA (Nat.zero_le _);have g3:(!uA (.ofNat (i-b)) (.ofNat (s.vs.map ec).length))=false:=xF (by simp;omega);have g4:=uB (a:=(s.vs.map ec).length) (by simp;omega) (by simp;omega);have g5:aA (Int.ofNat ((s.vs.map ec).length-1) - .ofNat (i-b))=true/\Int.ofNat ((s.vs.map ec).length-1) - .ofNat (i-b) = .ofNat (s.vs.length-1-(i-b)):=by
    have e:Int.ofNat ((s.vs.map ec).length-1) - .ofNat (i-b) = .ofNat (s.vs.length-1-(i-b)):=by simp;omega
    exact⟨by rw [e];exact rA (by omega),e⟩
   have g6:=kB he' Ud;have g7:aA (Int.ofNat s.dep - .ofNat e.2)=true/\Int.ofNat s.dep - .ofNat e.2 = .ofNat (s.dep-e.2):=by
    have e:Int.ofNat s.dep - .ofNat e.2 = .ofNat (s.dep-e.2):=by simp;omega
    exact⟨by rw [e];exact rA (by omega),e⟩
   have g8:=iA (a:=s.dep-e.2) (b:=b) (by omega);have g9:=Xd e.1 0 (s.dep-e.2+b) (by omega) (by have:=q2.mx (by omega);rw [hm];omega) (by have:=q2.cnt;omega);exact f9 [(18,.z (i-b)),(20,.H),(26,.H),(34,.z ((s.vs.map ec).length-1)),(36,.z (s.vs.length-1-(i-b))),(37,.i (ec e)),(45,.z (s.dep-e.2)),(47,.z (s.dep-e.2+b)),(48,.r (e.1.sh 0 (.ofNat (s.dep-e.2+b))).p)] g1 g2 g3 g4 g5 g6 g7 g8 g9
 | .lam u t,b,h,h4=>by
  have h4:b+(1+t.cnt)<=qA:=h4;have hm:=zA;have hbg:=kA;exact f2 [(53,.ok),(68,.r (t.ps s.vs s.dep (b+1)).p)] (rA (show b+1<=_ by omega)) (iK s hv hd hl t (b+1) h (by omega))
 | .n0 q,b,_,_=>by cases q<;>exact f0 []
 | .n1 q x,b,h,h4=>by
  have h4:b+(1+x.cnt)<=qA:=h4;have h5:=iK s hv hd hl x b h (by omega);cases q<;>exact f1 [(68,.r (x.ps s.vs s.dep b).p)] h5
 | .n2 q x y,b,h,h4=>by
  simp only [Tm.cnt] at h4;have h5:=iK s hv hd hl x b h.1 (by omega);have h6:=iK s hv hd hl y b h.2 (by omega);cases q<;>exact f2 [(68,.r (x.ps s.vs s.dep b).p),(68,.r (y.ps s.vs s.dep b).p)] h5 h6
 | .n3 q u x y z,b,h,h4=>by
  simp only [Tm.cnt] at h4;have h5:=iK s hv hd hl x b h.1 (by omega);have h6:=iK s hv hd hl y b h.2.1 (by omega);have h7:=iK s hv hd hl z b h.2.2 (by omega);cases q<;>exact f3 [(68,.r (x.ps s.vs s.dep b).p),(68,.r (y.ps s.vs s.dep b).p),(68,.r (z.ps s.vs s.dep b).p)] h5 h6 h7
def XR.fit (t:Tm):XR:=if t.cnt<=4096 then .ok t else .er .z 3
theorem Tp (s:Sc) (t:Tm) (b:Nat) (n:Nat) (hn:n=s.vs.length) (hv:sK s.dep s.vs) (hd:s.dep<=DA) (hl:s.vs.length<=DA) (ht:TK n t):A 262 [s.p,t.p,num 0] (XR.fit (t.ps s.vs s.dep 0)).p:=by
 have hm:=zA;have hb:=kA;have c1:=ht.cnt;have g1:=iK s hv hd hl t 0 (hn ▸ ht.sc) (by omega);have c2:=tK hv t 0;have g2:=AG (t.ps s.vs s.dep 0) (by omega);unfold XR.fit;split
 ·rename_i h;exact f3 [(12,.r (t.ps s.vs s.dep 0).p),(14,.N (t.ps s.vs s.dep 0).cnt),(15,.H)] g1 g2 (JA h)
 ·rename_i h;exact f3 [(12,.r (t.ps s.vs s.dep 0).p),(14,.N (t.ps s.vs s.dep 0).cnt),(15,.G)] g1 g2 (cA (a:=4096) (Nat.lt_of_not_le h))
theorem gT (s:Sc) (t:Tm) (n:Nat) (hn:n=s.vs.length) (hv:sK s.dep s.vs) (hd:s.dep<=DA) (hl:s.vs.length<=DA) (ht:TK n t):A 202 [s.p,t.p] (XR.fit (t.ps s.vs s.dep 0)).p :=
 f1 [(8,.r (XR.fit (t.ps s.vs s.dep 0)).p)] (Tp s t 0 n hn hv hd hl ht)
abbrev Yd:PV:=.agg [num 0,.slice []]
theorem Up (s:Ty) (b:Tm) (h:b.cnt<=qA):A 137 [num 2,s.p,row [b]] (XR.fit (.lam s b)).p:=by
 have hm:=zA;have hb:=kA;have g:=AG (.lam s b) (by simp only [Tm.cnt];omega);unfold XR.fit;split
 ·rename_i h;exact f2 [(14,.N (Tm.lam s b).cnt),(15,.H)] g (JA h)
 ·rename_i h;exact f2 [(14,.N (Tm.lam s b).cnt),(15,.G)] g (cA (a:=4096) (Nat.lt_of_not_le h))
theorem Zd (k:K1) (b:Tm) (h:b.cnt<=qA):A 137 [num k.n,Yd,row [b]] (XR.fit (.n1 k b)).p:=by
 have hm:=zA;have hb:=kA;have g:=AG (.n1 k b) (by simp only [Tm.cnt];omega);unfold XR.fit;split
 ·rename_i h;cases k<;>exact f2 [(14,.N (1+b.cnt)),(15,.H)] g (JA h)
 ·rename_i h;cases k<;>exact f2 [(14,.N (1+b.cnt)),(15,.G)] g (cA (a:=4096) (Nat.lt_of_not_le h))
theorem oK (k:K2) (a b:Tm) (h:a.cnt+b.cnt<=qA):A 137 [num k.n,Yd,row [a,b]] (XR.fit (.n2 k a b)).p:=by
 have hm:=zA;have hb:=kA;have g:=AG (.n2 k a b) (by simp only [Tm.cnt];omega);unfold XR.fit;split
 ·rename_i h;cases k<;>exact f2 [(14,.N (1+a.cnt+b.cnt)),(15,.H)] g (JA h)
 ·rename_i h;cases k<;>exact f2 [(14,.N (1+a.cnt+b.cnt)),(15,.G)] g (cA (a:=4096) (Nat.lt_of_not_le h))
theorem qe (k:K3) (s:Ty) (a b d:Tm) (h:a.cnt+b.cnt+d.cnt<=qA):A 137 [num k.n,s.p,row [a,b,d]] (XR.fit (.n3 k s a b d)).p:=by
 have hm:=zA;have hb:=kA;have g:=AG (.n3 k s a b d) (by simp only [Tm.cnt];omega);unfold XR.fit;split
 ·rename_i h;cases k<;>exact f2 [(14,.N (1+a.cnt+b.cnt+d.cnt)),(15,.H)] g (JA h)
 ·rename_i h;cases k<;>exact f2 [(14,.N (1+a.cnt+b.cnt+d.cnt)),(15,.G)] g (cA (a:=4096) (Nat.lt_of_not_le h))
theorem Vp (s:Sc) (i:Nat) (t:Tm) (d p:Nat) (h:s.ks[i]? = some (.hy t d p)) (hd:d<=s.dep) (hs:s.dep<=DA) (ht:TK d t):A 134 [s.p,num i] (.tuple [(t.sh 0 (.ofNat (s.dep-d))).p,.bool true]):=by
 have hm:=zA;have hbg:=kA;have hlm:DA=100000:=rfl;have g2:aA (Int.ofNat s.dep - .ofNat d)=true/\Int.ofNat s.dep - .ofNat d = .ofNat (s.dep-d):=by
  have e:Int.ofNat s.dep - .ofNat d = .ofNat (s.dep-d):=by simp;omega
  exact⟨by rw [e];exact rA (by omega),e⟩
 exact f3 [(10,.i (Hy.hy t d p).c),(20,.z (s.dep-d)),(21,.r (t.sh 0 (.ofNat (s.dep-d))).p)] (kB h Hy.c_len) g2 (Xd t 0 (s.dep-d) (by omega) (by have:=ht.mx (by omega);rw [hm];omega) (by have:=ht.cnt;omega))
theorem fX:∀ t:Ty,t.size<=bA->A 325 [t.p] (num t.size)
 | .nat,_=>f0 []
 | .list,_=>f0 []
 | .unit,_=>f0 []
 | .two k a b,h=>by
  have hb:=kA;simp only [Ty.size] at h;have g1:=fX a (by omega);have g2:=iA (a:=1) (b:=a.size) (by omega);have g3:=fX b (by omega);have g4:=iA (a:=1+a.size) (b:=b.size) (by omega);cases k<;>exact f4 [(15,.N a.size),(16,.z (1+a.size)),(15,.N b.size),(16,.z (1+a.size+b.size))] g1 g2 g3 g4
theorem je (k:Bool) (s u:Ty) (h:s.size+u.size<=qA):A 302 [num (bn k 3 4),s.p,u.p] (TR.fit (.two k s u)).p:=by
 have hm:=zA;have hb:=kA;have g:=fX (.two k s u) (by simp only [Ty.size];omega);unfold TR.fit;split
 ·rename_i h;cases k<;>exact f2 [(15,.N (1+s.size+u.size)),(16,.H)] g (JA h)
 ·rename_i h;cases k<;>exact f2 [(15,.N (1+s.size+u.size)),(16,.G)] g (cA (a:=64) (Nat.lt_of_not_le h))
theorem we (s u:Ty) (h:s.size+u.size<=qA):A 263 [s.p,u.p] (TR.fit (.two false s u)).p:=f1 [(8,.r (TR.fit (.two false s u)).p)] (je false s u h)
theorem Wp (s u:Ty) (h:s.size+u.size<=qA):A 269 [s.p,u.p] (TR.fit (.two true s u)).p:=f1 [(8,.r (TR.fit (.two true s u)).p)] (je true s u h)
theorem Xp:A 266 [] (Tm.n0 .unit).p:=f0 []
theorem cN:A 267 [] Ty.nat.p:=f0 []
theorem ye:A 268 [] Ty.list.p:=f0 []
section
variable {f:Nat} {args:List PV} {x:PV}
theorem f15 (tp:Di) {H1 H2 H3 H4 H5 H6 H7 H8 H9 H10 H11 H12 H13 H14 H15:Prop} (h1:H1) (h2:H2) (h3:H3) (h4:H4) (h5:H5) (h6:H6) (h7:H7) (h8:H8) (h9:H9) (h10:H10) (h11:H11) (h12:H12) (h13:H13) (h14:H14) (h15:H15) (e:(H1/\H2/\H3/\H4/\H5/\H6/\H7/\H8/\H9/\H10/\H11/\H12/\H13/\H14/\H15/\x=x)=U f args tp x:=by kernel_rfl):A f args x:=fk tp ⟨h1,h2,h3,h4,h5,h6,h7,h8,h9,h10,h11,h12,h13,h14,h15,rfl⟩ e
theorem f16 (tp:Di) {H1 H2 H3 H4 H5 H6 H7 H8 H9 H10 H11 H12 H13 H14 H15 H16:Prop} (h1:H1) (h2:H2) (h3:H3) (h4:H4) (h5:H5) (h6:H6) (h7:H7) (h8:H8) (h9:H9) (h10:H10) (h11:H11) (h12:H12) (h13:H13) (h14:H14) (h15:H15) (h16:H16) (e:(H1/\H2/\H3/\H4/\H5/\H6/\H7/\H8/\H9/\H10/\H11/\H12/\H13/\H14/\H15/\H16/\x=x)=U f args tp x:=by kernel_rfl):A f args x:=fk tp ⟨h1,h2,h3,h4,h5,h6,h7,h8,h9,h10,h11,h12,h13,h14,h15,h16,rfl⟩ e
theorem f17 (tp:Di) {H1 H2 H3 H4 H5 H6 H7 H8 H9 H10 H11 H12 H13 H14 H15 H16 H17:Prop} (h1:H1) (h2:H2) (h3:H3) (h4:H4) (h5:H5) (h6:H6) (h7:H7) (h8:H8) (h9:H9) (h10:H10) (h11:H11) (h12:H12) (h13:H13) (h14:H14) (h15:H15) (h16:H16) (h17:H17) (e:(H1/\H2/\H3/\H4/\H5/\H6/\H7/\H8/\H9/\H10/\H11/\H12/\H13/\H14/\H15/\H16/\H17/\x=x)=U f args tp x:=by kernel_rfl):A f args x:=fk tp ⟨h1,h2,h3,h4,h5,h6,h7,h8,h9,h10,h11,h12,h13,h14,h15,h16,h17,rfl⟩ e
theorem f18 (tp:Di) {H1 H2 H3 H4 H5 H6 H7 H8 H9 H10 H11 H12 H13 H14 H15 H16 H17 BB:Prop} (h1:H1) (h2:H2) (h3:H3) (h4:H4) (h5:H5) (h6:H6) (h7:H7) (h8:H8) (h9:H9) (h10:H10) (h11:H11) (h12:H12) (h13:H13) (h14:H14) (h15:H15) (h16:H16) (h17:H17) (vD:BB) (e:(H1/\H2/\H3/\H4/\H5/\H6/\H7/\H8/\H9/\H10/\H11/\H12/\H13/\H14/\H15/\H16/\H17/\BB/\x=x)=U f args tp x:=by kernel_rfl):A f args x:=fk tp ⟨h1,h2,h3,h4,h5,h6,h7,h8,h9,h10,h11,h12,h13,h14,h15,h16,h17,vD,rfl⟩ e
theorem f19 (tp:Di) {H1 H2 H3 H4 H5 H6 H7 H8 H9 H10 H11 H12 H13 H14 H15 H16 H17 BB zB:Prop} (h1:H1) (h2:H2) (h3:H3) (h4:H4) (h5:H5) (h6:H6) (h7:H7) (h8:H8) (h9:H9) (h10:H10) (h11:H11) (h12:H12) (h13:H13) (h14:H14) (h15:H15) (h16:H16) (h17:H17) (vD:BB) (OD:zB) (e:(H1/\H2/\H3/\H4/\H5/\H6/\H7/\H8/\H9/\H10/\H11/\H12/\H13/\H14/\H15/\H16/\H17/\BB/\zB/\x=x)=U f args tp x:=by kernel_rfl):A f args x:=fk tp ⟨h1,h2,h3,h4,h5,h6,h7,h8,h9,h10,h11,h12,h13,h14,h15,h16,h17,vD,OD,rfl⟩ e
theorem f20 (tp:Di) {H1 H2 H3 H4 H5 H6 H7 H8 H9 H10 H11 H12 H13 H14 H15 H16 H17 BB zB H20:Prop} (h1:H1) (h2:H2) (h3:H3) (h4:H4) (h5:H5) (h6:H6) (h7:H7) (h8:H8) (h9:H9) (h10:H10) (h11:H11) (h12:H12) (h13:H13) (h14:H14) (h15:H15) (h16:H16) (h17:H17) (vD:BB) (OD:zB) (h20:H20) (e:(H1/\H2/\H3/\H4/\H5/\H6/\H7/\H8/\H9/\H10/\H11/\H12/\H13/\H14/\H15/\H16/\H17/\BB/\zB/\H20/\x=x)=U f args tp x:=by kernel_rfl):A f args x:=fk tp ⟨h1,h2,h3,h4,h5,h6,h7,h8,h9,h10,h11,h12,h13,h14,h15,h16,h17,vD,OD,h20,rfl⟩ e
theorem f21 (tp:Di) {H1 H2 H3 H4 H5 H6 H7 H8 H9 H10 H11 H12 H13 H14 H15 H16 H17 BB zB H20 H21:Prop} (h1:H1) (h2:H2) (h3:H3) (h4:H4) (h5:H5) (h6:H6) (h7:H7) (h8:H8) (h9:H9) (h10:H10) (h11:H11) (h12:H12) (h13:H13) (h14:H14) (h15:H15) (h16:H16) (h17:H17) (vD:BB) (OD:zB) (h20:H20) (h21:H21) (e:(H1/\H2/\H3/\H4/\H5/\H6/\H7/\H8/\H9/\H10/\H11/\H12/\H13/\H14/\H15/\H16/\H17/\BB/\zB/\H20/\H21/\x=x)=U f args tp x:=by kernel_rfl):A f args x:=fk tp ⟨h1,h2,h3,h4,h5,h6,h7,h8,h9,h10,h11,h12,h13,h14,h15,h16,h17,vD,OD,h20,h21,rfl⟩ e
theorem f22 (tp:Di) {H1 H2 H3 H4 H5 H6 H7 H8 H9 H10 H11 H12 H13 H14 H15 H16 H17 BB zB H20 H21 H22:Prop} (h1:H1) (h2:H2) (h3:H3) (h4:H4) (h5:H5) (h6:H6) (h7:H7) (h8:H8) (h9:H9) (h10:H10) (h11:H11) (h12:H12) (h13:H13) (h14:H14) (h15:H15) (h16:H16) (h17:H17) (vD:BB) (OD:zB) (h20:H20) (h21:H21) (h22:H22) (e:(H1/\H2/\H3/\H4/\H5/\H6/\H7/\H8/\H9/\H10/\H11/\H12/\H13/\H14/\H15/\H16/\H17/\BB/\zB/\H20/\H21/\H22/\x=x)=U f args tp x:=by kernel_rfl):A f args x:=fk tp ⟨h1,h2,h3,h4,h5,h6,h7,h8,h9,h10,h11,h12,h13,h14,h15,h16,h17,vD,OD,h20,h21,h22,rfl⟩ e
end
def Ty.ini:Ty->Tm
 | .nat => .n0 .zero
 | .list => .n0 .nil
 | .unit => .n0 .unit
 | .two k a b=>match k with
  | false => .n2 .pair a.ini b.ini
  | true => .lam a b.ini
theorem xK:∀ t:Ty,A 205 [t.p] t.ini.p
 | .nat=>f0 []
 | .list=>f0 []
 | .unit=>f1 [(38,.r (Tm.n0 .unit).p)] Xp
 | .two false a b=>f2 [(17,.r a.ini.p),(22,.r b.ini.p)] (xK a) (xK b)
 | .two true a b=>f1 [(35,.r b.ini.p)] (xK b)
theorem AK {s:Ty} (h:s.size<=64):Nat.beq s.chk 0=true:=by rw [vH,ckE_0.2 h];rfl
theorem mT:∀ t:Ty,t.ini.cnt<=t.size
 | .nat=>Nat.le_refl _
 | .list=>Nat.le_refl _
 | .unit=>Nat.le_refl _
 | .two false a b=>by have:=mT a;have:=mT b;simp only [Ty.ini,Tm.cnt,Ty.size];omega
 | .two true a b=>by have:=mT b;simp only [Ty.ini,Tm.cnt,Ty.size];omega
theorem nT:∀ t:Ty,t.size<=64->t.ini.shp=true
 | .nat,_=>rfl
 | .list,_=>rfl
 | .unit,_=>rfl
 | .two false a b,h=>by
  simp only [Ty.size] at h;show (_ && _)=true;rw [nT a (by omega),nT b (by omega)];rfl
 | .two true a b,h=>by
  simp only [Ty.size] at h;show (_ && _)=true;rw [AK (s:=a) (by omega),nT b (by omega)];rfl
theorem PP:∀ (t:Ty) (n:Nat),t.ini.sc n
 | .nat,_=>trivial
 | .list,_=>trivial
 | .unit,_=>trivial
 | .two false a b,n=>⟨PP a n,PP b n⟩
 | .two true a b,n=>PP b (n+1)
theorem LI (t:Ty) (h:t.size<=64) (n:Nat):TK n t.ini:=⟨by have:=mT t;omega,nT t h,PP t n⟩
theorem MI {n:Nat} {f:Fm} (h:FK n f) (hn:n<=DA):∃ r:TR,A 136 [f.p] (.tuple [.agg [num r.k,.slice r.l],.bool f.has,num r.n])/\r.sz<=64/\(∀ n,r = .er n->n=3) /\ ∀ t,r = .ok t->f.has=true->t=f.cty:=by
 obtain⟨r,g,q,q1,q2⟩:=h.a34;exact⟨r,f2 [(10,.U [.bool f.has,num 0]),(19,.r r.p)] (h.a70 hn) g,q,q2,q1⟩
theorem PL {t:Ty} {n:Nat} (h:TR.fit t = .er n):n=3:=by
 unfold TR.fit at h;split at h<;>cases h;rfl
def XR.lam (s:Ty):XR->XR
 | .er _ n => .er .z n
 | .ok t => .fit (.lam s t)
def XR.two (k:K2):XR->XR->XR
 | .er _ n,_ => .er .z n
 | .ok _,.er _ n => .er .z n
 | .ok a,.ok b => .fit (.n2 k a b)
def XR.cn:XR->Nat
 | .er _ _=>0
 | .ok t=>t.cnt
abbrev XR.b (r:XR):PV:=.agg [num r.k,num r.i,num r.tk,.slice r.te,.slice r.es]
theorem UH (s:Ty) (r:XR) (h:r.cn<=4096):A 139 [s.p,r.b,num r.e] (r.lam s).p:=by
 cases r with
 | er x n=>exact f0 []
 | ok t =>
  have hm:=zA;exact f1 [(15,.r (XR.fit (.lam s t)).p)] (Up s t (by have h:t.cnt<=4096:=h;omega))
theorem Yp (t:Tm):(XR.fit t).cn<=4096:=by
 unfold XR.fit;split
 ·assumption
 ·exact Nat.zero_le _
theorem BK (s:Ty) (r:XR):(r.lam s).cn<=4096:=by
 cases r with
 | er x n=>exact Nat.zero_le _
 | ok t=>exact Yp _
def XR.one (k:K1):XR->XR
 | .er x n => .er x n
 | .ok t => .fit (.n1 k t)
def XR.Gd (d:Nat) (x:Tm):XR->Prop
 | .er _ n=>n=3
 | .ok t=>TK d t/\t=x
theorem XR.Gd.cn {d:Nat} {x:Tm} {r:XR} (h:r.Gd d x):r.cn<=4096:=by
 cases r with
 | er x n=>exact Nat.zero_le _
 | ok t=>exact h.1.cnt
theorem QL {d:Nat} {t x:Tm} (h1:t.shp=true) (h2:t.sc d) (h3:t=x):(XR.fit t).Gd d x:=by
 unfold XR.fit;split
 ·rename_i h;exact⟨⟨h,h1,h2⟩,h3⟩
 ·rfl
theorem VH {d:Nat} {x:Tm} {s:Ty} {r:XR} (hs:s.size<=64) (h:r.Gd (d+1) x):(r.lam s).Gd d (.lam s x):=by
 cases r with
 | er x n=>exact h
 | ok t =>
  obtain⟨h1,rfl⟩:=h;refine QL ?_ h1.sc rfl;show (_ && _)=true;rw [AK hs,h1.shp];rfl
theorem SL {d:Nat} {x y:Tm} {k:K2} {a b:XR} (ha:a.Gd d x) (hb:b.Gd d y):(XR.two k a b).Gd d (.n2 k x y):=by
 cases a with
 | er x n=>exact ha
 | ok x=>cases b with
  | er z n=>exact hb
  | ok y =>
   obtain⟨h1,rfl⟩:=ha;obtain⟨h2,rfl⟩:=hb;refine QL ?_ ⟨h1.sc,h2.sc⟩ rfl;show (_ && _)=true;rw [h1.shp,h2.shp];rfl
theorem ue {d:Nat} {x:Tm} {k:K1} {a:XR} (ha:a.Gd d x):(XR.one k a).Gd d (.n1 k x):=by
 cases a with
 | er x n=>exact ha
 | ok x =>
  obtain⟨h1,rfl⟩:=ha;exact QL h1.shp h1.sc rfl
open Go.Lg
abbrev vB (tl:List Tm):PV:=.agg [row tl]
abbrev tyR (r:TR) (b:Bool):PV:=.tuple [.agg [num r.k,.slice r.l],.bool b,num r.n]
abbrev mB (tl:List Tm) (hs:List Fm) (a:Jt) (F:Fm) (s:Sc) (r:XR):Prop:=A 94 [vB tl,a.pf hs F,s.p] r.p
variable {tl:List Tm} {hs:List Fm} {s:Sc}
theorem Zp {a b:Jt} {x y:Fm} {ra rb:XR} (hx:x.has=true) (hy:y.has=true) (ga:mB tl hs a x s ra) (gb:mB tl hs b y s rb) (ca:ra.cn<=4096) (cb:rb.cn<=4096):A 94 [vB tl,MA (Pf.p2 .andI a.p b.p) (Fm.bin .and x y) hs [[a.pf hs x],[b.pf hs y]],s.p] (XR.two .pair ra rb).p:=by
 cases ra with
 | er x n=>exact f3 [(71,.G),(81,.G),(87,.n [(13,.n [(15,.r (XR.er x n).p)])])] hx hy ga
 | ok t=>cases rb with
  | er x n=>exact f4 [(71,.G),(81,.G),(87,.n [(13,.n [(15,.r (XR.ok t).p)]),(22,.n [(15,.r (XR.er x n).p)])])] hx hy ga gb
  | ok u =>
   have c1:t.cnt<=4096:=ca;have c2:u.cnt<=4096:=cb;have hm:=zA;exact f5 [(71,.G),(81,.G),(87,.n [(13,.n [(15,.r (XR.ok t).p)]),(22,.n [(15,.r (XR.ok u).p)]),(34,.r (XR.fit (.n2 .pair t u)).p)])] hx hy ga gb (oK .pair t u (by omega))
theorem zq {a b:Jt} {x y:Fm} {ra:XR} (hx:x.has=true) (hy:y.has=false) (ga:mB tl hs a x s ra):A 94 [vB tl,MA (Pf.p2 .andI a.p b.p) (Fm.bin .and x y) hs [[a.pf hs x],[b.pf hs y]],s.p] ra.p:=by
 exact f4 [(71,.G),(81,.H),(99,.G),(108,.r ra.p)] hx hy hx ga
theorem jq {a b:Jt} {x y:Fm} {rb:XR} (hx:x.has=false) (gb:mB tl hs b y s rb):A 94 [vB tl,MA (Pf.p2 .andI a.p b.p) (Fm.bin .and x y) hs [[a.pf hs x],[b.pf hs y]],s.p] rb.p:=by
 exact f3 [(71,.H),(99,.H),(119,.r rb.p)] hx hx gb
theorem vq {a:Jt} {f y:Fm} {ra:XR} {t0 t1:TR} (ga:mB tl hs a (.bin .and f y) s ra) (g0:A 136 [f.p] (tyR t0 true)) (g1:A 136 [y.p] (tyR t1 true)) (ca:ra.cn<=4096):A 94 [vB tl,MA (Pf.p1 .andL a.p) f hs [[a.pf hs (.bin .and f y)]],s.p] (XR.one .fst ra).p:=by
 cases ra with
 | er x n=>exact f3 [(134,.r (XR.er x n).p),(150,.r (tyR t0 true)),(167,.r (tyR t1 true))] ga g0 g1
 | ok t =>
  have c1:t.cnt<=4096:=ca;have hm:=zA;exact f4 [(134,.r (XR.ok t).p),(150,.r (tyR t0 true)),(167,.r (tyR t1 true)),(193,.r (XR.fit (.n1 .fst t)).p)] ga g0 g1 (Zd .fst t (by omega))
theorem wq {a:Jt} {f y:Fm} {ra:XR} {t0 t1:TR} (ga:mB tl hs a (.bin .and f y) s ra) (g0:A 136 [f.p] (tyR t0 true)) (g1:A 136 [y.p] (tyR t1 false)) (ca:ra.cn<=4096):A 94 [vB tl,MA (Pf.p1 .andL a.p) f hs [[a.pf hs (.bin .and f y)]],s.p] ra.p:=by
 cases ra with
 | er x n=>exact f3 [(134,.r (XR.er x n).p),(150,.r (tyR t0 true)),(167,.r (tyR t1 false))] ga g0 g1
 | ok t=>exact f3 [(134,.r (XR.ok t).p),(150,.r (tyR t0 true)),(167,.r (tyR t1 false))] ga g0 g1
theorem kq {a:Jt} {f y:Fm} {ra:XR} {t0 t1:TR} (ga:mB tl hs a (.bin .and y f) s ra) (g0:A 136 [y.p] (tyR t0 true)) (g1:A 136 [f.p] (tyR t1 true)) (ca:ra.cn<=4096):A 94 [vB tl,MA (Pf.p1 .andR a.p) f hs [[a.pf hs (.bin .and y f)]],s.p] (XR.one .snd ra).p:=by
 cases ra with
 | er x n=>exact f3 [(134,.r (XR.er x n).p),(150,.r (tyR t0 true)),(167,.r (tyR t1 true))] ga g0 g1
 | ok t =>
  have c1:t.cnt<=4096:=ca;have hm:=zA;exact f4 [(134,.r (XR.ok t).p),(150,.r (tyR t0 true)),(167,.r (tyR t1 true)),(193,.r (XR.fit (.n1 .snd t)).p)] ga g0 g1 (Zd .snd t (by omega))
theorem yq {a:Jt} {f y:Fm} {ra:XR} {t0 t1:TR} (ga:mB tl hs a (.bin .and y f) s ra) (g0:A 136 [y.p] (tyR t0 false)) (g1:A 136 [f.p] (tyR t1 true)) (ca:ra.cn<=4096):A 94 [vB tl,MA (Pf.p1 .andR a.p) f hs [[a.pf hs (.bin .and y f)]],s.p] ra.p:=by
 cases ra with
 | er x n=>exact f3 [(134,.r (XR.er x n).p),(150,.r (tyR t0 false)),(167,.r (tyR t1 true))] ga g0 g1
 | ok t=>exact f3 [(134,.r (XR.ok t).p),(150,.r (tyR t0 false)),(167,.r (tyR t1 true))] ga g0 g1
theorem uq {a:Jt} {x y:Fm} {n:Nat} {b:Bool} (g:A 136 [x.p] (tyR (.er n) b)):A 94 [vB tl,MA (Pf.impI x a.p) (Fm.bin .imp x y) hs [[a.pf (hs++[x]) y]],s.p] (XR.er .z n).p:=by
 exact f1 [(206,.r (tyR (.er n) b))] g
theorem bq {a:Jt} {x y:Fm} {u:Ty} {ra:XR} (g:A 136 [x.p] (tyR (.ok u) false)) (gs:A 97 [s.p] s.bare.p) (ga:mB tl (hs++[x]) a y s.bare ra):A 94 [vB tl,MA (Pf.impI x a.p) (Fm.bin .imp x y) hs [[a.pf (hs++[x]) y]],s.p] ra.p:=by
 exact f3 [(206,.r (tyR (.ok u) false)),(224,.r s.bare.p),(225,.r ra.p)] g gs ga
theorem dq {a:Jt} {x y:Fm} {u:Ty} {ra:XR} (g:A 136 [x.p] (tyR (.ok u) true)) (gs:A 138 [s.p] s.bind.p) (gh:A 98 [s.bind.p,(Tm.v 0).p] (s.bind.hyp (.v 0)).p) (ga:mB tl (hs++[x]) a y (s.bind.hyp (.v 0)) ra) (ca:ra.cn<=4096):A 94 [vB tl,MA (Pf.impI x a.p) (Fm.bin .imp x y) hs [[a.pf (hs++[x]) y]],s.p] (ra.lam u).p:=by
 exact f6 [(206,.r (tyR (.ok u) true)),(237,.r s.bind.p),(238,.r (Tm.v 0).p),(239,.r (s.bind.hyp (.v 0)).p),(240,.r ra.p),(246,.r (ra.lam u).p)] g gs (GB 0) gh ga (UH u ra ca)
theorem fq {a b:Jt} {x y f:Fm} {ra:XR} (hy:y.has=false) (ga:mB tl hs a (.bin .imp x f) s ra):A 94 [vB tl,MA (Pf.p2 .impE a.p b.p) f hs [[a.pf hs (.bin .imp x f)],[b.pf hs y]],s.p] ra.p:=by
 exact f2 [(259,.H),(269,.r ra.p)] hy ga
theorem lq {a b:Jt} {x y f:Fm} {ra rb:XR} (hy:y.has=true) (ga:mB tl hs a (.bin .imp x f) s ra) (gb:mB tl hs b y s rb) (ca:ra.cn<=4096) (cb:rb.cn<=4096):A 94 [vB tl,MA (Pf.p2 .impE a.p b.p) f hs [[a.pf hs (.bin .imp x f)],[b.pf hs y]],s.p] (XR.two .app ra rb).p:=by
 cases ra with
 | er x n=>exact f2 [(259,.G),(276,.n [(13,.n [(15,.r (XR.er x n).p)])])] hy ga
 | ok t=>cases rb with
  | er x n=>exact f3 [(259,.G),(276,.n [(13,.n [(15,.r (XR.ok t).p)]),(22,.n [(15,.r (XR.er x n).p)])])] hy ga gb
  | ok u =>
   have c1:t.cnt<=4096:=ca;have c2:u.cnt<=4096:=cb;have hm:=zA;exact f4 [(259,.G),(276,.n [(13,.n [(15,.r (XR.ok t).p)]),(22,.n [(15,.r (XR.ok u).p)]),(34,.r (XR.fit (.n2 .app t u)).p)])] hy ga gb (oK .app t u (by omega))
theorem be {u:Ty} {a:Jt} {y:Fm} {ra:XR} (gs:A 138 [s.p] s.bind.p) (gv:A 203 [s.bind.p,(Tm.v 0).p] (s.bind.var (.v 0)).p) (ga:mB tl (gA 1 hs) a y (s.bind.var (.v 0)) ra) (ca:ra.cn<=4096):A 94 [vB tl,MA (Pf.all false u a.p) (Fm.q .all u y) hs [[a.pf (gA 1 hs) y]],s.p] (ra.lam u).p:=by
 exact f5 [(282,.n [(36,.r s.bind.p),(37,.r (Tm.v 0).p),(38,.r (s.bind.var (.v 0)).p),(39,.r ra.p),(49,.r (ra.lam u).p)])] gs (GB 0) gv ga (UH u ra ca)
theorem mq {u:Ty} {a:Jt} {y:Fm} {ra:XR} (gv:A 203 [s.p,u.ini.p] (s.var u.ini).p) (ga:mB tl (gA 1 hs) a y (s.var u.ini) ra):A 94 [vB tl,MA (Pf.all true u a.p) (Fm.q .allU u y) hs [[a.pf (gA 1 hs) y]],s.p] ra.p:=by
 exact f3 [(282,.n [(105,.r u.ini.p),(106,.r (s.var u.ini).p),(107,.r ra.p)])] (xK u) gv ga
theorem nq {a:Jt} {w:Tm} {u:Ty} {x f:Fm} {ra rp:XR} (ga:mB tl hs a (.q .all u x) s ra) (gp:A 202 [s.p,w.p] rp.p) (ca:ra.cn<=4096) (cb:rp.cn<=4096):A 94 [vB tl,MA (Pf.ins false w a.p) f hs [[a.pf hs (.q .all u x)]],s.p] (XR.two .app ra rp).p:=by
 cases ra with
 | er x n=>exact f1 [(282,.n [(57,.n [(13,.n [(15,.r (XR.er x n).p)])])])] ga
 | ok t=>cases rp with
  | er x n=>exact f2 [(282,.n [(57,.n [(13,.n [(15,.r (XR.ok t).p)]),(22,.n [(12,.r (XR.er x n).p)])])])] ga gp
  | ok u =>
   have c1:t.cnt<=4096:=ca;have c2:u.cnt<=4096:=cb;have hm:=zA;exact f3 [(282,.n [(57,.n [(13,.n [(15,.r (XR.ok t).p)]),(22,.n [(12,.r (XR.ok u).p)]),(34,.r (XR.fit (.n2 .app t u)).p)])])] ga gp (oK .app t u (by omega))
theorem pq {a:Jt} {w:Tm} {u:Ty} {x f:Fm} {ra:XR} (ga:mB tl hs a (.q .allU u x) s ra):A 94 [vB tl,MA (Pf.ins true w a.p) f hs [[a.pf hs (.q .allU u x)]],s.p] ra.p:=by
 exact f1 [(282,.n [(128,.r ra.p)])] ga
theorem de {a:Jt} {w:Tm} {x y:Fm} {rp:XR} (hy:y.has=false) (gp:A 202 [s.p,w.p] rp.p):A 94 [vB tl,MA (Pf.ex false x w a.p) x hs [[a.pf hs y]],s.p] rp.p:=by
 exact f2 [(282,.n [(70,.H),(73,.n [(12,.r rp.p)])])] hy gp
theorem rq {a:Jt} {w:Tm} {x y:Fm} {ra rp:XR} (hy:y.has=true) (ga:mB tl hs a y s ra) (gp:A 202 [s.p,w.p] rp.p) (ca:ra.cn<=4096) (cb:rp.cn<=4096):A 94 [vB tl,MA (Pf.ex false x w a.p) x hs [[a.pf hs y]],s.p] (XR.two .pair rp ra).p:=by
 cases rp with
 | er x n=>exact f2 [(282,.n [(70,.G),(79,.n [(13,.n [(12,.r (XR.er x n).p)])])])] hy gp
 | ok t=>cases ra with
  | er x n=>exact f3 [(282,.n [(70,.G),(79,.n [(13,.n [(12,.r (XR.ok t).p)]),(22,.n [(15,.r (XR.er x n).p)])])])] hy gp ga
  | ok u =>
   have c1:t.cnt<=4096:=cb;have c2:u.cnt<=4096:=ca;have hm:=zA;exact f4 [(282,.n [(70,.G),(79,.n [(13,.n [(12,.r (XR.ok t).p)]),(22,.n [(15,.r (XR.ok u).p)]),(34,.r (XR.fit (.n2 .pair t u)).p)])])] hy gp ga (oK .pair t u (by omega))
theorem sq {a:Jt} {w:Tm} {x y:Fm} {ra:XR} (ga:mB tl hs a y s ra):A 94 [vB tl,MA (Pf.ex true x w a.p) x hs [[a.pf hs y]],s.p] ra.p:=by
 exact f1 [(282,.n [(128,.r ra.p)])] ga
theorem cq {a b:Jt} {x y z f:Fm} {rb:XR} (gb:mB tl hs b y s rb):A 94 [vB tl,MA (Pf.subst x a.p b.p) f hs [[a.pf hs z],[b.pf hs y]],s.p] rb.p:=by
 exact f1 [(282,.n [(128,.r rb.p)])] gb
theorem xq {a b:Jt} {u:Ty} {x y f:Fm} {n:Nat} {c:Bool} (g:A 136 [x.p] (tyR (.er n) c)):A 94 [vB tl,MA (Pf.p2 .exE a.p b.p) f hs [[a.pf hs (.q .ex u x)],[b.pf (gA 1 hs++[x]) y]],s.p] (XR.er .z n).p:=by
 exact f1 [(282,.n [(87,.n [(29,.r (tyR (.er n) c))])])] g
theorem Aq {a b:Jt} {u w:Ty} {x y f:Fm} {n:Nat} (g:A 136 [x.p] (tyR (.ok w) true)) (gs:A 138 [s.p] s.bind.p) (gp:A 263 [u.p,w.p] (TR.er n).p):A 94 [vB tl,MA (Pf.p2 .exE a.p b.p) f hs [[a.pf hs (.q .ex u x)],[b.pf (gA 1 hs++[x]) y]],s.p] (XR.er .z n).p:=by
 exact f3 [(282,.n [(87,.n [(29,.r (tyR (.ok w) true)),(40,.r s.bind.p),(46,.r (TR.er n).p)])])] g gs gp
theorem Bq {a b:Jt} {u w:Ty} {x y f:Fm} {ra rb:XR} (g:A 136 [x.p] (tyR (.ok w) true)) (gs:A 138 [s.p] s.bind.p) (gp:A 263 [u.p,w.p] (TR.ok (.two false u w)).p) (gv:A 203 [s.bind.p,(Tm.n1 .fst (.v 0)).p] (s.bind.var (.n1 .fst (.v 0))).p) (gh:A 98 [(s.bind.var (.n1 .fst (.v 0))).p,(Tm.n1 .snd (.v 0)).p] ((s.bind.var (.n1 .fst (.v 0))).hyp (.n1 .snd (.v 0))).p) (gb:mB tl (gA 1 hs++[x]) b y ((s.bind.var (.n1 .fst (.v 0))).hyp (.n1 .snd (.v 0))) rb) (cb:rb.cn<=4096) (ga:mB tl hs a (.q .ex u x) s ra) (ca:ra.cn<=4096):A 94 [vB tl,MA (Pf.p2 .exE a.p b.p) f hs [[a.pf hs (.q .ex u x)],[b.pf (gA 1 hs++[x]) y]],s.p] (XR.two .app (rb.lam (.two false u w)) ra).p:=by
 have gl:=UH (.two false u w) rb cb;have cl:=BK (.two false u w) rb;generalize rb.lam (.two false u w)=rl at gl cl ⊢
 cases rl with
 | er x n=>exact f9 [(282,.n [(87,.n [(29,.r (tyR (.ok w) true)),(40,.r s.bind.p),(46,.r (TR.ok (.two false u w)).p),(54,.r (Tm.v 0).p),(57,.r (s.bind.var (.n1 .fst (.v 0))).p),(58,.r (Tm.v 0).p),(61,.r ((s.bind.var (.n1 .fst (.v 0))).hyp (.n1 .snd (.v 0))).p),(75,.r rb.p),(82,.r (XR.er x n).p)])])] g gs gp (GB 0) gv (GB 0) gh gb gl
 | ok t=>cases ra with
  | er x n=>exact f10 [(282,.n [(87,.n [(29,.r (tyR (.ok w) true)),(40,.r s.bind.p),(46,.r (TR.ok (.two false u w)).p),(54,.r (Tm.v 0).p),(57,.r (s.bind.var (.n1 .fst (.v 0))).p),(58,.r (Tm.v 0).p),(61,.r ((s.bind.var (.n1 .fst (.v 0))).hyp (.n1 .snd (.v 0))).p),(75,.r rb.p),(82,.r (XR.ok t).p),(87,.n [(22,.n [(13,.r (XR.er x n).p)])])])])] g gs gp (GB 0) gv (GB 0) gh gb gl ga
  | ok v =>
   have c1:t.cnt<=4096:=cl;have c2:v.cnt<=4096:=ca;have hm:=zA;exact f11 [(282,.n [(87,.n [(29,.r (tyR (.ok w) true)),(40,.r s.bind.p),(46,.r (TR.ok (.two false u w)).p),(54,.r (Tm.v 0).p),(57,.r (s.bind.var (.n1 .fst (.v 0))).p),(58,.r (Tm.v 0).p),(61,.r ((s.bind.var (.n1 .fst (.v 0))).hyp (.n1 .snd (.v 0))).p),(75,.r rb.p),(82,.r (XR.ok t).p),(87,.n [(22,.n [(13,.r (XR.ok v).p)]),(34,.r (XR.fit (.n2 .app t v)).p)])])])] g gs gp (GB 0) gv (GB 0) gh gb gl ga (oK .app t v (by omega))
theorem Cq {a b:Jt} {u w:Ty} {x y f:Fm} {ra rb:XR} (g:A 136 [x.p] (tyR (.ok w) false)) (gs:A 138 [s.p] s.bind.p) (gv:A 203 [s.bind.p,(Tm.v 0).p] (s.bind.var (.v 0)).p) (gh:A 97 [(s.bind.var (.v 0)).p] (s.bind.var (.v 0)).bare.p) (gb:mB tl (gA 1 hs++[x]) b y (s.bind.var (.v 0)).bare rb) (cb:rb.cn<=4096) (ga:mB tl hs a (.q .ex u x) s ra) (ca:ra.cn<=4096):A 94 [vB tl,MA (Pf.p2 .exE a.p b.p) f hs [[a.pf hs (.q .ex u x)],[b.pf (gA 1 hs++[x]) y]],s.p] (XR.two .app (rb.lam u) ra).p:=by
 have gl:=UH u rb cb;have cl:=BK u rb;generalize rb.lam u=rl at gl cl ⊢
 cases rl with
 | er x n=>exact f7 [(282,.n [(87,.n [(29,.r (tyR (.ok w) false)),(40,.r s.bind.p),(63,.r (Tm.v 0).p),(64,.r (s.bind.var (.v 0)).p),(65,.r (s.bind.var (.v 0)).bare.p),(75,.r rb.p),(82,.r (XR.er x n).p)])])] g gs (GB 0) gv gh gb gl
 | ok t=>cases ra with
  | er x n=>exact f8 [(282,.n [(87,.n [(29,.r (tyR (.ok w) false)),(40,.r s.bind.p),(63,.r (Tm.v 0).p),(64,.r (s.bind.var (.v 0)).p),(65,.r (s.bind.var (.v 0)).bare.p),(75,.r rb.p),(82,.r (XR.ok t).p),(87,.n [(22,.n [(13,.r (XR.er x n).p)])])])])] g gs (GB 0) gv gh gb gl ga
  | ok v =>
   have c1:t.cnt<=4096:=cl;have c2:v.cnt<=4096:=ca;have hm:=zA;exact f9 [(282,.n [(87,.n [(29,.r (tyR (.ok w) false)),(40,.r s.bind.p),(63,.r (Tm.v 0).p),(64,.r (s.bind.var (.v 0)).p),(65,.r (s.bind.var (.v 0)).bare.p),(75,.r rb.p),(82,.r (XR.ok t).p),(87,.n [(22,.n [(13,.r (XR.ok v).p)]),(34,.r (XR.fit (.n2 .app t v)).p)])])])] g gs (GB 0) gv gh gb gl ga (oK .app t v (by omega))
theorem Dq {a b:Jt} {u:Ty} {x y f:Fm} {n:Nat} {c:Bool} (g:A 136 [x.p] (tyR (.er n) c)):A 94 [vB tl,MA (Pf.p2 .exUE a.p b.p) f hs [[a.pf hs (.q .exU u x)],[b.pf (gA 1 hs++[x]) y]],s.p] (XR.er .z n).p:=by
 exact f1 [(282,.n [(146,.r (tyR (.er n) c))])] g
theorem Fq {a b:Jt} {u w:Ty} {x y f:Fm} {rb:XR} (g:A 136 [x.p] (tyR (.ok w) false)) (gv:A 203 [s.p,u.ini.p] (s.var u.ini).p) (gh:A 97 [(s.var u.ini).p] (s.var u.ini).bare.p) (gb:mB tl (gA 1 hs++[x]) b y (s.var u.ini).bare rb):A 94 [vB tl,MA (Pf.p2 .exUE a.p b.p) f hs [[a.pf hs (.q .exU u x)],[b.pf (gA 1 hs++[x]) y]],s.p] rb.p:=by
 exact f5 [(282,.n [(146,.r (tyR (.ok w) false)),(174,.r u.ini.p),(175,.r (s.var u.ini).p),(176,.r (s.var u.ini).bare.p),(177,.r rb.p)])] g (xK u) gv gh gb
theorem Gq {a b:Jt} {u w:Ty} {x y f:Fm} {ra rb:XR} (g:A 136 [x.p] (tyR (.ok w) true)) (gs:A 138 [s.p] s.bind.p) (gv:A 203 [s.bind.p,u.ini.p] (s.bind.var u.ini).p) (gh:A 98 [(s.bind.var u.ini).p,(Tm.v 0).p] ((s.bind.var u.ini).hyp (.v 0)).p) (gb:mB tl (gA 1 hs++[x]) b y ((s.bind.var u.ini).hyp (.v 0)) rb) (cb:rb.cn<=4096) (ga:mB tl hs a (.q .exU u x) s ra) (ca:ra.cn<=4096):A 94 [vB tl,MA (Pf.p2 .exUE a.p b.p) f hs [[a.pf hs (.q .exU u x)],[b.pf (gA 1 hs++[x]) y]],s.p] (XR.two .app (rb.lam w) ra).p:=by
 have gl:=UH w rb cb;have cl:=BK w rb;generalize rb.lam w=rl at gl cl ⊢
 cases rl with
 | er x n=>exact f8 [(282,.n [(146,.r (tyR (.ok w) true)),(189,.r s.bind.p),(200,.r u.ini.p),(201,.r (s.bind.var u.ini).p),(202,.r (Tm.v 0).p),(203,.r ((s.bind.var u.ini).hyp (.v 0)).p),(204,.r rb.p),(211,.r (XR.er x n).p)])] g gs (xK u) gv (GB 0) gh gb gl
 | ok t=>cases ra with
  | er x n=>exact f9 [(282,.n [(146,.r (tyR (.ok w) true)),(189,.r s.bind.p),(200,.r u.ini.p),(201,.r (s.bind.var u.ini).p),(202,.r (Tm.v 0).p),(203,.r ((s.bind.var u.ini).hyp (.v 0)).p),(204,.r rb.p),(211,.r (XR.ok t).p),(217,.n [(22,.n [(15,.r (XR.er x n).p)])])])] g gs (xK u) gv (GB 0) gh gb gl ga
  | ok v =>
   have c1:t.cnt<=4096:=cl;have c2:v.cnt<=4096:=ca;have hm:=zA;exact f10 [(282,.n [(146,.r (tyR (.ok w) true)),(189,.r s.bind.p),(200,.r u.ini.p),(201,.r (s.bind.var u.ini).p),(202,.r (Tm.v 0).p),(203,.r ((s.bind.var u.ini).hyp (.v 0)).p),(204,.r rb.p),(211,.r (XR.ok t).p),(217,.n [(22,.n [(15,.r (XR.ok v).p)]),(34,.r (XR.fit (.n2 .app t v)).p)])])] g gs (xK u) gv (GB 0) gh gb gl ga (oK .app t v (by omega))
theorem Hq {a b:Jt} {x y z f:Fm} {w:Tm} {q:Sx} {n:Nat} (gp:A 202 [s.p,w.p] (XR.er q n).p):A 94 [vB tl,MA (Pf.ind false x w a.p b.p) f hs [[a.pf hs y],[b.pf (gA 1 hs++[x]) z]],s.p] (XR.er .z n).p:=by
 exact f1 [(282,.n [(225,.n [(12,.r (XR.er q n).p)])])] gp
theorem Iq {a b:Jt} {x y z f:Fm} {w:Tm} {t:Tm} {n:Nat} {c:Bool} (gp:A 202 [s.p,w.p] (XR.ok t).p) (g:A 136 [x.p] (tyR (.er n) c)):A 94 [vB tl,MA (Pf.ind false x w a.p b.p) f hs [[a.pf hs y],[b.pf (gA 1 hs++[x]) z]],s.p] (XR.er .z n).p:=by
 exact f2 [(282,.n [(225,.n [(12,.r (XR.ok t).p)]),(236,.n [(27,.r (tyR (.er n) c))])])] gp g
theorem Jq {a b:Jt} {x y z f:Fm} {w:Tm} {t:Tm} {u:Ty} {c:Bool} {q:Sx} {n:Nat} (gp:A 202 [s.p,w.p] (XR.ok t).p) (g:A 136 [x.p] (tyR (.ok u) c)) (ga:mB tl hs a y s (.er q n)):A 94 [vB tl,MA (Pf.ind false x w a.p b.p) f hs [[a.pf hs y],[b.pf (gA 1 hs++[x]) z]],s.p] (XR.er .z n).p:=by
 exact f3 [(282,.n [(225,.n [(12,.r (XR.ok t).p)]),(236,.n [(27,.r (tyR (.ok u) c)),(44,.r (XR.er q n).p)])])] gp g ga
theorem Kq {a b:Jt} {x y z f:Fm} {w:Tm} {t v:Tm} {u:Ty} {c:Bool} {rb:XR} (gp:A 202 [s.p,w.p] (XR.ok t).p) (ct:t.cnt<=4096) (g:A 136 [x.p] (tyR (.ok u) c)) (ga:mB tl hs a y s (.ok v)) (cv:v.cnt<=4096) (gs:A 138 [s.p] s.bind.p) (gv:A 203 [s.bind.p,(Tm.v 0).p] (s.bind.var (.v 0)).p) (gs3:A 138 [(s.bind.var (.v 0)).p] (s.bind.var (.v 0)).bind.p) (gh:A 98 [(s.bind.var (.v 0)).bind.p,(Tm.v 0).p] ((s.bind.var (.v 0)).bind.hyp (.v 0)).p) (gb:mB tl (gA 1 hs++[x]) b z ((s.bind.var (.v 0)).bind.hyp (.v 0)) rb) (cb:rb.cn<=4096):A 94 [vB tl,MA (Pf.ind false x w a.p b.p) f hs [[a.pf hs y],[b.pf (gA 1 hs++[x]) z]],s.p] (match ((rb).lam u).lam .nat with | .er _ n=>XR.er .z n | .ok k=>XR.fit (.n3 .re u v k t)).p:=by
 have gl0:=UH u (rb) cb;have gl1:=UH .nat ((rb).lam u) (BK _ _);have cl:=BK .nat (((rb).lam u));generalize ((rb).lam u).lam .nat=rl at gl1 cl ⊢
 cases rl with
 | er q n=>exact f13 [(282,.n [(225,.n [(12,.r (XR.ok t).p)]),(236,.n [(27,.r (tyR (.ok u) c)),(44,.r (XR.ok v).p),(51,.Y),(55,.r s.bind.p),(56,.r (Tm.v 0).p),(57,.r (s.bind.var (.v 0)).p),(81,.r (s.bind.var (.v 0)).bind.p),(82,.r (Tm.v 0).p),(83,.r ((s.bind.var (.v 0)).bind.hyp (.v 0)).p),(84,.r rb.p),(101,.r ((rb).lam u).p),(101,.r (XR.er q n).p)])])] gp g ga cN gs (GB 0) gv gs3 (GB 0) gh gb gl0 gl1
 | ok k =>
  have c1:k.cnt<=4096:=cl;have hm:=zA;exact f14 [(282,.n [(225,.n [(12,.r (XR.ok t).p)]),(236,.n [(27,.r (tyR (.ok u) c)),(44,.r (XR.ok v).p),(51,.Y),(55,.r s.bind.p),(56,.r (Tm.v 0).p),(57,.r (s.bind.var (.v 0)).p),(81,.r (s.bind.var (.v 0)).bind.p),(82,.r (Tm.v 0).p),(83,.r ((s.bind.var (.v 0)).bind.hyp (.v 0)).p),(84,.r rb.p),(101,.r ((rb).lam u).p),(101,.r (XR.ok k).p),(114,.r (XR.fit (.n3 .re u v k t)).p)])])] gp g ga cN gs (GB 0) gv gs3 (GB 0) gh gb gl0 gl1 (qe .re u v k t (by omega))
theorem Lq {a b:Jt} {x y z f:Fm} {w:Tm} {q:Sx} {n:Nat} (gp:A 202 [s.p,w.p] (XR.er q n).p):A 94 [vB tl,MA (Pf.ind true x w a.p b.p) f hs [[a.pf hs y],[b.pf (gA 2 hs++[x.sh 1 (.ofNat 1)]) z]],s.p] (XR.er .z n).p:=by
 exact f1 [(282,.n [(225,.n [(12,.r (XR.er q n).p)])])] gp
theorem Mq {a b:Jt} {x y z f:Fm} {w:Tm} {t:Tm} {n:Nat} {c:Bool} (gp:A 202 [s.p,w.p] (XR.ok t).p) (g:A 136 [x.p] (tyR (.er n) c)):A 94 [vB tl,MA (Pf.ind true x w a.p b.p) f hs [[a.pf hs y],[b.pf (gA 2 hs++[x.sh 1 (.ofNat 1)]) z]],s.p] (XR.er .z n).p:=by
 exact f2 [(282,.n [(225,.n [(12,.r (XR.ok t).p)]),(236,.n [(27,.r (tyR (.er n) c))])])] gp g
theorem Nq {a b:Jt} {x y z f:Fm} {w:Tm} {t:Tm} {u:Ty} {c:Bool} {q:Sx} {n:Nat} (gp:A 202 [s.p,w.p] (XR.ok t).p) (g:A 136 [x.p] (tyR (.ok u) c)) (ga:mB tl hs a y s (.er q n)):A 94 [vB tl,MA (Pf.ind true x w a.p b.p) f hs [[a.pf hs y],[b.pf (gA 2 hs++[x.sh 1 (.ofNat 1)]) z]],s.p] (XR.er .z n).p:=by
 exact f3 [(282,.n [(225,.n [(12,.r (XR.ok t).p)]),(236,.n [(27,.r (tyR (.ok u) c)),(44,.r (XR.er q n).p)])])] gp g ga
theorem Oq {a b:Jt} {x y z f:Fm} {w:Tm} {t v:Tm} {u:Ty} {c:Bool} {rb:XR} (gp:A 202 [s.p,w.p] (XR.ok t).p) (ct:t.cnt<=4096) (g:A 136 [x.p] (tyR (.ok u) c)) (ga:mB tl hs a y s (.ok v)) (cv:v.cnt<=4096) (gs:A 138 [s.p] s.bind.p) (gv:A 203 [s.bind.p,(Tm.v 0).p] (s.bind.var (.v 0)).p) (gs2:A 138 [(s.bind.var (.v 0)).p] (s.bind.var (.v 0)).bind.p) (gv2:A 203 [(s.bind.var (.v 0)).bind.p,(Tm.v 0).p] ((s.bind.var (.v 0)).bind.var (.v 0)).p) (gs3:A 138 [((s.bind.var (.v 0)).bind.var (.v 0)).p] ((s.bind.var (.v 0)).bind.var (.v 0)).bind.p) (gh:A 98 [((s.bind.var (.v 0)).bind.var (.v 0)).bind.p,(Tm.v 0).p] (((s.bind.var (.v 0)).bind.var (.v 0)).bind.hyp (.v 0)).p) (gb:mB tl (gA 2 hs++[x.sh 1 (.ofNat 1)]) b z (((s.bind.var (.v 0)).bind.var (.v 0)).bind.hyp (.v 0)) rb) (cb:rb.cn<=4096):A 94 [vB tl,MA (Pf.ind true x w a.p b.p) f hs [[a.pf hs y],[b.pf (gA 2 hs++[x.sh 1 (.ofNat 1)]) z]],s.p] (match (((rb).lam u).lam .list).lam .nat with | .er _ n=>XR.er .z n | .ok k=>XR.fit (.n3 .fo u v k t)).p:=by
 have gl0:=UH u (rb) cb;have gl1:=UH .list ((rb).lam u) (BK _ _);have gl2:=UH .nat (((rb).lam u).lam .list) (BK _ _);have cl:=BK .nat ((((rb).lam u).lam .list));generalize (((rb).lam u).lam .list).lam .nat=rl at gl2 cl ⊢
 cases rl with
 | er q n=>exact f19 [(282,.n [(225,.n [(12,.r (XR.ok t).p)]),(236,.n [(27,.r (tyR (.ok u) c)),(44,.r (XR.ok v).p),(51,.Y),(55,.r s.bind.p),(56,.r (Tm.v 0).p),(57,.r (s.bind.var (.v 0)).p),(64,.Y),(65,.r Ty.list.p),(69,.r (s.bind.var (.v 0)).bind.p),(70,.r (Tm.v 0).p),(71,.r ((s.bind.var (.v 0)).bind.var (.v 0)).p),(81,.r ((s.bind.var (.v 0)).bind.var (.v 0)).bind.p),(82,.r (Tm.v 0).p),(83,.r (((s.bind.var (.v 0)).bind.var (.v 0)).bind.hyp (.v 0)).p),(84,.r rb.p),(101,.r ((rb).lam u).p),(101,.r (((rb).lam u).lam .list).p),(101,.r (XR.er q n).p)])])] gp g ga cN gs (GB 0) gv cN ye gs2 (GB 0) gv2 gs3 (GB 0) gh gb gl0 gl1 gl2
 | ok k =>
  have c1:k.cnt<=4096:=cl;have hm:=zA;exact f20 [(282,.n [(225,.n [(12,.r (XR.ok t).p)]),(236,.n [(27,.r (tyR (.ok u) c)),(44,.r (XR.ok v).p),(51,.Y),(55,.r s.bind.p),(56,.r (Tm.v 0).p),(57,.r (s.bind.var (.v 0)).p),(64,.Y),(65,.r Ty.list.p),(69,.r (s.bind.var (.v 0)).bind.p),(70,.r (Tm.v 0).p),(71,.r ((s.bind.var (.v 0)).bind.var (.v 0)).p),(81,.r ((s.bind.var (.v 0)).bind.var (.v 0)).bind.p),(82,.r (Tm.v 0).p),(83,.r (((s.bind.var (.v 0)).bind.var (.v 0)).bind.hyp (.v 0)).p),(84,.r rb.p),(101,.r ((rb).lam u).p),(101,.r (((rb).lam u).lam .list).p),(101,.r (XR.ok k).p),(114,.r (XR.fit (.n3 .fo u v k t)).p)])])] gp g ga cN gs (GB 0) gv cN ye gs2 (GB 0) gv2 gs3 (GB 0) gh gb gl0 gl1 gl2 (qe .fo u v k t (by omega))
theorem Pq {a:Jt} {u w:Ty} {x f:Fm} {q:Sx} {n:Nat} (ga:mB tl hs a (.q .all u (.q .ex w x)) s (.er q n)):A 94 [vB tl,MA (Pf.p1 .choice a.p) f hs [[a.pf hs (.q .all u (.q .ex w x))]],s.p] (XR.er .z n).p:=by
 exact f1 [(282,.n [(242,.n [(26,.r (XR.er q n).p)])])] ga
theorem Qq {a:Jt} {u w:Ty} {x f:Fm} {t:Tm} {n:Nat} {c:Bool} (ga:mB tl hs a (.q .all u (.q .ex w x)) s (.ok t)) (g:A 136 [x.p] (tyR (.er n) c)):A 94 [vB tl,MA (Pf.p1 .choice a.p) f hs [[a.pf hs (.q .all u (.q .ex w x))]],s.p] (XR.er t.x n).p:=by
 exact f2 [(282,.n [(242,.n [(26,.r (XR.ok t).p),(50,.r (tyR (.er n) c))])])] ga g
theorem Rq {a:Jt} {u w:Ty} {x f:Fm} {t:Tm} {v:Ty} (ga:mB tl hs a (.q .all u (.q .ex w x)) s (.ok t)) (g:A 136 [x.p] (tyR (.ok v) false)):A 94 [vB tl,MA (Pf.p1 .choice a.p) f hs [[a.pf hs (.q .all u (.q .ex w x))]],s.p] (XR.ok t).p:=by
 exact f2 [(282,.n [(242,.n [(26,.r (XR.ok t).p),(50,.r (tyR (.ok v) false))])])] ga g
theorem Sq {a:Jt} {u w:Ty} {x f:Fm} {t:Tm} {v:Ty} {n:Nat} (ga:mB tl hs a (.q .all u (.q .ex w x)) s (.ok t)) (g:A 136 [x.p] (tyR (.ok v) true)) (g2:A 263 [w.p,v.p] (TR.er n).p):A 94 [vB tl,MA (Pf.p1 .choice a.p) f hs [[a.pf hs (.q .all u (.q .ex w x))]],s.p] (XR.er .z n).p:=by
 exact f3 [(282,.n [(242,.n [(26,.r (XR.ok t).p),(50,.r (tyR (.ok v) true)),(69,.r (TR.er n).p)])])] ga g g2
theorem Tq {a:Jt} {u w:Ty} {x f:Fm} {t:Tm} {v k:Ty} {n:Nat} (ga:mB tl hs a (.q .all u (.q .ex w x)) s (.ok t)) (g:A 136 [x.p] (tyR (.ok v) true)) (g2:A 263 [w.p,v.p] (TR.ok k).p) (g3:A 269 [u.p,k.p] (TR.er n).p):A 94 [vB tl,MA (Pf.p1 .choice a.p) f hs [[a.pf hs (.q .all u (.q .ex w x))]],s.p] (XR.er .z n).p:=by
 exact f4 [(282,.n [(242,.n [(26,.r (XR.ok t).p),(50,.r (tyR (.ok v) true)),(69,.r (TR.ok k).p),(80,.r (TR.er n).p)])])] ga g g2 g3
abbrev QP (u:Ty):Tm:=.n2 .pair (.lam u (.n1 .fst (.n2 .app (.v 1) (.v 0)))) (.lam u (.n1 .snd (.n2 .app (.v 1) (.v 0))))
theorem Uq {a:Jt} {u w:Ty} {x f:Fm} {t:Tm} {v k m:Ty} (ga:mB tl hs a (.q .all u (.q .ex w x)) s (.ok t)) (ct:t.cnt<=4096) (g:A 136 [x.p] (tyR (.ok v) true)) (g2:A 263 [w.p,v.p] (TR.ok k).p) (g3:A 269 [u.p,k.p] (TR.ok m).p):A 94 [vB tl,MA (Pf.p1 .choice a.p) f hs [[a.pf hs (.q .all u (.q .ex w x))]],s.p] (XR.fit (.n2 .app (.lam m (QP u)) t)).p:=by
 exact f9 [(282,.n [(242,.n [(26,.r (XR.ok t).p),(50,.r (tyR (.ok v) true)),(69,.r (TR.ok k).p),(80,.r (TR.ok m).p),(89,.n [(5,.r (Tm.v 1).p),(6,.r (Tm.v 0).p)]),(91,.n [(5,.r (Tm.v 1).p),(6,.r (Tm.v 0).p)]),(101,.r (XR.fit (.n2 .app (.lam m (QP u)) t)).p)])])] ga g g2 g3 (GB 1) (GB 0) (GB 1) (GB 0) (oK .app (.lam m (QP u)) t (by have hm:=zA;simp only [Tm.cnt];omega))
end Go.Proofs.YtnkoaepelgbhfaaGreatDoor
