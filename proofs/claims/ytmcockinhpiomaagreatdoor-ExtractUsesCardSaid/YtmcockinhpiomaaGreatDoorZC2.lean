/- Contracts of functions; no conditions. -/
import Derived.Test.YtmcockinhpiomaaGreatDoorZC1
import Derived.Test.YtmcockinhpiomaaGreatDoorZB3
set_option linter.all false
namespace Go.Proofs.YtmcockinhpiomaaGreatDoor
open Go.Lg
set_option maxRecDepth 100000
noncomputable def fl:List Func:=[Tryz.f0,Tryz.f1,Tryz.f2,Tryz.f3,Tryz.f4,Tryz.f5,Tryz.f6,Tryz.f7,Tryz.f8,Tryz.f9,Tryz.f10,Tryz.f11,Tryz.f12,Tryz.f13,Tryz.f14,Tryz.f15,Tryz.f16,Tryz.f17,Tryz.f18,Tryz.f19,Tryz.f20,Tryz.f21,Tryz.f22,Tryz.f23,Tryz.f24,Tryz.f25,Tryz.f26,Tryz.f27,Tryz.f28,Tryz.f29,Tryz.f30,Tryz.f31,Tryz.f32,Tryz.f33,Tryz.f34,Tryz.f35,Tryz.f36,Tryz.f37,Tryz.f38,Tryz.f39,Tryz.f40,Tryz.f41,Tryz.f42,Tryz.f43,Tryz.f44,Tryz.f45,Tryz.f46,Tryz.f47,Tryz.f48,Tryz.f49,Tryz.f50,Tryz.f51,Tryz.f52,Tryz.f53,Tryz.f54,Tryz.f55,Tryz.f56,Tryz.f57,Tryz.f58,Tryz.f59,Tryz.f60,Tryz.f61,Tryz.f62,Tryz.f63,Tryz.f64,Tryz.f65,Tryz.f66,Tryz.f67,Tryz.f68,Tryz.f69,Tryz.f70,Tryz.f71,Tryz.f72,Tryz.f73,Tryz.f74,Tryz.f75,Tryz.f76,Tryz.f77,Tryz.f78,Tryz.f79,Tryz.f80,Tryz.f81,Tryz.f82,Tryz.f83,Tryz.f84,Tryz.f85,Tryz.f86,Tryz.f87,Tryz.f88,Tryz.f89,Tryz.f90,Tryz.f91,Tryz.f92,Tryz.f93,Tryz.f94,Tryz.f95,Tryz.f96,Tryz.f97,Tryz.f98,Tryz.f99,Tryz.f100,Tryz.f101,Tryz.f102,Tryz.f103,Tryz.f104,Tryz.f105,Tryz.f106,Tryz.f107,Tryz.f108,Tryz.f109,Tryz.f110,Tryz.f111,Tryz.f112,Tryz.f113,Tryz.f114,Tryz.f115,Tryz.f116,Tryz.f117,Tryz.f118,Tryz.f119,Tryz.f120,Tryz.f121,Tryz.f122,Tryz.f123,Tryz.f124,Tryz.f125,Tryz.f126,Tryz.f127,Tryz.f128,Tryz.f129,Tryz.f130,Tryz.f131,Tryz.f132,Tryz.f133,Tryz.f134,Tryz.f135,Tryz.f136,Tryz.f137,Tryz.f138,Tryz.f139,Tryz.f140,Tryz.f141,Tryz.f142,Tryz.f143,Tryz.f144,Tryz.f145,Tryz.f146,Tryz.f147,Tryz.f148,Tryz.f149,Tryz.f150,Tryz.f151,Tryz.f152,Tryz.f153,Tryz.f154,Tryz.f155,Tryz.f156,Tryz.f157,Tryz.f158,Tryz.f159,Tryz.f160,Tryz.f161,Tryz.f162,Tryz.f163,Tryz.f164,Tryz.f165,Tryz.f166,Tryz.f167,Tryz.f168,Tryz.f169,Tryz.f170,Tryz.f171,Tryz.f172,Tryz.f173,Tryz.f174,Tryz.f175,Tryz.f176,Tryz.f177,Tryz.f178,Tryz.f179,Tryz.f180,Tryz.f181,Tryz.f182,Tryz.f183,Tryz.f184,Tryz.f185,Tryz.f186,Tryz.f187,Tryz.f188,Tryz.f189,Tryz.f190,Tryz.f191,Tryz.f192,Tryz.f193,Tryz.f194,Tryz.f195,Tryz.f196,Tryz.f197,Tryz.f198,Tryz.f199,Tryz.f200,Tryz.f201,Tryz.f202,Tryz.f203,Tryz.f204,Tryz.f205,Tryz.f206,Tryz.f207,Tryz.f208,Tryz.f209,Tryz.f210,Tryz.f211,Tryz.f212,Tryz.f213,Tryz.f214,Tryz.f215,Tryz.f216,Tryz.f217,Tryz.f218,Tryz.f219,Tryz.f220,Tryz.f221,Tryz.f222,Tryz.f223,Tryz.f224,Tryz.f225,Tryz.f226,Tryz.f227,Tryz.f228,Tryz.f229,Tryz.f230,Tryz.f231,Tryz.f232,Tryz.f233,Tryz.f234,Tryz.f235,Tryz.f236,Tryz.f237,Tryz.f238,Tryz.f239,Tryz.f240,Tryz.f241,Tryz.f242,Tryz.f243,Tryz.f244,Tryz.f245,Tryz.f246,Tryz.f247,Tryz.f248,Tryz.f249,Tryz.f250,Tryz.f251,Tryz.f252,Tryz.f253,Tryz.f254,Tryz.f255,Tryz.f256,Tryz.f257,Tryz.f258,Tryz.f259,Tryz.f260,Tryz.f261,Tryz.f262,Tryz.f263,Tryz.f264,Tryz.f265,Tryz.f266,Tryz.f267,Tryz.f268,Tryz.f269,Tryz.f270,Tryz.f271,Tryz.f272,Tryz.f273,Tryz.f274,Tryz.f275,Tryz.f276,Tryz.f277,Tryz.f278,Tryz.f279,Tryz.f280,Tryz.f281,Tryz.f282,Tryz.f283,Tryz.f284,Tryz.f285,Tryz.f286,Tryz.f287,Tryz.f288,Tryz.f289,Tryz.f290,Tryz.f291,Tryz.f292,Tryz.f293,Tryz.f294,Tryz.f295,Tryz.f296,Tryz.f297,Tryz.f298,Tryz.f299,Tryz.f300,Tryz.f301,Tryz.f302,Tryz.f303,Tryz.f304,Tryz.f305,Tryz.f306,Tryz.f307,Tryz.f308,Tryz.f309,Tryz.f310,Tryz.f311,Tryz.f312,Tryz.f313,Tryz.f314,Tryz.f315,Tryz.f316,Tryz.f317,Tryz.f318,Tryz.f319,Tryz.f320,Tryz.f321,Tryz.f322,Tryz.f323,Tryz.f324,Tryz.f325,Tryz.f326,Tryz.f327,Tryz.f328,Tryz.f329,Tryz.f330,Tryz.f331,Tryz.f332,Tryz.f333,Tryz.f334,Tryz.f335,Tryz.f336,Tryz.f337,Tryz.f338,Tryz.f339,Tryz.f340,Tryz.f341,Tryz.f342,Tryz.f343,Tryz.f344,Tryz.f345,Tryz.f346,Tryz.f347,Tryz.f348,Tryz.f349,Tryz.f350,Tryz.f351,Tryz.f352,Tryz.f353,Tryz.f354,Tryz.f355,Tryz.f356,Tryz.f357,Tryz.f358,Tryz.f359,Tryz.f360,Tryz.f361,Tryz.f362,Tryz.f363,Tryz.f364,Tryz.f365,Tryz.f366,Tryz.f367,Tryz.f368,Tryz.f369,Tryz.f370,Tryz.f371,Tryz.f372,Tryz.f373,Tryz.f374,Tryz.f375,Tryz.f376,Tryz.f377,Tryz.f378,Tryz.f379]
noncomputable def F (f:Nat):Option Func:=qXf fl f
def deB:List PV:=[.num .u8 (.ofNat 0),.num .u8 (.ofNat 1),.num .u8 (.ofNat 28),.num .u8 (.ofNat 2),.num .u8 (.ofNat 29),.num .u8 (.ofNat 14),.num .u8 (.ofNat 24),.num .u8 (.ofNat 3),.num .u8 (.ofNat 30),.num .u8 (.ofNat 22),.num .u8 (.ofNat 20),.num .u8 (.ofNat 15),.num .u8 (.ofNat 25),.num .u8 (.ofNat 17),.num .u8 (.ofNat 4),.num .u8 (.ofNat 8),.num .u8 (.ofNat 31),.num .u8 (.ofNat 27),.num .u8 (.ofNat 13),.num .u8 (.ofNat 23),.num .u8 (.ofNat 21),.num .u8 (.ofNat 19),.num .u8 (.ofNat 16),.num .u8 (.ofNat 7),.num .u8 (.ofNat 26),.num .u8 (.ofNat 12),.num .u8 (.ofNat 18),.num .u8 (.ofNat 6),.num .u8 (.ofNat 11),.num .u8 (.ofNat 5),.num .u8 (.ofNat 10),.num .u8 (.ofNat 9)]
def arB:List PV:=[.int (.ofNat 0),.int (.ofNat 0),.int (.ofNat 1),.int (.ofNat 2),.int (.ofNat 0),.int (.ofNat 1),.int (.ofNat 3),.int (.ofNat 0),.int (.ofNat 2),.int (.ofNat 3),.int (.ofNat 2),.int (.ofNat 1),.int (.ofNat 1),.int (.ofNat 0)]
def rlB:List PV:=[.bool false,.bool false,.int (.ofNat 0),.int (.ofNat 0),.int (.ofNat 0),.int (.ofNat 0),.int (.ofNat 0),.int (.ofNat 0),.bool true,.bool false,.int (.ofNat 0),.int (.ofNat 0),.int (.ofNat 0),.int (.ofNat 0),.int (.ofNat 0),.int (.ofNat 0),.bool true,.bool false,.int (.ofNat 0),.int (.ofNat 0),.int (.ofNat 0),.int (.ofNat 0),.int (.ofNat 0),.int (.ofNat 0),.bool false,.bool false,.int (.ofNat 0),.int (.ofNat 0),.int (.ofNat 2),.int (.ofNat 0),.int (.ofNat 0),.int (.ofNat 0),.bool false,.bool false,.int (.ofNat 0),.int (.ofNat 0),.int (.ofNat 1),.int (.ofNat 0),.int (.ofNat 0),.int (.ofNat 0),.bool false,.bool false,.int (.ofNat 0),.int (.ofNat 0),.int (.ofNat 1),.int (.ofNat 0),.int (.ofNat 0),.int (.ofNat 0),.bool false,.bool false,.int (.ofNat 0),.int (.ofNat 1),.int (.ofNat 1),.int (.ofNat 0),.int (.ofNat 0),.int (.ofNat 1),.bool false,.bool false,.int (.ofNat 0),.int (.ofNat 0),.int (.ofNat 2),.int (.ofNat 0),.int (.ofNat 0),.int (.ofNat 0),.bool false,.bool true,.int (.ofNat 0),.int (.ofNat 0),.int (.ofNat 1),.int (.ofNat 0),.int (.ofNat 1),.int (.ofNat 0),.bool false,.bool false,.int (.ofNat 1),.int (.ofNat 0),.int (.ofNat 1),.int (.ofNat 0),.int (.ofNat 0),.int (.ofNat 0),.bool false,.bool false,.int (.ofNat 1),.int (.ofNat 1),.int (.ofNat 1),.int (.ofNat 0),.int (.ofNat 0),.int (.ofNat 0),.bool false,.bool false,.int (.ofNat 0),.int (.ofNat 0),.int (.ofNat 2),.int (.ofNat 0),.int (.ofNat 1),.int (.ofNat 1),.bool false,.bool true,.int (.ofNat 0),.int (.ofNat 0),.int (.ofNat 1),.int (.ofNat 0),.int (.ofNat 1),.int (.ofNat 0),.bool false,.bool false,.int (.ofNat 1),.int (.ofNat 0),.int (.ofNat 1),.int (.ofNat 0),.int (.ofNat 0),.int (.ofNat 0),.bool false,.bool false,.int (.ofNat 1),.int (.ofNat 1),.int (.ofNat 1),.int (.ofNat 0),.int (.ofNat 0),.int (.ofNat 0),.bool false,.bool false,.int (.ofNat 0),.int (.ofNat 0),.int (.ofNat 2),.int (.ofNat 0),.int (.ofNat 1),.int (.ofNat 1),.bool false,.bool false,.int (.ofNat 1),.int (.ofNat 1),.int (.ofNat 2),.int (.ofNat 1),.int (.ofNat 1),.int (.ofNat 1),.bool false,.bool false,.int (.ofNat 1),.int (.ofNat 1),.int (.ofNat 2),.int (.ofNat 1),.int (.ofNat 2),.int (.ofNat 1),.bool false,.bool false,.int (.ofNat 1),.int (.ofNat 0),.int (.ofNat 0),.int (.ofNat 0),.int (.ofNat 0),.int (.ofNat 0),.bool false,.bool false,.int (.ofNat 0),.int (.ofNat 1),.int (.ofNat 2),.int (.ofNat 1),.int (.ofNat 0),.int (.ofNat 0),.bool false,.bool false,.int (.ofNat 0),.int (.ofNat 0),.int (.ofNat 1),.int (.ofNat 0),.int (.ofNat 0),.int (.ofNat 0)]
def gl:Nat→Option (List PV)
 | 0=>some deB
 | 1=>some arB
 | 2=>some rlB
 | _=>none
noncomputable def ev:qVl:=⟨tt,gl,F,fun _ _=>none⟩
theorem zD0:Tryz.prog.funcs=fl.toArray:=by kernel_rfl
theorem qT9 : fl.all (fun fn => !(fn.name == "runtime.NumGoroutine")) = true := by kernel_rfl
theorem qDg:zZm ev Tryz.prog:=by
 refine⟨zHs,fun f fn h => ?_,fun f args x h=>(by cases h),zDq⟩
 have h:fl[f]? = some fn:=by rw [← qJ0];exact h
 refine⟨by rw [zD0];simpa using h,?_⟩
 have:=List.all_eq_true.1 qT9 fn (List.mem_of_getElem? h)
 simpa using this
abbrev num (n:Nat):PV:=.int (.ofNat n)
abbrev _root_.Go.Lg.De.N (n:Nat):De:=.r (num n)
inductive Ty where
 | nat|list|unit
 | two (k:Bool) (a b:Ty)
def Ty.kd:Ty→Nat
 | .nat=>1 | .list=>2 | .unit=>5 | .two k _ _=>match k with
  | true=>4
  | false=>3
def Ty.es:Ty→List (List PV)
 | .two _ a b=>[[num a.kd,.slice a.es],[num b.kd,.slice b.es]]
 | _=>[]
def Ty.c (t:Ty):List PV:=[num t.kd,.slice t.es]
def Ty.p (t:Ty):PV:=.agg t.c
abbrev _root_.Go.Lg.De.Y:De:=.r Ty.nat.p
inductive K0 where
 | zero|nil|unit
inductive K1 where
 | succ|fst|snd
inductive K2 where
 | app|cons|pair
inductive K3 where
 | re|fo
def K0.n:K0→Nat
 | .zero=>4 | .nil=>7 | .unit=>13
def K1.n:K1→Nat
 | .succ=>5 | .fst=>11 | .snd=>12
def K2.n:K2→Nat
 | .app=>3 | .cons=>8 | .pair=>10
def K3.n:K3→Nat
 | .re=>6 | .fo=>9
inductive Tm where
 | v (i:Nat)
 | lam (s:Ty) (b:Tm)
 | n0 (k:K0)
 | n1 (k:K1) (a:Tm)
 | n2 (k:K2) (a b:Tm)
 | n3 (k:K3) (s:Ty) (a b c:Tm)
def Tm.kd:Tm→Nat
 | .v _=>1 | .lam _ _=>2 | .n0 k=>k.n | .n1 k _=>k.n | .n2 k _ _=>k.n | .n3 k _ _ _ _=>k.n
def Tm.ix:Tm→Nat
 | .v i=>i
 | _=>0
def Tm.tk:Tm→Nat
 | .lam s _=>s.kd
 | .n3 _ s _ _ _=>s.kd
 | _=>0
def Tm.te:Tm→List (List PV)
 | .lam s _=>s.es
 | .n3 _ s _ _ _=>s.es
 | _=>[]
def Tm.es:Tm→List (List PV)
 | .lam _ b=>[[num b.kd,num b.ix,num b.tk,.slice b.te,.slice b.es]]
 | .n1 _ a=>[[num a.kd,num a.ix,num a.tk,.slice a.te,.slice a.es]]
 | .n2 _ a b=>[[num a.kd,num a.ix,num a.tk,.slice a.te,.slice a.es],[num b.kd,num b.ix,num b.tk,.slice b.te,.slice b.es]]
 | .n3 _ _ a b c=>[[num a.kd,num a.ix,num a.tk,.slice a.te,.slice a.es],[num b.kd,num b.ix,num b.tk,.slice b.te,.slice b.es],[num c.kd,num c.ix,num c.tk,.slice c.te,.slice c.es]]
 | _=>[]
def Tm.c (t:Tm):List PV:=[num t.kd,num t.ix,num t.tk,.slice t.te,.slice t.es]
def Tm.p (t:Tm):PV:=.agg t.c
inductive FB where
 | and|imp
inductive FQ where
 | all|ex|allU|exU
def FB.n:FB→Nat
 | .and=>2 | .imp=>3
def FQ.n:FQ→Nat
 | .all=>4 | .ex=>5 | .allU=>6 | .exU=>7
inductive Fm where
 | eq (a b:Tm)
 | bin (k:FB) (f g:Fm)
 | q (k:FQ) (s:Ty) (f:Fm)
def Fm.kd:Fm→Nat
 | .eq _ _=>1 | .bin k _ _=>k.n | .q k _ _=>k.n
def Fm.tk:Fm→Nat
 | .q _ s _=>s.kd
 | _=>0
def Fm.te:Fm→List (List PV)
 | .q _ s _=>s.es
 | _=>[]
def Fm.ts:Fm→List (List PV)
 | .eq a b=>[a.c,b.c]
 | _=>[]
def Fm.es:Fm→List (List PV)
 | .bin _ f g=>[[num f.kd,num f.tk,.slice f.te,.slice f.ts,.slice f.es],[num g.kd,num g.tk,.slice g.te,.slice g.ts,.slice g.es]]
 | .q _ _ f=>[[num f.kd,num f.tk,.slice f.te,.slice f.ts,.slice f.es]]
 | _=>[]
def Fm.c (f:Fm):List PV:=[num f.kd,num f.tk,.slice f.te,.slice f.ts,.slice f.es]
def Fm.p (f:Fm):PV:=.agg f.c
inductive P1 where
 | andL|andR|choice
inductive P2 where
 | andI|impE|exE|exUE
def P1.n:P1→Nat
 | .andL=>4 | .andR=>5 | .choice=>20
def P2.n:P2→Nat
 | .andI=>3 | .impE=>7 | .exE=>11 | .exUE=>15
def bn (b:Bool) (x y:Nat):Nat:=match b with
 | false=>x
 | true=>y
inductive Pf where
 | leaf (u:Bool) (i:Nat)
 | refl (t:Tm)
 | p1 (k:P1) (a:Pf)
 | p2 (k:P2) (a b:Pf)
 | impI (f:Fm) (a:Pf)
 | all (u:Bool) (s:Ty) (a:Pf)
 | ins (u:Bool) (t:Tm) (a:Pf)
 | ex (u:Bool) (f:Fm) (t:Tm) (a:Pf)
 | ind (l:Bool) (f:Fm) (t:Tm) (a b:Pf)
 | subst (f:Fm) (a b:Pf)
def Pf.kd:Pf→Nat
 | .leaf u _=>bn u 1 2
 | .refl _=>18
 | .p1 k _=>k.n
 | .p2 k _ _=>k.n
 | .impI _ _=>6
 | .all u _ _=>bn u 8 12
 | .ins u _ _=>bn u 9 13
 | .ex u _ _ _=>bn u 10 14
 | .ind l _ _ _ _=>bn l 16 17
 | .subst _ _ _=>19
def Pf.ix:Pf→Nat
 | .leaf _ i=>i
 | _=>0
def Pf.tk:Pf→Nat
 | .all _ s _=>s.kd
 | _=>0
def Pf.te:Pf→List (List PV)
 | .all _ s _=>s.es
 | _=>[]
def Pf.ts:Pf→List (List PV)
 | .refl t=>[t.c]
 | .ins _ t _=>[t.c]
 | .ex _ _ t _=>[t.c]
 | .ind _ _ t _ _=>[t.c]
 | _=>[]
def Pf.fs:Pf→List (List PV)
 | .impI f _=>[f.c]
 | .ex _ f _ _=>[f.c]
 | .ind _ f _ _ _=>[f.c]
 | .subst f _ _=>[f.c]
 | _=>[]
def Pf.es:Pf→List (List PV)
 | .p1 _ a=>[[num a.kd,num a.ix,num a.tk,.slice a.te,.slice a.ts,.slice a.fs,.slice a.es]]
 | .impI _ a=>[[num a.kd,num a.ix,num a.tk,.slice a.te,.slice a.ts,.slice a.fs,.slice a.es]]
 | .all _ _ a=>[[num a.kd,num a.ix,num a.tk,.slice a.te,.slice a.ts,.slice a.fs,.slice a.es]]
 | .ins _ _ a=>[[num a.kd,num a.ix,num a.tk,.slice a.te,.slice a.ts,.slice a.fs,.slice a.es]]
 | .ex _ _ _ a=>[[num a.kd,num a.ix,num a.tk,.slice a.te,.slice a.ts,.slice a.fs,.slice a.es]]
 | .p2 _ a b=>[[num a.kd,num a.ix,num a.tk,.slice a.te,.slice a.ts,.slice a.fs,.slice a.es],[num b.kd,num b.ix,num b.tk,.slice b.te,.slice b.ts,.slice b.fs,.slice b.es]]
 | .ind _ _ _ a b=>[[num a.kd,num a.ix,num a.tk,.slice a.te,.slice a.ts,.slice a.fs,.slice a.es],[num b.kd,num b.ix,num b.tk,.slice b.te,.slice b.ts,.slice b.fs,.slice b.es]]
 | .subst _ a b=>[[num a.kd,num a.ix,num a.tk,.slice a.te,.slice a.ts,.slice a.fs,.slice a.es],[num b.kd,num b.ix,num b.tk,.slice b.te,.slice b.ts,.slice b.fs,.slice b.es]]
 | _=>[]
def Pf.c (a:Pf):List PV:=[num a.kd,num a.ix,num a.tk,.slice a.te,.slice a.ts,.slice a.fs,.slice a.es]
def Pf.p (a:Pf):PV:=.agg a.c
abbrev A (f:Nat) (args:List PV) (x:PV):Prop:=AC Tryz.prog gl f (args.map .pv) [] (.ret (.pv x)) []
abbrev U (f:Nat) (args:List PV) (tp:Di) (x:PV):Prop:=zDo ev Tryz.prog 100 6 f args tp x
section
variable {f:Nat} {args:List PV} {x:PV}
theorem fk (tp:Di) {B:Prop} (h:B) (e:B=U f args tp x:=by kernel_rfl):A f args x:=qPx qDg (e ▸ h)
theorem f0 (tp:Di) (e:(x=x)=U f args tp x:=by kernel_rfl):A f args x:=fk tp rfl e
theorem f1 (tp:Di) {H1:Prop} (h1:H1) (e:(H1∧x=x)=U f args tp x:=by kernel_rfl):A f args x:=fk tp ⟨h1,rfl⟩ e
theorem f2 (tp:Di) {H1 H2:Prop} (h1:H1) (h2:H2) (e:(H1∧H2∧x=x)=U f args tp x:=by kernel_rfl):A f args x:=fk tp ⟨h1,h2,rfl⟩ e
theorem f3 (tp:Di) {H1 H2 H3:Prop} (h1:H1) (h2:H2) (h3:H3) (e:(H1∧H2∧H3∧x=x)=U f args tp x:=by kernel_rfl):A f args x:=fk tp ⟨h1,h2,h3,rfl⟩ e
theorem f4 (tp:Di) {H1 H2 H3 H4:Prop} (h1:H1) (h2:H2) (h3:H3) (h4:H4) (e:(H1∧H2∧H3∧H4∧x=x)=U f args tp x:=by kernel_rfl):A f args x:=fk tp ⟨h1,h2,h3,h4,rfl⟩ e
theorem f5 (tp:Di) {H1 H2 H3 H4 H5:Prop} (h1:H1) (h2:H2) (h3:H3) (h4:H4) (h5:H5) (e:(H1∧H2∧H3∧H4∧H5∧x=x)=U f args tp x:=by kernel_rfl):A f args x:=fk tp ⟨h1,h2,h3,h4,h5,rfl⟩ e
theorem f6 (tp:Di) {H1 H2 H3 H4 H5 H6:Prop} (h1:H1) (h2:H2) (h3:H3) (h4:H4) (h5:H5) (h6:H6) (e:(H1∧H2∧H3∧H4∧H5∧H6∧x=x)=U f args tp x:=by kernel_rfl):A f args x:=fk tp ⟨h1,h2,h3,h4,h5,h6,rfl⟩ e
theorem f7 (tp:Di) {H1 H2 H3 H4 H5 H6 H7:Prop} (h1:H1) (h2:H2) (h3:H3) (h4:H4) (h5:H5) (h6:H6) (h7:H7) (e:(H1∧H2∧H3∧H4∧H5∧H6∧H7∧x=x)=U f args tp x:=by kernel_rfl):A f args x:=fk tp ⟨h1,h2,h3,h4,h5,h6,h7,rfl⟩ e
theorem f8 (tp:Di) {H1 H2 H3 H4 H5 H6 H7 H8:Prop} (h1:H1) (h2:H2) (h3:H3) (h4:H4) (h5:H5) (h6:H6) (h7:H7) (h8:H8) (e:(H1∧H2∧H3∧H4∧H5∧H6∧H7∧H8∧x=x)=U f args tp x:=by kernel_rfl):A f args x:=fk tp ⟨h1,h2,h3,h4,h5,h6,h7,h8,rfl⟩ e
theorem f9 (tp:Di) {H1 H2 H3 H4 H5 H6 H7 H8 H9:Prop} (h1:H1) (h2:H2) (h3:H3) (h4:H4) (h5:H5) (h6:H6) (h7:H7) (h8:H8) (h9:H9) (e:(H1∧H2∧H3∧H4∧H5∧H6∧H7∧H8∧H9∧x=x)=U f args tp x:=by kernel_rfl):A f args x:=fk tp ⟨h1,h2,h3,h4,h5,h6,h7,h8,h9,rfl⟩ e
theorem f10 (tp:Di) {H1 H2 H3 H4 H5 H6 H7 H8 H9 H10:Prop} (h1:H1) (h2:H2) (h3:H3) (h4:H4) (h5:H5) (h6:H6) (h7:H7) (h8:H8) (h9:H9) (h10:H10) (e:(H1∧H2∧H3∧H4∧H5∧H6∧H7∧H8∧H9∧H10∧x=x)=U f args tp x:=by kernel_rfl):A f args x:=fk tp ⟨h1,h2,h3,h4,h5,h6,h7,h8,h9,h10,rfl⟩ e
end
abbrev O (f:Nat) (args:List V) (objs:List (Nat × Ob)) (x:V) (objs':List (Nat × Ob)):Prop:=AC Tryz.prog gl f args objs (.ret x) objs'
abbrev UO (f:Nat) (args:List V) (objs:List (Nat × Ob)) (m:Nat) (tp:Di) (x:V) (objs':List (Nat × Ob)):Prop:=zGc ev Tryz.prog 100 6 f args objs m tp x objs'
section
variable {f:Nat} {args:List V} {objs:List (Nat × Ob)} {x:V} {objs':List (Nat × Ob)}
theorem ok (m:Nat) (tp:Di) {B:Prop} (h:B) (e:B=UO f args objs m tp x objs':=by kernel_rfl):O f args objs x objs':=zWt qDg (e ▸ h)
theorem o0 (m:Nat) (tp:Di)  (e:((x,objs')=(x,objs'))=UO f args objs m tp x objs':=by kernel_rfl):O f args objs x objs':=ok m tp rfl e
theorem o1 (m:Nat) (tp:Di) {H1:Prop} (h1:H1) (e:(H1∧(x,objs')=(x,objs'))=UO f args objs m tp x objs':=by kernel_rfl):O f args objs x objs':=ok m tp ⟨h1,rfl⟩ e
theorem o2 (m:Nat) (tp:Di) {H1 H2:Prop} (h1:H1) (h2:H2) (e:(H1∧H2∧(x,objs')=(x,objs'))=UO f args objs m tp x objs':=by kernel_rfl):O f args objs x objs':=ok m tp ⟨h1,h2,rfl⟩ e
theorem o3 (m:Nat) (tp:Di) {H1 H2 H3:Prop} (h1:H1) (h2:H2) (h3:H3) (e:(H1∧H2∧H3∧(x,objs')=(x,objs'))=UO f args objs m tp x objs':=by kernel_rfl):O f args objs x objs':=ok m tp ⟨h1,h2,h3,rfl⟩ e
theorem o4 (m:Nat) (tp:Di) {H1 H2 H3 H4:Prop} (h1:H1) (h2:H2) (h3:H3) (h4:H4) (e:(H1∧H2∧H3∧H4∧(x,objs')=(x,objs'))=UO f args objs m tp x objs':=by kernel_rfl):O f args objs x objs':=ok m tp ⟨h1,h2,h3,h4,rfl⟩ e
theorem o5 (m:Nat) (tp:Di) {H1 H2 H3 H4 H5:Prop} (h1:H1) (h2:H2) (h3:H3) (h4:H4) (h5:H5) (e:(H1∧H2∧H3∧H4∧H5∧(x,objs')=(x,objs'))=UO f args objs m tp x objs':=by kernel_rfl):O f args objs x objs':=ok m tp ⟨h1,h2,h3,h4,h5,rfl⟩ e
theorem o6 (m:Nat) (tp:Di) {H1 H2 H3 H4 H5 H6:Prop} (h1:H1) (h2:H2) (h3:H3) (h4:H4) (h5:H5) (h6:H6) (e:(H1∧H2∧H3∧H4∧H5∧H6∧(x,objs')=(x,objs'))=UO f args objs m tp x objs':=by kernel_rfl):O f args objs x objs':=ok m tp ⟨h1,h2,h3,h4,h5,h6,rfl⟩ e
theorem o7 (m:Nat) (tp:Di) {H1 H2 H3 H4 H5 H6 H7:Prop} (h1:H1) (h2:H2) (h3:H3) (h4:H4) (h5:H5) (h6:H6) (h7:H7) (e:(H1∧H2∧H3∧H4∧H5∧H6∧H7∧(x,objs')=(x,objs'))=UO f args objs m tp x objs':=by kernel_rfl):O f args objs x objs':=ok m tp ⟨h1,h2,h3,h4,h5,h6,h7,rfl⟩ e
theorem o8 (m:Nat) (tp:Di) {H1 H2 H3 H4 H5 H6 H7 H8:Prop} (h1:H1) (h2:H2) (h3:H3) (h4:H4) (h5:H5) (h6:H6) (h7:H7) (h8:H8) (e:(H1∧H2∧H3∧H4∧H5∧H6∧H7∧H8∧(x,objs')=(x,objs'))=UO f args objs m tp x objs':=by kernel_rfl):O f args objs x objs':=ok m tp ⟨h1,h2,h3,h4,h5,h6,h7,h8,rfl⟩ e
theorem o9 (m:Nat) (tp:Di) {H1 H2 H3 H4 H5 H6 H7 H8 H9:Prop} (h1:H1) (h2:H2) (h3:H3) (h4:H4) (h5:H5) (h6:H6) (h7:H7) (h8:H8) (h9:H9) (e:(H1∧H2∧H3∧H4∧H5∧H6∧H7∧H8∧H9∧(x,objs')=(x,objs'))=UO f args objs m tp x objs':=by kernel_rfl):O f args objs x objs':=ok m tp ⟨h1,h2,h3,h4,h5,h6,h7,h8,h9,rfl⟩ e
theorem o10 (m:Nat) (tp:Di) {H1 H2 H3 H4 H5 H6 H7 H8 H9 H10:Prop} (h1:H1) (h2:H2) (h3:H3) (h4:H4) (h5:H5) (h6:H6) (h7:H7) (h8:H8) (h9:H9) (h10:H10) (e:(H1∧H2∧H3∧H4∧H5∧H6∧H7∧H8∧H9∧H10∧(x,objs')=(x,objs'))=UO f args objs m tp x objs':=by kernel_rfl):O f args objs x objs':=ok m tp ⟨h1,h2,h3,h4,h5,h6,h7,h8,h9,h10,rfl⟩ e
end
def lpL:Code→List Code
 | .loop b=>b::lpL b
 | .seq a b=>lpL a++lpL b
 | .cond _ a b=>lpL a++lpL b
 | .block _ b=>lpL b
 | .scope b=>lpL b
 | _=>[]
noncomputable def fnc (f:Nat):Func:=match qXf fl f with
 | some fn=>fn
 | none=>Tryz.f0
noncomputable def lpc (f i:Nat):Code:=match (fnc f).body with
 | some c=>match qXf (lpL c) i with
  | some b=>b
  | none => .skip
 | none => .skip
abbrev st (sl:List (Nat × V)) (ob:List (Nat × Ob)) (nx:Nat) (dt:List Nat):IS:=⟨slL sl .nil,obL ob .nil,nx,dt⟩
abbrev Lp (f i bs:Nat) (s:IS) (e:AE) (s':IS):Prop:=LoopIs ev Tryz.prog (fnc f).ntmps bs (lpc f i) s e s'
abbrev Rd (f i bs:Nat) (s:IS) (tp:Di) (ki ko:Kp) (e:AE) (s':IS):Prop:=zZp ev Tryz.prog 6 100 (fnc f).ntmps bs (lpc f i) s tp ki ko e s'
theorem rk {f i bs:Nat} {s s':IS} {e:AE} (tp:Di) (ki ko:Kp) {B:Prop} (h:B) (q:B=Rd f i bs s tp ki ko e s':=by kernel_rfl):Lp f i bs s e s':=LoopIs.of_round qDg (q ▸ h)
section
variable {f i bs:Nat} {s s':IS} {e:AE}
theorem x0 (tp:Di) (ko:Kp) (q:(e=e∧s'=s')=Rd f i bs s tp ko ko e s':=by kernel_rfl):Lp f i bs s e s':=rk tp ko ko ⟨rfl,rfl⟩ q
theorem x1 (tp:Di) (ko:Kp) {H1:Prop} (h1:H1) (q:(H1∧e=e∧s'=s')=Rd f i bs s tp ko ko e s':=by kernel_rfl):Lp f i bs s e s':=rk tp ko ko ⟨h1,rfl,rfl⟩ q
theorem x2 (tp:Di) (ko:Kp) {H1 H2:Prop} (h1:H1) (h2:H2) (q:(H1∧H2∧e=e∧s'=s')=Rd f i bs s tp ko ko e s':=by kernel_rfl):Lp f i bs s e s':=rk tp ko ko ⟨h1,h2,rfl,rfl⟩ q
theorem x3 (tp:Di) (ko:Kp) {H1 H2 H3:Prop} (h1:H1) (h2:H2) (h3:H3) (q:(H1∧H2∧H3∧e=e∧s'=s')=Rd f i bs s tp ko ko e s':=by kernel_rfl):Lp f i bs s e s':=rk tp ko ko ⟨h1,h2,h3,rfl,rfl⟩ q
theorem x4 (tp:Di) (ko:Kp) {H1 H2 H3 H4:Prop} (h1:H1) (h2:H2) (h3:H3) (h4:H4) (q:(H1∧H2∧H3∧H4∧e=e∧s'=s')=Rd f i bs s tp ko ko e s':=by kernel_rfl):Lp f i bs s e s':=rk tp ko ko ⟨h1,h2,h3,h4,rfl,rfl⟩ q
theorem x5 (tp:Di) (ko:Kp) {H1 H2 H3 H4 H5:Prop} (h1:H1) (h2:H2) (h3:H3) (h4:H4) (h5:H5) (q:(H1∧H2∧H3∧H4∧H5∧e=e∧s'=s')=Rd f i bs s tp ko ko e s':=by kernel_rfl):Lp f i bs s e s':=rk tp ko ko ⟨h1,h2,h3,h4,h5,rfl,rfl⟩ q
theorem n1 (tp:Di) (ki:Kp) {H1:Prop} (h1:H1) (q:(H1)=Rd f i bs s tp ki ki e s':=by kernel_rfl):Lp f i bs s e s':=rk tp ki ki h1 q
theorem n2 (tp:Di) (ki:Kp) {H1 H2:Prop} (h1:H1) (h2:H2) (q:(H1∧H2)=Rd f i bs s tp ki ki e s':=by kernel_rfl):Lp f i bs s e s':=rk tp ki ki ⟨h1,h2⟩ q
theorem n3 (tp:Di) (ki:Kp) {H1 H2 H3:Prop} (h1:H1) (h2:H2) (h3:H3) (q:(H1∧H2∧H3)=Rd f i bs s tp ki ki e s':=by kernel_rfl):Lp f i bs s e s':=rk tp ki ki ⟨h1,h2,h3⟩ q
theorem n4 (tp:Di) (ki:Kp) {H1 H2 H3 H4:Prop} (h1:H1) (h2:H2) (h3:H3) (h4:H4) (q:(H1∧H2∧H3∧H4)=Rd f i bs s tp ki ki e s':=by kernel_rfl):Lp f i bs s e s':=rk tp ki ki ⟨h1,h2,h3,h4⟩ q
theorem n5 (tp:Di) (ki:Kp) {H1 H2 H3 H4 H5:Prop} (h1:H1) (h2:H2) (h3:H3) (h4:H4) (h5:H5) (q:(H1∧H2∧H3∧H4∧H5)=Rd f i bs s tp ki ki e s':=by kernel_rfl):Lp f i bs s e s':=rk tp ki ki ⟨h1,h2,h3,h4,h5⟩ q
theorem n6 (tp:Di) (ki:Kp) {H1 H2 H3 H4 H5 H6:Prop} (h1:H1) (h2:H2) (h3:H3) (h4:H4) (h5:H5) (h6:H6) (q:(H1∧H2∧H3∧H4∧H5∧H6)=Rd f i bs s tp ki ki e s':=by kernel_rfl):Lp f i bs s e s':=rk tp ki ki ⟨h1,h2,h3,h4,h5,h6⟩ q
theorem n7 (tp:Di) (ki:Kp) {H1 H2 H3 H4 H5 H6 H7:Prop} (h1:H1) (h2:H2) (h3:H3) (h4:H4) (h5:H5) (h6:H6) (h7:H7) (q:(H1∧H2∧H3∧H4∧H5∧H6∧H7)=Rd f i bs s tp ki ki e s':=by kernel_rfl):Lp f i bs s e s':=rk tp ki ki ⟨h1,h2,h3,h4,h5,h6,h7⟩ q
theorem n8 (tp:Di) (ki:Kp) {H1 H2 H3 H4 H5 H6 H7 H8:Prop} (h1:H1) (h2:H2) (h3:H3) (h4:H4) (h5:H5) (h6:H6) (h7:H7) (h8:H8) (q:(H1∧H2∧H3∧H4∧H5∧H6∧H7∧H8)=Rd f i bs s tp ki ki e s':=by kernel_rfl):Lp f i bs s e s':=rk tp ki ki ⟨h1,h2,h3,h4,h5,h6,h7,h8⟩ q
theorem n9 (tp:Di) (ki:Kp) {H1 H2 H3 H4 H5 H6 H7 H8 H9:Prop} (h1:H1) (h2:H2) (h3:H3) (h4:H4) (h5:H5) (h6:H6) (h7:H7) (h8:H8) (h9:H9) (q:(H1∧H2∧H3∧H4∧H5∧H6∧H7∧H8∧H9)=Rd f i bs s tp ki ki e s':=by kernel_rfl):Lp f i bs s e s':=rk tp ki ki ⟨h1,h2,h3,h4,h5,h6,h7,h8,h9⟩ q
end
theorem inN {n:Nat} (h:n≤9223372036854775807):inB (.ofNat n)=true:=Nat.ble_eq_true_of_le h
theorem qQy {a b:Nat} (h:a<b):ltI (.ofNat a) (.ofNat b)=true:=by rw [qQs];simpa using h
theorem qZv {a b:Nat} (h:b≤a):ltI (.ofNat a) (.ofNat b)=false:=by rw [qQs];simpa using h
theorem qZo {α:Type} {g r:List α} {k:Nat} {t:α} (h:g.drop k=t::r):g[k]? = some t∧k<g.length∧g.drop (k+1)=r:=by
 have h1:g[k]? = some t:=by
  have:=congrArg (fun m=>m[0]?) h
  simpa using this
 refine⟨h1,(List.getElem?_eq_some_iff.1 h1).1,?_⟩
 rw [← List.drop_drop,h]
 rfl
theorem qZp {α:Type} {g:List α} {k:Nat} (h:g.drop k=[]):g.length≤k:=by simpa using h
abbrev kp (sl:List Nat):Kp:=⟨sl,[],0,[]⟩
theorem qX1 {n:Nat} : ∀ {l:List (List PV)},(∀ y∈l,y.length=n)→qYf n l=true
 | [],_=>rfl
 | y::r,h=>by
  unfold qYf
  rw [qH1 (h y (by simp)),cond_true]
  exact qX1 fun z hz=>h z (by simp [hz])
theorem qQi {α:Type} {c:α→List PV} {g:List α} {k:Nat} {t:α} {n:Nat} (h:g[k]? = some t) (hn:∀ t,(c t).length=n):qXf (g.map c) k=some (c t)∧qYf n (g.map c)=true:=by
 refine⟨by rw [qJ0,List.getElem?_map,h];rfl,qX1 ?_⟩
 intro y hy
 obtain⟨t,_,rfl⟩:=List.mem_map.1 hy
 exact hn t
open Go.Lg
set_option maxRecDepth 100000
abbrev big:Nat:=1152921504606846976
theorem inb {n:Nat} (h:n≤big):inB (.ofNat n)=true:=inN (Nat.le_trans h (by decide))
def Ty.size:Ty→Nat
 | .two _ a b=>1+a.size+b.size
 | _=>1
def Ty.same:Ty→Ty→Bool
 | .nat,.nat=>true
 | .list,.list=>true
 | .unit,.unit=>true
 | .two k a b,.two l c d=>(k == l) && (a.same c && b.same d)
 | _,_=>false
theorem zXj:∀ t:Ty,A 136 [t.p] (.bool true)
 | .nat=>f0 []
 | .list=>f0 []
 | .unit=>f0 []
 | .two true a b=>f2 [(28,.T),(28,.T)] (zXj a) (zXj b)
 | .two false a b=>f2 [(28,.T),(28,.T)] (zXj a) (zXj b)
theorem zY2:∀ t:Ty,t.size≤big→A 137 [t.p] (num t.size)
 | .nat,_=>f0 []
 | .list,_=>f0 []
 | .unit,_=>f0 []
 | .two k a b,h=>by
  have h:1+a.size+b.size≤big:=h
  have h1:=zY2 a (by omega)
  have h2:=zY2 b (by omega)
  have h3:inB (.ofNat (1+a.size))=true:=inb (by omega)
  cases k<;>exact f4 [(15,.N a.size),(16,.ok),(15,.N b.size),(16,.ok)] h1 h3 h2 (inb h)
theorem qB7:∀ t:Ty,A 100 [t.p] t.p
 | .nat=>f0 []
 | .list=>f0 []
 | .unit=>f0 []
 | .two k a b=>f2 [(15,.r a.p),(15,.r b.p)] (qB7 a) (qB7 b)
theorem a80 (a b:Ty):A 80 [a.p,b.p] (.bool (a.same b)):=by
 induction a generalizing b with
 | two k a b h1 h2=>cases b with
  | two l c d =>
   have h1:=h1 c
   have h2:=h2 d
   show A 80 [(Ty.two k a b).p,(Ty.two l c d).p] (.bool ((k == l) && (a.same c && b.same d)))
   generalize a.same c=p at *
   generalize b.same d=q at *
   by_cases e:k=l
   ·subst e
    cases p
    ·cases k<;>exact f1 [(36,.F)] h1
    ·cases q
     ·cases k<;>exact f2 [(36,.T),(36,.F)] h1 h2
     ·cases k<;>exact f2 [(36,.T),(36,.T)] h1 h2
   ·cases k<;>cases l<;>first|exact absurd rfl e|exact f0 []
  | _=>cases k<;>exact f0 []
 | _=>cases b with
  | two l c d=>cases l<;>exact f0 []
  | _=>exact f0 []
def Ty.chk (t:Ty):Nat:=match ltI (.ofNat 64) (.ofNat t.size) with
 | true=>4
 | false=>0
theorem a84 (t:Ty) (h:t.size≤big):A 84 [t.p] (num t.chk):=by
 unfold Ty.chk
 cases e:ltI (.ofNat 64) (.ofNat t.size)
 ·exact f3 [(4,.T),(7,.N t.size),(8,.H)] (zXj t) (zY2 t h) e
 ·exact f3 [(4,.T),(7,.N t.size),(8,.G)] (zXj t) (zY2 t h) e
theorem a98 (a b:Ty):A 98 [a.p,b.p] (Ty.two false a b).p:=f2 [(6,.r a.p),(8,.r b.p)] (qB7 a) (qB7 b)
theorem a99 (a b:Ty):A 99 [a.p,b.p] (Ty.two true a b).p:=f2 [(6,.r a.p),(8,.r b.p)] (qB7 a) (qB7 b)
theorem qZa:A 140 [.agg [num 0,.slice []]] (.bool true):=f0 []
abbrev tys (g:List Ty):PV:=.slice (g.map Ty.c)
theorem Ty.c_len (t:Ty):t.c.length=2:=rfl
def qNx:List Ty→Nat
 | []=>0
 | t::r=>match t.chk with
  | 0=>qNx r
  | _+1=>4
theorem qZe (t:Ty):t.chk=0∨t.chk=4:=by unfold Ty.chk;split<;>simp
theorem qLu {g:List Ty} (hl:g.length≤16):∀ (r:List Ty) (k:Nat),g.drop k=r→(∀ t∈r,t.size≤big) →
  (qNx r=0∧Lp 29 0 0 (st [(9,.pv (tys g)),(10,.pv (num (g.map Ty.c).length)),(11,.pv (num k))] [] 0 []) (.exit 0) (st [] [] 0 []))∨qNx r=4∧Lp 29 0 0 (st [(9,.pv (tys g)),(10,.pv (num (g.map Ty.c).length)),(11,.pv (num k))] [] 0 []) .ret (st [(2,.pv (num 4))] [] 0 [])
 | [],k,h,_ => .inl ⟨rfl,x1 [(12,.H)] (kp []) (show ltI (.ofNat k) (.ofNat (g.map Ty.c).length)=false from qZv (by simpa using qZp h))⟩
 | t::r,k,h,hb=>by
  obtain⟨h1,h2,h3⟩:=qZo h
  have hc:=a84 t (hb t (by simp))
  have hlt:ltI (.ofNat k) (.ofNat (g.map Ty.c).length)=true:=qQy (by simpa using h2)
  unfold qNx
  rcases qZe t with e|e<;>rw [e] at hc ⊢
  ·rcases qLu hl r (k+1) h3 (fun t ht=>hb t (by simp [ht])) with ⟨e1,ih⟩|⟨e1,ih⟩
   ·exact .inl ⟨e1,n5 [(12,.G),(13,.i t.c),(16,.N 0),(20,.ok)] (kp [9,10,11]) hlt (qQi h1 Ty.c_len) hc (inN (show k+1≤_ by omega)) ih⟩
   ·exact .inr ⟨e1,n5 [(12,.G),(13,.i t.c),(16,.N 0),(20,.ok)] (kp [9,10,11]) hlt (qQi h1 Ty.c_len) hc (inN (show k+1≤_ by omega)) ih⟩
  ·exact .inr ⟨rfl,x3 [(12,.G),(13,.i t.c),(16,.N 4)] (kp [2]) hlt (qQi h1 Ty.c_len) hc⟩
def qNg (g:List Ty):Nat:=match ltI (.ofNat 16) (.ofNat (g.map Ty.c).length) with
 | true=>3
 | false=>qNx g
theorem a29 (g:List Ty) (hb:∀ t∈g,t.size≤big):A 29 [tys g] (num (qNg g)):=by
 unfold qNg
 cases e:ltI (.ofNat 16) (.ofNat (g.map Ty.c).length)
 ·have hl:g.length≤16:=by
   rw [qQs] at e
   simp at e
   omega
  rcases qLu hl g 0 rfl hb with ⟨h1,h2⟩|⟨h1,h2⟩<;>rw [h1]
  ·exact f2 [(8,.H),(100004,.l (kp [9,10,11]) (.exit 0) (st [] [] 0 []))] e h2
  ·exact f2 [(8,.H),(100004,.l (kp [9,10,11]) .ret (st [(2,.pv (num 4))] [] 0 []))] e h2
 ·exact f1 [(8,.G)] e
def Tm.cnt:Tm→Nat
 | .lam _ b=>1+b.cnt
 | .n1 _ a=>1+a.cnt
 | .n2 _ a b=>1+a.cnt+b.cnt
 | .n3 _ _ a b c=>1+a.cnt+b.cnt+c.cnt
 | _=>1
def Tm.tsz:Tm→Nat
 | .lam s b=>max s.size b.tsz
 | .n1 _ a=>a.tsz
 | .n2 _ a b=>max a.tsz b.tsz
 | .n3 _ s a b c=>max (max s.size a.tsz) (max b.tsz c.tsz)
 | _=>0
def Tm.mx:Tm→Nat
 | .v i=>i
 | .lam _ b=>b.mx
 | .n1 _ a=>a.mx
 | .n2 _ a b=>max a.mx b.mx
 | .n3 _ _ a b c=>max a.mx (max b.mx c.mx)
 | _=>0
abbrev Tm.ty (t:Tm):PV:=.agg [num t.tk,.slice t.te]
abbrev row (l:List Tm):PV:=.slice (l.map Tm.c)
theorem qX2:A 100 [.agg [num 0,.slice []]] (.agg [num 0,.slice []]):=f0 []
theorem qUa (t:Tm):A 100 [t.ty] t.ty:=by
 cases t with
 | lam s b=>exact qB7 s
 | n3 k s a b c=>exact qB7 s
 | _=>exact qX2
theorem a87:∀ t:Tm,t.cnt≤big→A 87 [t.p] (num t.cnt)
 | .v i,_=>f0 []
 | .n0 k,_=>f0 []
 | .lam s b,h=>f2 [(15,.N b.cnt),(16,.ok)] (a87 b (by simp only [Tm.cnt] at h;omega)) (inb h)
 | .n1 k b,h=>f2 [(15,.N b.cnt),(16,.ok)] (a87 b (by simp only [Tm.cnt] at h;omega)) (inb h)
 | .n2 k a b,h=>by
  have h:1+a.cnt+b.cnt≤big:=h
  have h1:inB (.ofNat (1+a.cnt))=true:=inb (by omega)
  exact f4 [(15,.N a.cnt),(16,.ok),(15,.N b.cnt),(16,.ok)] (a87 a (by omega)) h1 (a87 b (by omega)) (inb h)
 | .n3 k s a b c,h=>by
  have h:1+a.cnt+b.cnt+c.cnt≤big:=h
  have h1:inB (.ofNat (1+a.cnt))=true:=inb (by omega)
  have h2:inB (.ofNat (1+a.cnt+b.cnt))=true:=inb (by omega)
  exact f6 [(15,.N a.cnt),(16,.ok),(15,.N b.cnt),(16,.ok),(15,.N c.cnt),(16,.ok)] (a87 a (by omega)) h1 (a87 b (by omega)) h2 (a87 c (by omega)) (inb h)
theorem a65:∀ t:Tm,A 65 [t.p] t.p
 | .v i=>f1 [(25,.r (Tm.v i).ty)] (qUa (.v i))
 | .n0 k=>f1 [(25,.r (Tm.n0 k).ty)] (qUa (.n0 k))
 | .lam s b=>f2 [(15,.r b.p),(25,.r s.p)] (a65 b) (qB7 s)
 | .n1 k a=>f2 [(15,.r a.p),(25,.r (Tm.n1 k a).ty)] (a65 a) (qUa (.n1 k a))
 | .n2 k a b=>f3 [(15,.r a.p),(15,.r b.p),(25,.r (Tm.n2 k a b).ty)] (a65 a) (a65 b) (qUa (.n2 k a b))
 | .n3 k s a b c=>f4 [(15,.r a.p),(15,.r b.p),(15,.r c.p),(25,.r s.p)] (a65 a) (a65 b) (a65 c) (qB7 s)
theorem a51 (i:Nat):A 51 [num i] (Tm.v i).p:=f0 []
theorem qP5 (n:Nat):A 78 [num n,row []] (.agg [num n,num 0,num 0,.slice [],.slice []]):=f0 []
theorem qP6 (n:Nat) (a:Tm):A 78 [num n,row [a]] (.agg [num n,num 0,num 0,.slice [],row [a]]):=f1 [(16,.r a.p)] (a65 a)
theorem qX3 (n:Nat) (a b:Tm):A 78 [num n,row [a,b]] (.agg [num n,num 0,num 0,.slice [],row [a,b]]):=f2 [(16,.r a.p),(16,.r b.p)] (a65 a) (a65 b)
theorem zD1 (n:Nat) (a b c:Tm):A 78 [num n,row [a,b,c]] (.agg [num n,num 0,num 0,.slice [],row [a,b,c]]):=f3 [(16,.r a.p),(16,.r b.p),(16,.r c.p)] (a65 a) (a65 b) (a65 c)
theorem qVv (s:Ty) (b:Tm):A 79 [num 2,s.p,row [b]] (Tm.lam s b).p:=f2 [(10,.r (.agg [num 2,num 0,num 0,.slice [],row [b]])),(12,.r s.p)] (qP6 2 b) (qB7 s)
theorem qIh (k:K3) (s:Ty) (a b c:Tm):A 79 [num k.n,s.p,row [a,b,c]] (Tm.n3 k s a b c).p:=f2 [(10,.r (.agg [num k.n,num 0,num 0,.slice [],row [a,b,c]])),(12,.r s.p)] (zD1 k.n a b c) (qB7 s)
def Tm.shp:Tm→Bool
 | .lam s b=>Nat.beq s.chk 0 && b.shp
 | .n1 _ a=>a.shp
 | .n2 _ a b=>a.shp && b.shp
 | .n3 _ s a b c=>Nat.beq s.chk 0 && (a.shp && (b.shp && c.shp))
 | _=>true
theorem a86:∀ t:Tm,t.tsz≤big→A 86 [t.p] (.bool t.shp)
 | .v i,_=>f1 [(31,.T)] qZa
 | .n0 k,_=>by cases k<;>exact f1 [(31,.T)] qZa
 | .lam s b,h=>by
  have h:max s.size b.tsz≤big:=h
  have h1:=a84 s (by omega)
  have h2:=a86 b (by omega)
  unfold Tm.shp
  rcases qZe s with e|e<;>rw [e] at h1 ⊢
  ·cases e2:b.shp<;>rw [e2] at h2
   ·exact f2 [(39,.N 0),(49,.F)] h1 h2
   ·exact f2 [(39,.N 0),(49,.T)] h1 h2
  ·exact f1 [(39,.N 4)] h1
 | .n1 k a,h=>by
  have h2:=a86 a h
  show A 86 [(Tm.n1 k a).p] (.bool a.shp)
  cases e2:a.shp<;>rw [e2] at h2
  ·cases k<;>exact f2 [(31,.T),(49,.F)] qZa h2
  ·cases k<;>exact f2 [(31,.T),(49,.T)] qZa h2
 | .n2 k a b,h=>by
  have h:max a.tsz b.tsz≤big:=h
  have h1:=a86 a (by omega)
  have h2:=a86 b (by omega)
  show A 86 [(Tm.n2 k a b).p] (.bool (a.shp && b.shp))
  cases e1:a.shp<;>rw [e1] at h1
  ·cases k<;>exact f2 [(31,.T),(49,.F)] qZa h1
  ·cases e2:b.shp<;>rw [e2] at h2
   ·cases k<;>exact f3 [(31,.T),(49,.T),(49,.F)] qZa h1 h2
   ·cases k<;>exact f3 [(31,.T),(49,.T),(49,.T)] qZa h1 h2
 | .n3 k s a b c,h=>by
  have h:max (max s.size a.tsz) (max b.tsz c.tsz)≤big:=h
  have h0:=a84 s (by omega)
  have h1:=a86 a (by omega)
  have h2:=a86 b (by omega)
  have h3:=a86 c (by omega)
  unfold Tm.shp
  rcases qZe s with e|e<;>rw [e] at h0 ⊢
  ·cases e1:a.shp<;>rw [e1] at h1
   ·cases k<;>exact f2 [(39,.N 0),(49,.F)] h0 h1
   ·cases e2:b.shp<;>rw [e2] at h2
    ·cases k<;>exact f3 [(39,.N 0),(49,.T),(49,.F)] h0 h1 h2
    ·cases e3:c.shp<;>rw [e3] at h3
     ·cases k<;>exact f4 [(39,.N 0),(49,.T),(49,.T),(49,.F)] h0 h1 h2 h3
     ·cases k<;>exact f4 [(39,.N 0),(49,.T),(49,.T),(49,.T)] h0 h1 h2 h3
  ·cases k<;>exact f1 [(39,.N 4)] h0
def Tm.chk (t:Tm):Nat:=match t.shp with
 | false=>2
 | true=>match ltI (.ofNat 4096) (.ofNat t.cnt) with
  | true=>4
  | false=>0
theorem a31 (t:Tm) (h1:t.tsz≤big) (h2:t.cnt≤big):A 31 [t.p] (num t.chk):=by
 have h3:=a86 t h1
 unfold Tm.chk
 cases e:t.shp<;>rw [e] at h3
 ·exact f1 [(4,.F)] h3
 ·simp only
  cases e1:ltI (.ofNat 4096) (.ofNat t.cnt)
  ·exact f3 [(4,.T),(7,.N t.cnt),(8,.H)] h3 (a87 t h2) e1
  ·exact f3 [(4,.T),(7,.N t.cnt),(8,.G)] h3 (a87 t h2) e1
theorem qUb (n:Nat):eqI (.ofNat n) (.ofNat n)=true:=by rw [qVe];simp
theorem qNh {m n:Nat} (h:m≠n):eqI (.ofNat m) (.ofNat n)=false:=by rw [qVe];exact decide_eq_false (fun e=>h (Int.ofNat.inj e))
theorem qWb (n:Nat):(!eqI (.ofNat n) (.ofNat n))=false:=by rw [qUb];rfl
theorem qX4 {m n:Nat} (h:m≠n):(!eqI (.ofNat m) (.ofNat n))=true:=by rw [qNh h];rfl
def Tm.cls:Tm→Nat
 | .v _=>0 | .lam _ _=>1 | .n0 _=>2 | .n1 _ _=>3 | .n2 _ _ _=>4 | .n3 _ _ _ _ _=>5
def qNi:Nat→Nat
 | 1=>0|2=>1|4=>2|7=>2|13=>2|5=>3|11=>3|12=>3|3=>4|8=>4|10=>4|_=>5
theorem qQ1 (t:Tm):qNi t.kd=t.cls:=by
 cases t with
 | n0 k=>cases k<;>rfl
 | n1 k=>cases k<;>rfl
 | n2 k=>cases k<;>rfl
 | n3 k=>cases k<;>rfl
 | _=>rfl
theorem K0.inj {k l:K0} (h:k.n=l.n):k=l:=by cases k<;>cases l<;>first|rfl|cases h
theorem K1.inj {k l:K1} (h:k.n=l.n):k=l:=by cases k<;>cases l<;>first|rfl|cases h
theorem K2.inj {k l:K2} (h:k.n=l.n):k=l:=by cases k<;>cases l<;>first|rfl|cases h
theorem K3.inj {k l:K3} (h:k.n=l.n):k=l:=by cases k<;>cases l<;>first|rfl|cases h
theorem qNj:A 80 [.agg [num 0,.slice []],.agg [num 0,.slice []]] (.bool true):=f0 []
theorem zXk {a:Tm} (H:∀ b:Tm,a.kd=b.kd→∃ r,A 306 [a.p,b.p] (.bool r)) (b:Tm):∃ r,A 306 [a.p,b.p] (.bool r):=by
 by_cases h:a.kd=b.kd
 ·exact H b h
 ·exact⟨false,f1 [(10,.G)] (qX4 h)⟩
theorem qUc:∀ a b:Tm,∃ r,A 306 [a.p,b.p] (.bool r)
 | .v i=>zXk fun b h=>by
  cases b with
  | v j =>
   by_cases e:i=j
   ·subst e;exact⟨true,f2 [(16,.H),(23,.T)] (qWb i) qNj⟩
   ·exact⟨false,f1 [(16,.G)] (qX4 e)⟩
  | _=>have:=congrArg qNi h;rw [qQ1,qQ1] at this;cases this
 | .n0 k=>zXk fun b h=>by
  cases b with
  | n0 l=>cases K0.inj h;exact⟨true,f2 [(10,.H),(23,.T)] (qWb k.n) qNj⟩
  | _=>have:=congrArg qNi h;rw [qQ1,qQ1] at this;cases this
 | .lam s a=>zXk fun b h=>by
  cases b with
  | lam u b =>
   have h1:=a80 s u
   cases e:s.same u<;>rw [e] at h1
   ·exact⟨false,f1 [(23,.F)] h1⟩
   ·obtain⟨r,h3⟩:=qUc a b
    cases r
    ·exact⟨false,f2 [(23,.T),(51,.F)] h1 h3⟩
    ·exact⟨true,f2 [(23,.T),(51,.T)] h1 h3⟩
  | _=>have:=congrArg qNi h;rw [qQ1,qQ1] at this;cases this
 | .n1 k a=>zXk fun b h=>by
  cases b with
  | n1 l b =>
   cases K1.inj h
   obtain⟨r,h3⟩:=qUc a b
   cases r
   ·exact⟨false,f3 [(10,.H),(23,.T),(51,.F)] (qWb k.n) qNj h3⟩
   ·exact⟨true,f3 [(10,.H),(23,.T),(51,.T)] (qWb k.n) qNj h3⟩
  | _=>have:=congrArg qNi h;rw [qQ1,qQ1] at this;cases this
 | .n2 k a c=>zXk fun b h=>by
  cases b with
  | n2 l b d =>
   cases K2.inj h
   obtain⟨r,h3⟩:=qUc a b
   obtain⟨q,h4⟩:=qUc c d
   cases r
   ·exact⟨false,f3 [(10,.H),(23,.T),(51,.F)] (qWb k.n) qNj h3⟩
   ·cases q
    ·exact⟨false,f4 [(10,.H),(23,.T),(51,.T),(51,.F)] (qWb k.n) qNj h3 h4⟩
    ·exact⟨true,f4 [(10,.H),(23,.T),(51,.T),(51,.T)] (qWb k.n) qNj h3 h4⟩
  | _=>have:=congrArg qNi h;rw [qQ1,qQ1] at this;cases this
 | .n3 k s a c e=>zXk fun b h=>by
  cases b with
  | n3 l u b d f =>
   cases K3.inj h
   have h2:=a80 s u
   obtain⟨r,h3⟩:=qUc a b
   obtain⟨q,h4⟩:=qUc c d
   obtain⟨p,h5⟩:=qUc e f
   cases e2:s.same u<;>rw [e2] at h2
   ·exact⟨false,f2 [(10,.H),(23,.F)] (qWb k.n) h2⟩
   cases r
   ·exact⟨false,f3 [(10,.H),(23,.T),(51,.F)] (qWb k.n) h2 h3⟩
   cases q
   ·exact⟨false,f4 [(10,.H),(23,.T),(51,.T),(51,.F)] (qWb k.n) h2 h3 h4⟩
   cases p
   ·exact⟨false,f5 [(10,.H),(23,.T),(51,.T),(51,.T),(51,.F)] (qWb k.n) h2 h3 h4 h5⟩
   ·exact⟨true,f5 [(10,.H),(23,.T),(51,.T),(51,.T),(51,.T)] (qWb k.n) h2 h3 h4 h5⟩
  | _=>have:=congrArg qNi h;rw [qQ1,qQ1] at this;cases this
open Go.Lg
set_option maxRecDepth 100000
abbrev mid:Nat:=33554432
theorem qQc:mid=33554432:=rfl
theorem qQh:big=1152921504606846976:=rfl
theorem chk0 {s:Ty} (h:s.chk=0):s.size≤64:=by
 unfold Ty.chk at h
 split at h
 ·cases h
 ·rename_i e
  rw [qQs] at e
  have:=of_decide_eq_false e
  simp at this
  omega
inductive TR where
 | er (n:Nat)
 | ok (s:Ty)
def TR.k:TR→Nat
 | .er _=>0
 | .ok s=>s.kd
def TR.l:TR→List (List PV)
 | .er _=>[]
 | .ok s=>s.es
def TR.n:TR→Nat
 | .er n=>n+1
 | .ok _=>0
def TR.p (r:TR):PV:=.tuple [.agg [num r.k,.slice r.l],num r.n]
def TR.sz:TR→Nat
 | .er _=>0
 | .ok s=>s.size
theorem zGd (s:Ty) (h:s.size≤big):∃ r:TR,A 330 [s.p] r.p∧r.sz≤64:=by
 have h1:=a84 s h
 rcases qZe s with e|e<;>rw [e] at h1
 ·exact⟨.ok s,f1 [(5,.N 0)] h1,chk0 e⟩
 ·exact⟨.er 3,f1 [(5,.N 4)] h1,Nat.zero_le _⟩
theorem qXl {α:Type} {c:α→List PV} (n m:Nat) (hn:∀ t,(c t).length=n) (h0:0<n) (g:List α) (s:α) (h:(g.length+1) * m≤140737488355328) (hg:g.length+1≤maxLen) :
  (qYf n (g.map c) && qYf n [c s] && Nat.blt 0 n && Nat.ble ((g.map c).length+[c s].length) maxLen && Nat.ble (((g.map c).length+[c s].length) * m) 140737488355328)=true:=by
 have h1:qYf n (g.map c)=true:=qX1 fun y hy=>by obtain⟨t,_,rfl⟩:=List.mem_map.1 hy;exact hn t
 have h2:qYf n [c s]=true:=qX1 fun y hy=>by simp at hy;subst hy;exact hn s
 have h3:Nat.blt 0 n=true:=by rw [qJ1];simpa using h0
 rw [h1,h2,h3]
 simp only [List.length_map,List.length_singleton,Bool.true_and]
 rw [Nat.ble_eq_true_of_le hg,Nat.ble_eq_true_of_le h]
 rfl
theorem qVw (n:Nat):(Nat.beq n n && Nat.beq n n)=true:=by simp
theorem zZ5:∀ (t:Tm) (g:List Ty),(∀ s∈g,s.size≤mid)→t.tsz≤mid→g.length+t.cnt≤mid→∃ r:TR,A 305 [tys g,t.p] r.p∧r.sz≤mid
 | .v i,g,hg,_,hl=>by
  have hm:=qQc
  by_cases h:i<g.length
  ·obtain⟨s,hx⟩:∃ s,g[g.length-1-i]? = some s:=⟨_,List.getElem?_eq_getElem (by omega)⟩
   have h1:(!ltI (.ofNat i) (.ofNat (g.map Ty.c).length))=false:=by rw [qQy (by simpa using h)];rfl
   have h2:inB (Int.ofNat (g.map Ty.c).length-1)=true∧Int.ofNat (g.map Ty.c).length-1 = .ofNat (g.length-1):=by
    have e:Int.ofNat (g.map Ty.c).length-1 = .ofNat (g.length-1):=by simp;omega
    exact⟨by rw [e];exact inN (by omega),e⟩
   have h3:inB (Int.ofNat (g.length-1) - .ofNat i)=true∧Int.ofNat (g.length-1) - .ofNat i = .ofNat (g.length-1-i):=by
    have e:Int.ofNat (g.length-1) - .ofNat i = .ofNat (g.length-1-i):=by simp;omega
    exact⟨by rw [e];exact inN (by omega),e⟩
   exact⟨.ok s,f5 [(22,.H),(27,.z (g.length-1)),(30,.z (g.length-1-i)),(31,.i s.c),(33,.r s.p)] h1 h2 h3 (qQi hx Ty.c_len) (qB7 s),hg s (List.mem_of_getElem? hx)⟩
  ·have h1:(!ltI (.ofNat i) (.ofNat (g.map Ty.c).length))=true:=by rw [qZv (by simp;omega)];rfl
   exact⟨.er 5,f1 [(22,.G)] h1,Nat.zero_le _⟩
 | .lam s b,g,hg,ht,hl=>by
  have hm:=qQc
  have hb:=qQh
  have ht:max s.size b.tsz≤mid:=ht
  have hl:g.length+(1+b.cnt)≤mid:=hl
  obtain⟨r,h1,h2⟩:=zZ5 b (g++[s]) (by intro u hu;rcases List.mem_append.1 hu with h|h;exact hg u h;simp at h;subst h;omega) (by omega) (by simp;omega)
  simp only [tys,List.map_append,List.map_cons,List.map_nil] at h1
  have h3:=qXl 2 32 Ty.c_len (by decide) g s (by omega) (by simp only [maxLen];omega)
  cases r with
  | er n=>exact⟨.er n,f3 [(43,.ok),(47,.ok),(52,.r (TR.er n).p)] (qVw (g.map Ty.c).length) h3 h1,Nat.zero_le _⟩
  | ok u =>
   have h2:u.size≤mid:=h2
   obtain⟨r,h4,h5⟩:=zGd (.two true s u) (by show 1+s.size+u.size≤big;omega)
   exact⟨r,f5 [(43,.ok),(47,.ok),(52,.r (TR.ok u).p),(62,.r (Ty.two true s u).p),(63,.r r.p)] (qVw (g.map Ty.c).length) h3 h1 (a99 s u) h4,by omega⟩
 | .n0 k,g,hg,ht,hl=>by
  cases k
  ·exact⟨.ok .nat,f0 [],by decide⟩
  ·exact⟨.ok .list,f0 [],by decide⟩
  ·exact⟨.ok .unit,f0 [],by decide⟩
 | .n1 k a,g,hg,ht,hl=>by
  have hm:=qQc
  have hl:g.length+(1+a.cnt)≤mid:=hl
  obtain⟨r,h1,h2⟩:=zZ5 a g hg ht (by omega)
  cases r with
  | er n=>cases k<;>exact⟨.er n,f1 [(76,.r (TR.er n).p)] h1,Nat.zero_le _⟩
  | ok s =>
   have h2:s.size≤mid:=h2
   cases k
   ·have h3:=a80 s .nat
    cases e:s.same .nat<;>rw [e] at h3
    ·exact⟨.er 6,f2 [(76,.r (TR.ok s).p),(128,.F)] h1 h3,Nat.zero_le _⟩
    ·exact⟨.ok .nat,f2 [(76,.r (TR.ok s).p),(128,.T)] h1 h3,by decide⟩
   ·cases s with
    | two q c d =>
     have h2:1+c.size+d.size≤mid:=h2
     cases q
     ·exact⟨.ok c,f1 [(76,.r (TR.ok (.two false c d)).p)] h1,(show c.size≤mid by omega)⟩
     ·exact⟨.er 6,f1 [(76,.r (TR.ok (.two true c d)).p)] h1,Nat.zero_le _⟩
    | nat=>exact⟨.er 6,f1 [(76,.r (TR.ok .nat).p)] h1,Nat.zero_le _⟩
    | list=>exact⟨.er 6,f1 [(76,.r (TR.ok .list).p)] h1,Nat.zero_le _⟩
    | unit=>exact⟨.er 6,f1 [(76,.r (TR.ok .unit).p)] h1,Nat.zero_le _⟩
   ·cases s with
    | two q c d =>
     have h2:1+c.size+d.size≤mid:=h2
     cases q
     ·exact⟨.ok d,f1 [(76,.r (TR.ok (.two false c d)).p)] h1,(show d.size≤mid by omega)⟩
     ·exact⟨.er 6,f1 [(76,.r (TR.ok (.two true c d)).p)] h1,Nat.zero_le _⟩
    | nat=>exact⟨.er 6,f1 [(76,.r (TR.ok .nat).p)] h1,Nat.zero_le _⟩
    | list=>exact⟨.er 6,f1 [(76,.r (TR.ok .list).p)] h1,Nat.zero_le _⟩
    | unit=>exact⟨.er 6,f1 [(76,.r (TR.ok .unit).p)] h1,Nat.zero_le _⟩
 | .n2 k a b,g,hg,ht,hl=>by
  have hm:=qQc
  have hb:=qQh
  have ht:max a.tsz b.tsz≤mid:=ht
  have hl:g.length+(1+a.cnt+b.cnt)≤mid:=hl
  obtain⟨r,h1,h2⟩:=zZ5 a g hg (by omega) (by omega)
  cases r with
  | er n=>cases k<;>exact⟨.er n,f1 [(76,.r (TR.er n).p)] h1,Nat.zero_le _⟩
  | ok s =>
   have h2:s.size≤mid:=h2
   obtain⟨r,h3,h4⟩:=zZ5 b g hg (by omega) (by omega)
   cases r with
   | er n=>cases k<;>exact⟨.er n,f2 [(76,.r (TR.ok s).p),(76,.r (TR.er n).p)] h1 h3,Nat.zero_le _⟩
   | ok u =>
    have h4:u.size≤mid:=h4
    cases k
    ·cases s with
     | two q c d =>
      have h2:1+c.size+d.size≤mid:=h2
      cases q
      ·exact⟨.er 6,f2 [(76,.r (TR.ok (.two false c d)).p),(76,.r (TR.ok u).p)] h1 h3,Nat.zero_le _⟩
      ·have h5:=a80 c u
       cases e:c.same u<;>rw [e] at h5
       ·exact⟨.er 6,f3 [(76,.r (TR.ok (.two true c d)).p),(76,.r (TR.ok u).p),(109,.F)] h1 h3 h5,Nat.zero_le _⟩
       ·exact⟨.ok d,f3 [(76,.r (TR.ok (.two true c d)).p),(76,.r (TR.ok u).p),(109,.T)] h1 h3 h5,(show d.size≤mid by omega)⟩
     | nat=>exact⟨.er 6,f2 [(76,.r (TR.ok .nat).p),(76,.r (TR.ok u).p)] h1 h3,Nat.zero_le _⟩
     | list=>exact⟨.er 6,f2 [(76,.r (TR.ok .list).p),(76,.r (TR.ok u).p)] h1 h3,Nat.zero_le _⟩
     | unit=>exact⟨.er 6,f2 [(76,.r (TR.ok .unit).p),(76,.r (TR.ok u).p)] h1 h3,Nat.zero_le _⟩
    ·have h5:=a80 s .nat
     have h6:=a80 u .list
     cases e:s.same .nat<;>rw [e] at h5
     ·exact⟨.er 6,f3 [(76,.r (TR.ok s).p),(76,.r (TR.ok u).p),(176,.F)] h1 h3 h5,Nat.zero_le _⟩
     ·cases e:u.same .list<;>rw [e] at h6
      ·exact⟨.er 6,f4 [(76,.r (TR.ok s).p),(76,.r (TR.ok u).p),(176,.T),(183,.F)] h1 h3 h5 h6,Nat.zero_le _⟩
      ·exact⟨.ok .list,f4 [(76,.r (TR.ok s).p),(76,.r (TR.ok u).p),(176,.T),(183,.T)] h1 h3 h5 h6,by decide⟩
    ·obtain⟨r,h5,h6⟩:=zGd (.two false s u) (by show 1+s.size+u.size≤big;omega)
     exact⟨r,f4 [(76,.r (TR.ok s).p),(76,.r (TR.ok u).p),(233,.r (Ty.two false s u).p),(234,.r r.p)] h1 h3 (a98 s u) h5,by omega⟩
 | .n3 k s a b c,g,hg,ht,hl=>by
  have hm:=qQc
  have ht:max (max s.size a.tsz) (max b.tsz c.tsz)≤mid:=ht
  have hl:g.length+(1+a.cnt+b.cnt+c.cnt)≤mid:=hl
  obtain⟨r,h1,h2⟩:=zZ5 a g hg (by omega) (by omega)
  cases r with
  | er n=>cases k<;>exact⟨.er n,f1 [(76,.r (TR.er n).p)] h1,Nat.zero_le _⟩
  | ok x =>
   obtain⟨r,h3,h4⟩:=zZ5 b g hg (by omega) (by omega)
   cases r with
   | er n=>cases k<;>exact⟨.er n,f2 [(76,.r (TR.ok x).p),(76,.r (TR.er n).p)] h1 h3,Nat.zero_le _⟩
   | ok y =>
    obtain⟨r,h5,h6⟩:=zZ5 c g hg (by omega) (by omega)
    cases r with
    | er n=>cases k<;>exact⟨.er n,f3 [(76,.r (TR.ok x).p),(76,.r (TR.ok y).p),(76,.r (TR.er n).p)] h1 h3 h5,Nat.zero_le _⟩
    | ok z =>
     have h7:=a80 x s
     have h8:=a99 s s
     cases k
     ·have h9:=a99 .nat (.two true s s)
      have h10:=a80 y (.two true .nat (.two true s s))
      have h11:=a80 z .nat
      cases e:x.same s<;>rw [e] at h7
      ·exact⟨.er 6,f4 [(76,.r (TR.ok x).p),(76,.r (TR.ok y).p),(76,.r (TR.ok z).p),(139,.F)] h1 h3 h5 h7,Nat.zero_le _⟩
      cases e:y.same (.two true .nat (.two true s s))<;>rw [e] at h10
      ·exact⟨.er 6,f7 [(76,.r (TR.ok x).p),(76,.r (TR.ok y).p),(76,.r (TR.ok z).p),(139,.T),(150,.r (Ty.two true s s).p),(151,.r (Ty.two true .nat (.two true s s)).p),(152,.F)] h1 h3 h5 h7 h8 h9 h10,Nat.zero_le _⟩
      cases e:z.same .nat<;>rw [e] at h11
      ·exact⟨.er 6,f8 [(76,.r (TR.ok x).p),(76,.r (TR.ok y).p),(76,.r (TR.ok z).p),(139,.T),(150,.r (Ty.two true s s).p),(151,.r (Ty.two true .nat (.two true s s)).p),(152,.T),(160,.F)] h1 h3 h5 h7 h8 h9 h10 h11,Nat.zero_le _⟩
      ·exact⟨.ok s,f9 [(76,.r (TR.ok x).p),(76,.r (TR.ok y).p),(76,.r (TR.ok z).p),(139,.T),(150,.r (Ty.two true s s).p),(151,.r (Ty.two true .nat (.two true s s)).p),(152,.T),(160,.T),(166,.r s.p)] h1 h3 h5 h7 h8 h9 h10 h11 (qB7 s),(show s.size≤mid by omega)⟩
     ·have h9:=a99 .list (.two true s s)
      have h9':=a99 .nat (.two true .list (.two true s s))
      have h10:=a80 y (.two true .nat (.two true .list (.two true s s)))
      have h11:=a80 z .list
      cases e:x.same s<;>rw [e] at h7
      ·exact⟨.er 6,f4 [(76,.r (TR.ok x).p),(76,.r (TR.ok y).p),(76,.r (TR.ok z).p),(195,.F)] h1 h3 h5 h7,Nat.zero_le _⟩
      cases e:y.same (.two true .nat (.two true .list (.two true s s)))<;>rw [e] at h10
      ·exact⟨.er 6,f8 [(76,.r (TR.ok x).p),(76,.r (TR.ok y).p),(76,.r (TR.ok z).p),(195,.T),(207,.r (Ty.two true s s).p),(208,.r (Ty.two true .list (.two true s s)).p),(209,.r (Ty.two true .nat (.two true .list (.two true s s))).p),(210,.F)] h1 h3 h5 h7 h8 h9 h9' h10,Nat.zero_le _⟩
      cases e:z.same .list<;>rw [e] at h11
      ·exact⟨.er 6,f9 [(76,.r (TR.ok x).p),(76,.r (TR.ok y).p),(76,.r (TR.ok z).p),(195,.T),(207,.r (Ty.two true s s).p),(208,.r (Ty.two true .list (.two true s s)).p),(209,.r (Ty.two true .nat (.two true .list (.two true s s))).p),(210,.T),(218,.F)] h1 h3 h5 h7 h8 h9 h9' h10 h11,Nat.zero_le _⟩
      ·exact⟨.ok s,f10 [(76,.r (TR.ok x).p),(76,.r (TR.ok y).p),(76,.r (TR.ok z).p),(195,.T),(207,.r (Ty.two true s s).p),(208,.r (Ty.two true .list (.two true s s)).p),(209,.r (Ty.two true .nat (.two true .list (.two true s s))).p),(210,.T),(218,.T),(224,.r s.p)] h1 h3 h5 h7 h8 h9 h9' h10 h11 (qB7 s),(show s.size≤mid by omega)⟩
def Tm.sh:Nat→Int→Tm→Tm
 | c,z,.v i=>if c≤i then .v (Int.ofNat i+z).toNat else .v i
 | c,z,.lam s b => .lam s (b.sh (c+1) z)
 | _,_,.n0 k => .n0 k
 | c,z,.n1 k a => .n1 k (a.sh c z)
 | c,z,.n2 k a b => .n2 k (a.sh c z) (b.sh c z)
 | c,z,.n3 k s a b d => .n3 k s (a.sh c z) (b.sh c z) (d.sh c z)
theorem qQu (z:Int):∀ (t:Tm) (c:Nat),(t.sh c z).cnt=t.cnt
 | .v i,c=>by simp only [Tm.sh];split<;>rfl
 | .lam s b,c=>by simp only [Tm.sh,Tm.cnt,qQu z b]
 | .n0 k,c=>rfl
 | .n1 k a,c=>by simp only [Tm.sh,Tm.cnt,qQu z a]
 | .n2 k a b,c=>by simp only [Tm.sh,Tm.cnt,qQu z a,qQu z b]
 | .n3 k s a b d,c=>by simp only [Tm.sh,Tm.cnt,qQu z a,qQu z b,qQu z d]
theorem qQ7 (z:Int):∀ (t:Tm) (c:Nat),(t.sh c z).tsz=t.tsz
 | .v i,c=>by simp only [Tm.sh];split<;>rfl
 | .lam s b,c=>by simp only [Tm.sh,Tm.tsz,qQ7 z b]
 | .n0 k,c=>rfl
 | .n1 k a,c=>by simp only [Tm.sh,Tm.tsz,qQ7 z a]
 | .n2 k a b,c=>by simp only [Tm.sh,Tm.tsz,qQ7 z a,qQ7 z b]
 | .n3 k s a b d,c=>by simp only [Tm.sh,Tm.tsz,qQ7 z a,qQ7 z b,qQ7 z d]
theorem qKy (z:Int):∀ (t:Tm) (c:Nat),(t.sh c z).mx≤t.mx+z.toNat
 | .v i,c=>by simp only [Tm.sh];split<;>simp [Tm.mx]<;>omega
 | .lam s b,c=>qKy z b (c+1)
 | .n0 k,c=>Nat.zero_le _
 | .n1 k a,c=>qKy z a c
 | .n2 k a b,c=>by have:=qKy z a c;have:=qKy z b c;simp only [Tm.sh,Tm.mx];omega
 | .n3 k s a b d,c=>by have:=qKy z a c;have:=qKy z b c;have:=qKy z d c;simp only [Tm.sh,Tm.mx];omega
theorem inZ {z:Int} (h:0≤z) (h':z≤1152921504606846976):inB z=true∧z = .ofNat z.toNat:=by
 obtain⟨n,rfl⟩:=Int.eq_ofNat_of_zero_le h
 exact⟨inN (by omega),by simp⟩
theorem qP7 {a b:Nat} (h:b≤a):(!ltI (.ofNat a) (.ofNat b))=true:=by rw [qZv h];rfl
theorem qNk {a b:Nat} (h:a<b):(!ltI (.ofNat a) (.ofNat b))=false:=by rw [qQy h];rfl
theorem qNy:∀ (t:Tm) (c:Nat) (z:Int),0≤c+z→z≤mid→t.mx≤mid * mid→c+t.cnt≤mid→A 102 [t.p,num c,.int z] (t.sh c z).p
 | .v i,c,z,h1,h2,h3,h4=>by
  have hm:=qQc
  have h3:i≤mid * mid:=h3
  rw [hm] at h3
  by_cases h:c≤i
  ·have e:(Tm.v i).sh c z = .v (Int.ofNat i+z).toNat:=by simp only [Tm.sh,if_pos h]
   rw [e]
   exact f2 [(24,.G),(29,.z (Int.ofNat i+z).toNat)] (qP7 h) (inZ (z:=Int.ofNat i+z) (by simp;omega) (by simp;omega))
  ·have e:(Tm.v i).sh c z = .v i:=by simp only [Tm.sh,if_neg h]
   rw [e]
   exact f1 [(24,.H)] (qNk (show i<c by omega))
 | .lam s b,c,z,h1,h2,h3,h4=>by
  have h4:c+(1+b.cnt)≤mid:=h4
  have hm:=qQc
  exact f2 [(44,.ok),(46,.r (b.sh (c+1) z).p)] (inN (show c+1≤_ by omega)) (qNy b (c+1) z (by omega) h2 h3 (by omega))
 | .n0 k,c,z,_,_,_,_=>by cases k<;>exact f0 []
 | .n1 k a,c,z,h1,h2,h3,h4=>by
  have h4:c+(1+a.cnt)≤mid:=h4
  have hm:=qQc
  have h5:=inN (show c≤_ by omega)
  cases k<;>exact f2 [(44,.ok),(46,.r (a.sh c z).p)] h5 (qNy a c z h1 h2 h3 (by omega))
 | .n2 k a b,c,z,h1,h2,h3,h4=>by
  have h3:max a.mx b.mx≤mid * mid:=h3
  have h4:c+(1+a.cnt+b.cnt)≤mid:=h4
  have hm:=qQc
  have h5:=inN (show c≤_ by omega)
  have h6:=qNy a c z h1 h2 (by omega) (by omega)
  have h7:=qNy b c z h1 h2 (by omega) (by omega)
  cases k<;>exact f4 [(44,.ok),(46,.r (a.sh c z).p),(44,.ok),(46,.r (b.sh c z).p)] h5 h6 h5 h7
 | .n3 k s a b d,c,z,h1,h2,h3,h4=>by
  have h3:max a.mx (max b.mx d.mx)≤mid * mid:=h3
  have h4:c+(1+a.cnt+b.cnt+d.cnt)≤mid:=h4
  have hm:=qQc
  have h5:=inN (show c≤_ by omega)
  have h6:=qNy a c z h1 h2 (by omega) (by omega)
  have h7:=qNy b c z h1 h2 (by omega) (by omega)
  have h8:=qNy d c z h1 h2 (by omega) (by omega)
  cases k<;>exact f6 [(44,.ok),(46,.r (a.sh c z).p),(44,.ok),(46,.r (b.sh c z).p),(44,.ok),(46,.r (d.sh c z).p)] h5 h6 h5 h7 h5 h8
def Tm.occ:Nat→Tm→Nat
 | c,.v i=>if i=c then 1 else 0
 | c,.lam _ b=>b.occ (c+1)
 | _,.n0 _=>0
 | c,.n1 _ a=>a.occ c
 | c,.n2 _ a b=>a.occ c+b.occ c
 | c,.n3 _ _ a b d=>a.occ c+b.occ c+d.occ c
theorem qQz:∀ (t:Tm) (c:Nat),t.occ c≤t.cnt
 | .v i,c=>by simp only [Tm.occ,Tm.cnt];split<;>omega
 | .lam s b,c=>by have:=qQz b (c+1);simp only [Tm.occ,Tm.cnt];omega
 | .n0 k,c=>Nat.zero_le _
 | .n1 k a,c=>by have:=qQz a c;simp only [Tm.occ,Tm.cnt];omega
 | .n2 k a b,c=>by have:=qQz a c;have:=qQz b c;simp only [Tm.occ,Tm.cnt];omega
 | .n3 k s a b d,c=>by have:=qQz a c;have:=qQz b c;have:=qQz d c;simp only [Tm.occ,Tm.cnt];omega
theorem qSx:∀ (t:Tm) (c:Nat),c+t.cnt≤mid→A 331 [t.p,num c] (num (t.occ c))
 | .v i,c,h4=>by
  by_cases h:i=c
  ·have e:(Tm.v i).occ c=1:=by simp only [Tm.occ,if_pos h]
   rw [e]
   subst h
   exact f1 [(15,.G)] (qUb i)
  ·have e:(Tm.v i).occ c=0:=by simp only [Tm.occ,if_neg h]
   rw [e]
   exact f1 [(15,.H)] (qNh h)
 | .lam s b,c,h4=>by
  have h4:c+(1+b.cnt)≤mid:=h4
  have hm:=qQc
  have u0:=qQz b (c+1)
  have p0:=inN (show (c+1)≤_ by omega)
  have q0:=qSx b (c+1) (by omega)
  have r0:inB (.ofNat (0) + .ofNat (b.occ (c+1)))=true∧Int.ofNat (0) + .ofNat (b.occ (c+1)) = .ofNat (b.occ (c+1)):=⟨inN (show 0+b.occ (c+1)≤_ by omega),by simp⟩
  exact f3 [(31,.ok),(32,.N (b.occ (c+1))),(33,.z (b.occ (c+1)))] p0 q0 r0
 | .n0 k,c,h4=>by
  have h4:c+(1)≤mid:=h4
  have hm:=qQc
  cases k<;>exact f0 []
 | .n1 k a,c,h4=>by
  have h4:c+(1+a.cnt)≤mid:=h4
  have hm:=qQc
  have u0:=qQz a c
  have p0:=inN (show c≤_ by omega)
  have q0:=qSx a c (by omega)
  have r0:inB (.ofNat (0) + .ofNat (a.occ c))=true∧Int.ofNat (0) + .ofNat (a.occ c) = .ofNat (a.occ c):=⟨inN (show 0+a.occ c≤_ by omega),by simp⟩
  cases k<;>exact f3 [(31,.ok),(32,.N (a.occ c)),(33,.z (a.occ c))] p0 q0 r0
 | .n2 k a b,c,h4=>by
  have h4:c+(1+a.cnt+b.cnt)≤mid:=h4
  have hm:=qQc
  have u0:=qQz a c
  have p0:=inN (show c≤_ by omega)
  have q0:=qSx a c (by omega)
  have r0:inB (.ofNat (0) + .ofNat (a.occ c))=true∧Int.ofNat (0) + .ofNat (a.occ c) = .ofNat (a.occ c):=⟨inN (show 0+a.occ c≤_ by omega),by simp⟩
  have u1:=qQz b c
  have p1:=inN (show c≤_ by omega)
  have q1:=qSx b c (by omega)
  have r1:inB (.ofNat (a.occ c) + .ofNat (b.occ c))=true∧Int.ofNat (a.occ c) + .ofNat (b.occ c) = .ofNat (a.occ c+b.occ c):=⟨inN (show a.occ c+b.occ c≤_ by omega),by simp⟩
  cases k<;>exact f6 [(31,.ok),(32,.N (a.occ c)),(33,.z (a.occ c)),(31,.ok),(32,.N (b.occ c)),(33,.z (a.occ c+b.occ c))] p0 q0 r0 p1 q1 r1
 | .n3 k s a b d,c,h4=>by
  have h4:c+(1+a.cnt+b.cnt+d.cnt)≤mid:=h4
  have hm:=qQc
  have u0:=qQz a c
  have p0:=inN (show c≤_ by omega)
  have q0:=qSx a c (by omega)
  have r0:inB (.ofNat (0) + .ofNat (a.occ c))=true∧Int.ofNat (0) + .ofNat (a.occ c) = .ofNat (a.occ c):=⟨inN (show 0+a.occ c≤_ by omega),by simp⟩
  have u1:=qQz b c
  have p1:=inN (show c≤_ by omega)
  have q1:=qSx b c (by omega)
  have r1:inB (.ofNat (a.occ c) + .ofNat (b.occ c))=true∧Int.ofNat (a.occ c) + .ofNat (b.occ c) = .ofNat (a.occ c+b.occ c):=⟨inN (show a.occ c+b.occ c≤_ by omega),by simp⟩
  have u2:=qQz d c
  have p2:=inN (show c≤_ by omega)
  have q2:=qSx d c (by omega)
  have r2:inB (.ofNat (a.occ c+b.occ c) + .ofNat (d.occ c))=true∧Int.ofNat (a.occ c+b.occ c) + .ofNat (d.occ c) = .ofNat (a.occ c+b.occ c+d.occ c):=⟨inN (show a.occ c+b.occ c+d.occ c≤_ by omega),by simp⟩
  cases k<;>exact f9 [(31,.ok),(32,.N (a.occ c)),(33,.z (a.occ c)),(31,.ok),(32,.N (b.occ c)),(33,.z (a.occ c+b.occ c)),(31,.ok),(32,.N (d.occ c)),(33,.z (a.occ c+b.occ c+d.occ c))] p0 q0 r0 p1 q1 r1 p2 q2 r2
def Tm.put:Tm→Nat→Tm→Nat→Tm
 | .v i,c,s,d=>if i=c+d then s.sh 0 (.ofNat (c+d)) else if c+d<i then .v (i-1) else .v i
 | .lam u b,c,s,d => .lam u (b.put c s (d+1))
 | .n0 k,_,_,_ => .n0 k
 | .n1 k a,c,s,d => .n1 k (a.put c s d)
 | .n2 k a b,c,s,d => .n2 k (a.put c s d) (b.put c s d)
 | .n3 k u a b e,c,s,d => .n3 k u (a.put c s d) (b.put c s d) (e.put c s d)
theorem qUd:∀ (t:Tm) (c:Nat),c+t.cnt≤mid→∃ r,A 280 [t.p,num c] (.bool r)
 | .v i,c,h4=>by
  by_cases h:i=c
  ·exact⟨true,f1 [(14,.G)] (show eqI (.ofNat i) (.ofNat c)=true by rw [h];exact qUb c)⟩
  ·exact⟨false,f1 [(14,.H)] (qNh h)⟩
 | .lam s b,c,h4=>by
  have h4:c+(1+b.cnt)≤mid:=h4
  have hm:=qQc
  have p0:=inN (show (c+1)≤_ by omega)
  obtain⟨r0,q0⟩:=qUd b (c+1) (by omega)
  cases r0
  ·exact⟨false,f2 [(27,.ok),(28,.F)] p0 q0⟩
  ·exact⟨true,f2 [(27,.ok),(28,.T)] p0 q0⟩
 | .n0 k,c,h4=>by
  have h4:c+(1)≤mid:=h4
  have hm:=qQc
  cases k<;>exact⟨false,f0 []⟩
 | .n1 k a,c,h4=>by
  have h4:c+(1+a.cnt)≤mid:=h4
  have hm:=qQc
  have p0:=inN (show c≤_ by omega)
  obtain⟨r0,q0⟩:=qUd a c (by omega)
  cases r0
  ·cases k<;>exact⟨false,f2 [(27,.ok),(28,.F)] p0 q0⟩
  ·cases k<;>exact⟨true,f2 [(27,.ok),(28,.T)] p0 q0⟩
 | .n2 k a b,c,h4=>by
  have h4:c+(1+a.cnt+b.cnt)≤mid:=h4
  have hm:=qQc
  have p0:=inN (show c≤_ by omega)
  obtain⟨r0,q0⟩:=qUd a c (by omega)
  have p1:=inN (show c≤_ by omega)
  obtain⟨r1,q1⟩:=qUd b c (by omega)
  cases r0
  rotate_left
  ·cases k<;>exact⟨true,f2 [(27,.ok),(28,.T)] p0 q0⟩
  cases r1
  ·cases k<;>exact⟨false,f4 [(27,.ok),(28,.F),(27,.ok),(28,.F)] p0 q0 p1 q1⟩
  ·cases k<;>exact⟨true,f4 [(27,.ok),(28,.F),(27,.ok),(28,.T)] p0 q0 p1 q1⟩
 | .n3 k s a b d,c,h4=>by
  have h4:c+(1+a.cnt+b.cnt+d.cnt)≤mid:=h4
  have hm:=qQc
  have p0:=inN (show c≤_ by omega)
  obtain⟨r0,q0⟩:=qUd a c (by omega)
  have p1:=inN (show c≤_ by omega)
  obtain⟨r1,q1⟩:=qUd b c (by omega)
  have p2:=inN (show c≤_ by omega)
  obtain⟨r2,q2⟩:=qUd d c (by omega)
  cases r0
  rotate_left
  ·cases k<;>exact⟨true,f2 [(27,.ok),(28,.T)] p0 q0⟩
  cases r1
  rotate_left
  ·cases k<;>exact⟨true,f4 [(27,.ok),(28,.F),(27,.ok),(28,.T)] p0 q0 p1 q1⟩
  cases r2
  ·cases k<;>exact⟨false,f6 [(27,.ok),(28,.F),(27,.ok),(28,.F),(27,.ok),(28,.F)] p0 q0 p1 q1 p2 q2⟩
  ·cases k<;>exact⟨true,f6 [(27,.ok),(28,.F),(27,.ok),(28,.F),(27,.ok),(28,.T)] p0 q0 p1 q1 p2 q2⟩
theorem z0 (n:Nat):ltI (.ofNat n) (.ofNat 0)=false:=qZv (Nat.zero_le n)
theorem qP8:∀ (t:Tm) (n:Nat),∃ r,A 308 [t.p,num n] (.bool r)
 | .v i,n=>by
  by_cases h:n<i
  ·exact⟨false,f1 [(10,.G)] (qQy h)⟩
  ·exact⟨true,f1 [(10,.H)] (qZv (Nat.le_of_not_lt h))⟩
 | .lam s b,n=>by
  have hm:=qQc
  obtain⟨r0,q0⟩:=qP8 b n
  cases r0
  ·exact⟨false,f2 [(10,.H),(20,.F)] (z0 n) q0⟩
  ·exact⟨true,f2 [(10,.H),(20,.T)] (z0 n) q0⟩
 | .n0 k,n=>by
  have hm:=qQc
  exact⟨true,f1 [(10,.H)] (z0 n)⟩
 | .n1 k a,n=>by
  have hm:=qQc
  obtain⟨r0,q0⟩:=qP8 a n
  cases r0
  ·exact⟨false,f2 [(10,.H),(20,.F)] (z0 n) q0⟩
  ·exact⟨true,f2 [(10,.H),(20,.T)] (z0 n) q0⟩
 | .n2 k a b,n=>by
  have hm:=qQc
  obtain⟨r0,q0⟩:=qP8 a n
  obtain⟨r1,q1⟩:=qP8 b n
  cases r0
  ·exact⟨false,f2 [(10,.H),(20,.F)] (z0 n) q0⟩
  cases r1
  ·exact⟨false,f3 [(10,.H),(20,.T),(20,.F)] (z0 n) q0 q1⟩
  ·exact⟨true,f3 [(10,.H),(20,.T),(20,.T)] (z0 n) q0 q1⟩
 | .n3 k s a b d,n=>by
  have hm:=qQc
  obtain⟨r0,q0⟩:=qP8 a n
  obtain⟨r1,q1⟩:=qP8 b n
  obtain⟨r2,q2⟩:=qP8 d n
  cases r0
  ·exact⟨false,f2 [(10,.H),(20,.F)] (z0 n) q0⟩
  cases r1
  ·exact⟨false,f3 [(10,.H),(20,.T),(20,.F)] (z0 n) q0 q1⟩
  cases r2
  ·exact⟨false,f4 [(10,.H),(20,.T),(20,.T),(20,.F)] (z0 n) q0 q1 q2⟩
  ·exact⟨true,f4 [(10,.H),(20,.T),(20,.T),(20,.T)] (z0 n) q0 q1 q2⟩
theorem qSy:∀ (t:Tm) (c d:Nat) (s:Tm),s.mx≤mid * mid→s.cnt≤mid→t.mx≤mid * mid→c+d+t.cnt≤mid→A 332 [t.p,num c,num d,s.p] (t.put c s d).p
 | .v i,c,d,s,h1,h2,h3,h4=>by
  have hm:=qQc
  have h3:i≤mid * mid:=h3
  have h4:c+d+1≤mid:=h4
  have p:=inN (show c+d≤_ by omega)
  by_cases h:i=c+d
  ·have e:(Tm.v i).put c s d=s.sh 0 (.ofNat (c+d)):=by simp only [Tm.put,if_pos h]
   rw [e]
   exact f4 [(19,.ok),(20,.G),(24,.ok),(25,.r (s.sh 0 (.ofNat (c+d))).p)] p (show eqI (.ofNat i) (.ofNat (c+d))=true by rw [h];exact qUb _) p (qNy s 0 (.ofNat (c+d)) (by simp;omega) (by simp;omega) h1 (by omega))
  ·by_cases h':c+d<i
   ·have e:(Tm.v i).put c s d = .v (i-1):=by simp only [Tm.put,if_neg h,if_pos h']
    rw [e]
    have z:inB (Int.ofNat i-1)=true∧Int.ofNat i-1 = .ofNat (i-1):=by
     have e:Int.ofNat i-1 = .ofNat (i-1):=by simp;omega
     exact⟨by rw [e];exact inN (by rw [hm] at h3;omega),e⟩
    exact f5 [(19,.ok),(20,.H),(30,.ok),(31,.G),(34,.z (i-1))] p (qNh h) p (qQy h') z
   ·have e:(Tm.v i).put c s d = .v i:=by simp only [Tm.put,if_neg h,if_neg h']
    rw [e]
    exact f4 [(19,.ok),(20,.H),(30,.ok),(31,.H)] p (qNh h) p (qZv (Nat.le_of_not_lt h'))
 | .lam u b,c,d,s,h1,h2,h3,h4=>by
  have h3:b.mx≤mid * mid:=h3
  have h4:c+d+(1+b.cnt)≤mid:=h4
  have hm:=qQc
  have p0:=inN (show (d+1)≤_ by omega)
  have q0:=qSy b c (d+1) s h1 h2 (by omega) (by omega)
  exact f2 [(58,.ok),(60,.r (b.put c s (d+1)).p)] p0 q0
 | .n0 k,c,d,s,h1,h2,h3,h4=>by
  have h3:0≤mid * mid:=h3
  have h4:c+d+(1)≤mid:=h4
  have hm:=qQc
  cases k<;>exact f0 []
 | .n1 k a,c,d,s,h1,h2,h3,h4=>by
  have h3:a.mx≤mid * mid:=h3
  have h4:c+d+(1+a.cnt)≤mid:=h4
  have hm:=qQc
  have p0:=inN (show d≤_ by omega)
  have q0:=qSy a c d s h1 h2 (by omega) (by omega)
  cases k<;>exact f2 [(58,.ok),(60,.r (a.put c s d).p)] p0 q0
 | .n2 k a b,c,d,s,h1,h2,h3,h4=>by
  have h3:max a.mx b.mx≤mid * mid:=h3
  have h4:c+d+(1+a.cnt+b.cnt)≤mid:=h4
  have hm:=qQc
  have p0:=inN (show d≤_ by omega)
  have q0:=qSy a c d s h1 h2 (by omega) (by omega)
  have p1:=inN (show d≤_ by omega)
  have q1:=qSy b c d s h1 h2 (by omega) (by omega)
  cases k<;>exact f4 [(58,.ok),(60,.r (a.put c s d).p),(58,.ok),(60,.r (b.put c s d).p)] p0 q0 p1 q1
 | .n3 k u a b e,c,d,s,h1,h2,h3,h4=>by
  have h3:max a.mx (max b.mx e.mx)≤mid * mid:=h3
  have h4:c+d+(1+a.cnt+b.cnt+e.cnt)≤mid:=h4
  have hm:=qQc
  have p0:=inN (show d≤_ by omega)
  have q0:=qSy a c d s h1 h2 (by omega) (by omega)
  have p1:=inN (show d≤_ by omega)
  have q1:=qSy b c d s h1 h2 (by omega) (by omega)
  have p2:=inN (show d≤_ by omega)
  have q2:=qSy e c d s h1 h2 (by omega) (by omega)
  cases k<;>exact f6 [(58,.ok),(60,.r (a.put c s d).p),(58,.ok),(60,.r (b.put c s d).p),(58,.ok),(60,.r (e.put c s d).p)] p0 q0 p1 q1 p2 q2
open Go.Lg
set_option maxRecDepth 100000
def Tm.isLam:Tm→Option Tm
 | .lam _ b=>some b
 | _=>none
def Tm.isPair:Tm→Option (Tm × Tm)
 | .n2 .pair a b=>some (a,b)
 | _=>none
def Tm.red:Tm→Option Tm
 | .n1 .fst a=>a.isPair.map (·.1)
 | .n1 .snd a=>a.isPair.map (·.2)
 | .n2 .app f a=>f.isLam.map fun b=>b.put 0 a 0
 | .n3 .re s b f d=>match d with
  | .n0 .zero=>some b
  | .n1 .succ n=>some (.n2 .app (.n2 .app f n) (.n3 .re s b f n))
  | _=>none
 | .n3 .fo s b f d=>match d with
  | .n0 .nil=>some b
  | .n2 .cons h l=>some (.n2 .app (.n2 .app (.n2 .app f h) l) (.n3 .fo s b f l))
  | _=>none
 | _=>none
theorem qUe (t:Tm):A 333 [t.p] (.bool t.red.isSome):=by
 cases t with
 | v i=>exact f0 []
 | lam s b=>exact f0 []
 | n0 k=>cases k<;>exact f0 []
 | n1 k a=>cases k with
  | succ=>exact f0 []
  | _=>cases a with
   | v i=>exact f0 []
   | lam s b=>exact f0 []
   | n0 l=>cases l<;>exact f0 []
   | n1 l a=>cases l<;>exact f0 []
   | n2 l a b=>cases l<;>exact f0 []
   | n3 l s a b c=>cases l<;>exact f0 []
 | n2 k f b=>cases k with
  | app=>cases f with
   | v i=>exact f0 []
   | lam s b=>exact f0 []
   | n0 l=>cases l<;>exact f0 []
   | n1 l a=>cases l<;>exact f0 []
   | n2 l a b=>cases l<;>exact f0 []
   | n3 l s a b c=>cases l<;>exact f0 []
  | _=>exact f0 []
 | n3 k s a b d=>cases k<;>cases d with
   | v i=>exact f0 []
   | lam s b=>exact f0 []
   | n0 l=>cases l<;>exact f0 []
   | n1 l a=>cases l<;>exact f0 []
   | n2 l a b=>cases l<;>exact f0 []
   | n3 l s a b c=>cases l<;>exact f0 []
theorem qJ3 {P:Tm→Tm→Prop} (h1:∀ a b,P (.n1 .fst (.n2 .pair a b)) a) (h2:∀ a b,P (.n1 .snd (.n2 .pair a b)) b) (h3:∀ s b a,P (.n2 .app (.lam s b) a) (b.put 0 a 0))
  (h4:∀ s b f,P (.n3 .re s b f (.n0 .zero)) b) (h5:∀ s b f n,P (.n3 .re s b f (.n1 .succ n)) (.n2 .app (.n2 .app f n) (.n3 .re s b f n)))
  (h6:∀ s b f,P (.n3 .fo s b f (.n0 .nil)) b) (h7:∀ s b f h l,P (.n3 .fo s b f (.n2 .cons h l)) (.n2 .app (.n2 .app (.n2 .app f h) l) (.n3 .fo s b f l))):∀ {t r:Tm},t.red=some r→P t r:=by
 intro t r h
 cases t with
 | v i=>cases h
 | lam s b=>cases h
 | n0 k=>cases h
 | n1 k a=>cases k with
  | succ=>cases h
  | fst=>cases a with
   | n2 l a b=>cases l<;>cases h;exact h1 a b
   | _=>cases h
  | snd=>cases a with
   | n2 l a b=>cases l<;>cases h;exact h2 a b
   | _=>cases h
 | n2 k f b=>cases k with
  | app=>cases f with
   | lam s b=>cases h;exact h3 _ _ _
   | _=>cases h
  | _=>cases h
 | n3 k s a b d=>cases k with
  | re=>cases d with
   | n0 l=>cases l<;>cases h;exact h4 _ _ _
   | n1 l n=>cases l<;>cases h;exact h5 _ _ _ _
   | _=>cases h
  | fo=>cases d with
   | n0 l=>cases l<;>cases h;exact h6 _ _ _
   | n2 l h' t=>cases l<;>cases h;exact h7 _ _ _ _ _
   | _=>cases h
theorem qJn (c:Nat) (s:Tm):∀ (t:Tm) (d:Nat),(t.put c s d).cnt+t.occ (c+d)=t.cnt+t.occ (c+d) * s.cnt
 | .v i,d=>by
  simp only [Tm.put,Tm.occ]
  split
  ·simp [qQu,Tm.cnt];omega
  ·split<;>simp [Tm.cnt]
 | .lam u b,d=>by have:=qJn c s b (d+1);simp only [Tm.put,Tm.occ,Tm.cnt,Nat.add_assoc] at this ⊢;omega
 | .n0 k,d=>by simp [Tm.put,Tm.occ]
 | .n1 k a,d=>by have:=qJn c s a d;simp only [Tm.put,Tm.occ,Tm.cnt];omega
 | .n2 k a b,d=>by have:=qJn c s a d;have:=qJn c s b d;simp only [Tm.put,Tm.occ,Tm.cnt,Nat.add_mul];omega
 | .n3 k u a b e,d=>by have:=qJn c s a d;have:=qJn c s b d;have:=qJn c s e d;simp only [Tm.put,Tm.occ,Tm.cnt,Nat.add_mul];omega
theorem qVg (c:Nat) (s:Tm):∀ (t:Tm) (d:Nat),(t.put c s d).tsz≤max t.tsz s.tsz
 | .v i,d=>by
  simp only [Tm.put]
  split
  ·rw [qQ7];omega
  ·split<;>simp [Tm.tsz]
 | .lam u b,d=>by have:=qVg c s b (d+1);simp only [Tm.put,Tm.tsz];omega
 | .n0 k,d=>Nat.zero_le _
 | .n1 k a,d=>qVg c s a d
 | .n2 k a b,d=>by have:=qVg c s a d;have:=qVg c s b d;simp only [Tm.put,Tm.tsz];omega
 | .n3 k u a b e,d=>by have:=qVg c s a d;have:=qVg c s b d;have:=qVg c s e d;simp only [Tm.put,Tm.tsz];omega
theorem qWq (c:Nat) (s:Tm):∀ (t:Tm) (d:Nat),(t.put c s d).mx≤max t.mx (s.mx+(c+d+t.cnt))
 | .v i,d=>by
  simp only [Tm.put]
  split
  ·have:=qKy (.ofNat (c+d)) s 0
   simp [Tm.mx,Tm.cnt] at this ⊢
   omega
  ·split<;>simp [Tm.mx]<;>omega
 | .lam u b,d=>by have:=qWq c s b (d+1);simp only [Tm.put,Tm.mx,Tm.cnt];omega
 | .n0 k,d=>by simp [Tm.put,Tm.mx]
 | .n1 k a,d=>by have:=qWq c s a d;simp only [Tm.put,Tm.mx,Tm.cnt];omega
 | .n2 k a b,d=>by have:=qWq c s a d;have:=qWq c s b d;simp only [Tm.put,Tm.mx,Tm.cnt];omega
 | .n3 k u a b e,d=>by have:=qWq c s a d;have:=qWq c s b d;have:=qWq c s e d;simp only [Tm.put,Tm.mx,Tm.cnt];omega
theorem zZ6:∀ {t r:Tm},t.red=some r→r.mx≤t.mx+t.cnt∧r.tsz≤t.tsz:=by
 refine qJ3 (P:=fun t r=>r.mx≤t.mx+t.cnt∧r.tsz≤t.tsz) ?_ ?_ ?_ ?_ ?_ ?_ ?_
 ·intro a b;simp only [Tm.mx,Tm.cnt,Tm.tsz];omega
 ·intro a b;simp only [Tm.mx,Tm.cnt,Tm.tsz];omega
 ·intro s b a
  have h1:=qWq 0 a b 0
  have h2:=qVg 0 a b 0
  simp only [Tm.mx,Tm.cnt,Tm.tsz] at *
  omega
 all_goals (intros;simp only [Tm.mx,Tm.cnt,Tm.tsz];omega)
section
variable {f:Nat} {args:List PV} {x:PV}
theorem f11 (tp:Di) {H1 H2 H3 H4 H5 H6 H7 H8 H9 H10 H11:Prop} (h1:H1) (h2:H2) (h3:H3) (h4:H4) (h5:H5) (h6:H6) (h7:H7) (h8:H8) (h9:H9) (h10:H10) (h11:H11) (e:(H1∧H2∧H3∧H4∧H5∧H6∧H7∧H8∧H9∧H10∧H11∧x=x)=U f args tp x:=by kernel_rfl):A f args x:=fk tp ⟨h1,h2,h3,h4,h5,h6,h7,h8,h9,h10,h11,rfl⟩ e
theorem f12 (tp:Di) {H1 H2 H3 H4 H5 H6 H7 H8 H9 H10 H11 H12:Prop} (h1:H1) (h2:H2) (h3:H3) (h4:H4) (h5:H5) (h6:H6) (h7:H7) (h8:H8) (h9:H9) (h10:H10) (h11:H11) (h12:H12) (e:(H1∧H2∧H3∧H4∧H5∧H6∧H7∧H8∧H9∧H10∧H11∧H12∧x=x)=U f args tp x:=by kernel_rfl):A f args x:=fk tp ⟨h1,h2,h3,h4,h5,h6,h7,h8,h9,h10,h11,h12,rfl⟩ e
theorem f13 (tp:Di) {H1 H2 H3 H4 H5 H6 H7 H8 H9 H10 H11 H12 H13:Prop} (h1:H1) (h2:H2) (h3:H3) (h4:H4) (h5:H5) (h6:H6) (h7:H7) (h8:H8) (h9:H9) (h10:H10) (h11:H11) (h12:H12) (h13:H13) (e:(H1∧H2∧H3∧H4∧H5∧H6∧H7∧H8∧H9∧H10∧H11∧H12∧H13∧x=x)=U f args tp x:=by kernel_rfl):A f args x:=fk tp ⟨h1,h2,h3,h4,h5,h6,h7,h8,h9,h10,h11,h12,h13,rfl⟩ e
theorem f14 (tp:Di) {H1 H2 H3 H4 H5 H6 H7 H8 H9 H10 H11 H12 H13 H14:Prop} (h1:H1) (h2:H2) (h3:H3) (h4:H4) (h5:H5) (h6:H6) (h7:H7) (h8:H8) (h9:H9) (h10:H10) (h11:H11) (h12:H12) (h13:H13) (h14:H14) (e:(H1∧H2∧H3∧H4∧H5∧H6∧H7∧H8∧H9∧H10∧H11∧H12∧H13∧H14∧x=x)=U f args tp x:=by kernel_rfl):A f args x:=fk tp ⟨h1,h2,h3,h4,h5,h6,h7,h8,h9,h10,h11,h12,h13,h14,rfl⟩ e
end
theorem zXl {z:Int} (h : -1152921504606846976≤z) (h':z≤1152921504606846976):inB z=true:=by
 cases z with
 | ofNat n=>exact inN (by simp at h';omega)
 | negSucc n=>exact Nat.ble_eq_true_of_le (by omega)
theorem zHy:∀ {t r:Tm},t.red=some r→t.mx≤mid * mid→t.cnt≤mid→A 335 [t.p] r.p:=by
 refine qJ3 (P:=fun t r=>t.mx≤mid * mid→t.cnt≤mid→A 335 [t.p] r.p) ?_ ?_ ?_ ?_ ?_ ?_ ?_
 ·intro a b _ _;exact f0 []
 ·intro a b _ _;exact f0 []
 ·intro s b a h1 h2
  have hm:=qQc
  simp only [Tm.mx,Tm.cnt] at h1 h2
  exact f1 [(21,.r (b.put 0 a 0).p)] (qSy b 0 0 a (by omega) (by omega) (by omega) (by omega))
 ·intro s b f _ _;exact f0 []
 ·intro s b f n _ _
  exact f3 [(47,.r (Tm.n2 .app f n).p),(60,.r (Tm.n3 .re s b f n).p),(62,.r (Tm.n2 .app (.n2 .app f n) (.n3 .re s b f n)).p)] (qX3 3 f n) (qIh .re s b f n) (qX3 3 (.n2 .app f n) (.n3 .re s b f n))
 ·intro s b f _ _;exact f0 []
 ·intro s b f h l _ _
  exact f4 [(95,.r (Tm.n2 .app f h).p),(98,.r (Tm.n2 .app (.n2 .app f h) l).p),(111,.r (Tm.n3 .fo s b f l).p),(113,.r (Tm.n2 .app (.n2 .app (.n2 .app f h) l) (.n3 .fo s b f l)).p)] (qX3 3 f h) (qX3 3 (.n2 .app f h) l) (qIh .fo s b f l) (qX3 3 (.n2 .app (.n2 .app f h) l) (.n3 .fo s b f l))
theorem qBt {a b:Nat} {z:Int} (h:a≤big) (h':b≤big) (e:(a:Int)-b=z):inB (Int.ofNat a-Int.ofNat b)=true∧Int.ofNat a-Int.ofNat b=z:=by
 have hb:=qQh
 refine⟨zXl ?_ ?_,e⟩<;>simp<;>omega
theorem qZg {a b:Nat} (h:a+b≤big):inB (Int.ofNat a+Int.ofNat b)=true:=inb (n:=a+b) h
theorem qVm {a:Nat} (h:1≤a) (h':a≤big):inB (Int.ofNat a-1)=true∧Int.ofNat a-1 = .ofNat (a-1):=by
 have hb:=qQh
 have e:Int.ofNat a-1 = .ofNat (a-1):=by simp;omega
 exact⟨by rw [e];exact inb (by omega),e⟩
theorem zY3 {a b:Nat} (h:a * b≤big):inB (Int.ofNat a * Int.ofNat b)=true:=inb (n:=a * b) h
theorem qB8 (a:Tm):1≤a.cnt:=by cases a<;>simp [Tm.cnt]<;>omega
theorem zHz:∀ {t r:Tm},t.red=some r→t.cnt≤mid→A 334 [t.p] (.int ((r.cnt:Int)-t.cnt)):=by
 have hm:=qQc
 have hb:=qQh
 refine @qJ3 (fun t r=>t.cnt≤mid→A 334 [t.p] (.int ((r.cnt:Int)-t.cnt))) ?_ ?_ ?_ ?_ ?_ ?_ ?_
 ·intro a b h
  generalize ht:Tm.n1 .fst (.n2 .pair a b)=t at *
  have h':a.cnt≤mid:=by subst ht;simp only [Tm.cnt] at h;omega
  have h1:=a87 t (by omega)
  have h2:=a87 a (by omega)
  have h3:=qBt (a:=a.cnt) (b:=t.cnt) (by omega) (by omega) rfl
  subst ht
  exact f3 [(9,.N (Tm.n1 .fst (.n2 .pair a b)).cnt),(129,.N a.cnt),(131,.y ((a.cnt:Int)-(Tm.n1 .fst (.n2 .pair a b)).cnt))] h1 h2 h3
 ·intro a b h
  generalize ht:Tm.n1 .snd (.n2 .pair a b)=t at *
  have h':b.cnt≤mid:=by subst ht;simp only [Tm.cnt] at h;omega
  have h1:=a87 t (by omega)
  have h2:=a87 b (by omega)
  have h3:=qBt (a:=b.cnt) (b:=t.cnt) (by omega) (by omega) rfl
  subst ht
  exact f3 [(9,.N (Tm.n1 .snd (.n2 .pair a b)).cnt),(139,.N b.cnt),(141,.y ((b.cnt:Int)-(Tm.n1 .snd (.n2 .pair a b)).cnt))] h1 h2 h3
 ·intro s b a h
  have h':1+(1+b.cnt)+a.cnt≤mid:=h
  have h1:=qQz b 0
  have h2:=qJn 0 a b 0
  simp only [Nat.zero_add] at h2
  have h4:=qB8 a
  have h3:b.occ 0 * (a.cnt-1)≤mid * mid:=Nat.mul_le_mul (by omega) (by omega)
  have h5:b.occ 0 * a.cnt=b.occ 0 * (a.cnt-1)+b.occ 0:=by
   have:a.cnt=(a.cnt-1)+1:=by omega
   rw [this,Nat.mul_succ];simp
  rw [hm] at h3
  generalize ht:Tm.n2 .app (.lam s b) a=t at *
  have g1:=a87 t (by omega)
  have g2:=a87 b (by omega)
  have g3:=qSx b 0 (by omega)
  have g4:=a87 a (by omega)
  have g5:=qVm h4 (by omega)
  have g6:=zY3 (a:=b.occ 0) (b:=a.cnt-1) (by omega)
  have g7:=qZg (a:=b.cnt) (b:=b.occ 0 * (a.cnt-1)) (by omega)
  have g8:=qBt (a:=b.cnt+b.occ 0 * (a.cnt-1)) (b:=t.cnt) (z:=((b.put 0 a 0).cnt:Int)-t.cnt) (by omega) (by omega) (by omega)
  subst ht
  exact f8 [(9,.N (Tm.n2 .app (.lam s b) a).cnt),(26,.N b.cnt),(28,.N (b.occ 0)),(30,.N a.cnt),(31,.z (a.cnt-1)),(32,.ok),(33,.ok),(35,.y (((b.put 0 a 0).cnt:Int)-(Tm.n2 .app (.lam s b) a).cnt))] g1 g2 g3 g4 g5 g6 g7 g8
 ·intro s b f h
  have h':1+b.cnt+f.cnt+1≤mid:=h
  generalize ht:Tm.n3 .re s b f (.n0 .zero)=t at *
  have h1:=a87 t (by omega)
  have h2:=a87 b (by omega)
  have h3:=qBt (a:=b.cnt) (b:=t.cnt) (by omega) (by omega) rfl
  subst ht
  exact f3 [(9,.N (Tm.n3 .re s b f (.n0 .zero)).cnt),(48,.N b.cnt),(50,.y ((b.cnt:Int)-(Tm.n3 .re s b f (.n0 .zero)).cnt))] h1 h2 h3
 ·intro s b f n h
  have h':1+b.cnt+f.cnt+(1+n.cnt)≤mid:=h
  have hz:((Tm.n2 .app (.n2 .app f n) (.n3 .re s b f n)).cnt:Int)-(Tm.n3 .re s b f (.n1 .succ n)).cnt=(1+f.cnt+n.cnt:Nat):=by simp only [Tm.cnt];omega
  rw [hz]
  generalize ht:Tm.n3 .re s b f (.n1 .succ n)=t at *
  have h1:=a87 t (by omega)
  have h2:=a87 f (by omega)
  have h3:=a87 n (by omega)
  have g1:=qZg (a:=2) (b:=f.cnt) (by omega)
  have g2:=qZg (a:=2+f.cnt) (b:=n.cnt) (by omega)
  have g3:=qZg (a:=2+f.cnt+n.cnt) (b:=t.cnt) (by omega)
  have g4:=qVm (a:=2+f.cnt+n.cnt+t.cnt) (by omega) (by omega)
  have g5:=qBt (a:=2+f.cnt+n.cnt+t.cnt-1) (b:=t.cnt) (z:=((1+f.cnt+n.cnt:Nat):Int)) (by omega) (by omega) (by omega)
  subst ht
  exact f8 [(9,.N (Tm.n3 .re s b f (.n1 .succ n)).cnt),(55,.N f.cnt),(56,.ok),(64,.N n.cnt),(65,.ok),(67,.ok),(68,.z (2+f.cnt+n.cnt+(Tm.n3 .re s b f (.n1 .succ n)).cnt-1)),(70,.y ((1+f.cnt+n.cnt:Nat):Int))] h1 h2 g1 h3 g2 g3 g4 g5
 ·intro s b f h
  have h':1+b.cnt+f.cnt+1≤mid:=h
  generalize ht:Tm.n3 .fo s b f (.n0 .nil)=t at *
  have h1:=a87 t (by omega)
  have h2:=a87 b (by omega)
  have h3:=qBt (a:=b.cnt) (b:=t.cnt) (by omega) (by omega) rfl
  subst ht
  exact f3 [(9,.N (Tm.n3 .fo s b f (.n0 .nil)).cnt),(83,.N b.cnt),(85,.y ((b.cnt:Int)-(Tm.n3 .fo s b f (.n0 .nil)).cnt))] h1 h2 h3
 ·intro s b f x l h
  have h':1+b.cnt+f.cnt+(1+x.cnt+l.cnt)≤mid:=h
  have hz:((Tm.n2 .app (.n2 .app (.n2 .app f x) l) (.n3 .fo s b f l)).cnt:Int)-(Tm.n3 .fo s b f (.n2 .cons x l)).cnt=(2+f.cnt+l.cnt:Nat):=by simp only [Tm.cnt];omega
  rw [hz]
  generalize ht:Tm.n3 .fo s b f (.n2 .cons x l)=t at *
  have h1:=a87 t (by omega)
  have h2:=a87 f (by omega)
  have h3:=a87 x (by omega)
  have h4:=a87 l (by omega)
  have g1:=qZg (a:=3) (b:=f.cnt) (by omega)
  have g2:=qZg (a:=3+f.cnt) (b:=x.cnt) (by omega)
  have g2':=qZg (a:=3+f.cnt+x.cnt) (b:=l.cnt) (by omega)
  have g3:=qZg (a:=3+f.cnt+x.cnt+l.cnt) (b:=t.cnt) (by omega)
  have g4:=qVm (a:=3+f.cnt+x.cnt+l.cnt+t.cnt) (by omega) (by omega)
  have g5:=qBt (a:=3+f.cnt+x.cnt+l.cnt+t.cnt-1) (b:=x.cnt) (z:=((2+f.cnt+l.cnt+t.cnt:Nat):Int)) (by omega) (by omega) (by omega)
  have g6:=qBt (a:=2+f.cnt+l.cnt+t.cnt) (b:=t.cnt) (z:=((2+f.cnt+l.cnt:Nat):Int)) (by omega) (by omega) (by omega)
  subst ht
  exact f12 [(9,.N (Tm.n3 .fo s b f (.n2 .cons x l)).cnt),(104,.N f.cnt),(105,.ok),(107,.N x.cnt),(108,.ok),(110,.N l.cnt),(111,.ok),(113,.ok),(114,.z (3+f.cnt+x.cnt+l.cnt+(Tm.n3 .fo s b f (.n2 .cons x l)).cnt-1)),(116,.N x.cnt),(117,.z (2+f.cnt+l.cnt+(Tm.n3 .fo s b f (.n2 .cons x l)).cnt)),(119,.y ((2+f.cnt+l.cnt:Nat):Int))] h1 h2 g1 h3 g2 h4 g2' g3 g4 h3 g5 g6
open Go.Lg
set_option maxRecDepth 100000
structure NR where
 k:Nat
 i:Nat
 tk:Nat
 te:List (List PV)
 es:List (List PV)
 fd:Bool
 ft:Bool
def NR.row (c:NR):List PV:=[num c.k,num c.i,num c.tk,.slice c.te,.slice c.es]
def NR.p (c:NR):PV:=.tuple [.agg c.row,.bool c.fd,.bool c.ft]
def NR.of (t:Tm) (fd:Bool):NR:=⟨t.kd,t.ix,t.tk,t.te,t.es,fd,true⟩
def Stp (t:Tm) (z:Int) (x:Tm):Prop:=(x.cnt:Int)≤t.cnt+z∧x.mx≤t.mx+t.cnt∧x.tsz≤t.tsz
def NR.Good (c:NR) (t:Tm) (z:Int):Prop:=c.fd=true→c.ft=true→∃ x:Tm,c.row=x.c∧Stp t z x
theorem zY4 {c:NR} {x:Tm} (h:c.row=x.c):c.k=x.kd∧c.i=x.ix∧c.tk=x.tk∧c.te=x.te∧c.es=x.es:=by
 simp only [NR.row,Tm.c,List.cons.injEq,PV.int.injEq,PV.slice.injEq,and_true] at h
 exact⟨Int.ofNat.inj h.1,Int.ofNat.inj h.2.1,Int.ofNat.inj h.2.2.1,h.2.2.2.1,h.2.2.2.2⟩
theorem qJm {t r:Tm} (h:t.red=some r) (z:Int) (h1:t.mx≤mid * mid) (h2:t.cnt≤mid):∃ c:NR,A 311 [t.p,.int z] c.p∧c.Good t z:=by
 have g1:=qUe t
 rw [h] at g1
 have g2:=zHz h h2
 cases e:ltI z ((r.cnt:Int)-t.cnt)
 ·refine⟨.of r true,f4 [(14,.T),(16,.r (.int ((r.cnt:Int)-t.cnt))),(18,.H),(21,.r r.p)] g1 g2 e (zHy h h1 h2),fun _ _=>⟨r,rfl,?_,zZ6 h⟩⟩
  rw [qQs] at e
  have:=of_decide_eq_false e
  omega
 ·exact⟨⟨0,0,0,[],[],true,false⟩,f3 [(14,.T),(16,.r (.int ((r.cnt:Int)-t.cnt))),(18,.G)] g1 g2 e,fun _ h=>by cases h⟩
theorem zGe:∀ (t:Tm) (z:Int),t.mx≤mid * mid→t.cnt≤mid→∃ c:NR,A 311 [t.p,.int z] c.p∧c.Good t z:=by
 intro t z h1 h2
 cases hr:t.red with
 | some r=>exact qJm hr z h1 h2
 | none =>
 have g1:=qUe t
 rw [hr] at g1
 induction t with
 | v i=>exact⟨.of (.v i) false,f1 [(14,.F)] g1,nofun⟩
 | n0 k=>exact⟨.of (.n0 k) false,f1 [(14,.F)] g1,nofun⟩
 | lam s b ih =>
  have h2':1+b.cnt≤mid:=h2
  obtain⟨⟨k,i,tk,te,es,fd,ft⟩,g2,g3⟩:∃ c:NR,A 311 [b.p,.int z] c.p∧c.Good b z:=by
   cases hb:b.red with
   | some r=>exact qJm hb z h1 (by omega)
   | none=>exact ih h1 (by omega) hb (by have:=qUe b;rw [hb] at this;exact this)
  cases fd
  ·exact⟨.of (.lam s b) false,f2 [(14,.F),(33,.r (NR.p ⟨k,i,tk,te,es,false,ft⟩))] g1 g2,nofun⟩
  ·refine⟨⟨2,0,s.kd,s.es,[NR.row ⟨k,i,tk,te,es,true,ft⟩],true,ft⟩,f2 [(14,.F),(33,.r (NR.p ⟨k,i,tk,te,es,true,ft⟩))] g1 g2,fun _ hf => ?_⟩
   obtain⟨x,hx,e1,e2,e3⟩:=g3 rfl hf
   refine⟨.lam s x,?_,?_⟩
   ·rw [hx];rfl
   ·simp only [Stp,Tm.cnt,Tm.mx,Tm.tsz];omega
 | n1 k a ih =>
  have h2':1+a.cnt≤mid:=h2
  have h1':a.mx≤mid * mid:=h1
  obtain⟨⟨ka,ia,tka,tea,esa,fda,fta⟩,ga,qa⟩:∃ c:NR,A 311 [a.p,.int z] c.p∧c.Good a z:=by
   cases hb:a.red with
   | some r=>exact qJm hb z (by omega) (by omega)
   | none=>exact ih (by omega) (by omega) hb (by have:=qUe a;rw [hb] at this;exact this)
  cases fda
  rotate_left
  ·refine⟨⟨(Tm.n1 k a).kd,0,0,[],[NR.row ⟨ka,ia,tka,tea,esa,true,fta⟩],true,fta⟩,f2 [(14,.F),(33,.r (NR.p ⟨ka,ia,tka,tea,esa,true,fta⟩))] g1 ga,fun _ hf => ?_⟩
   obtain⟨x,hx,e1,e2,e3⟩:=qa rfl hf
   refine⟨.n1 k x,?_,?_⟩
   ·rw [hx];rfl
   ·simp only [Stp,Tm.cnt,Tm.mx,Tm.tsz];omega
  exact⟨.of ((Tm.n1 k a)) false,f2 [(14,.F),(33,.r (NR.p ⟨ka,ia,tka,tea,esa,false,fta⟩))] g1 ga,nofun⟩
 | n2 k a b ih1 ih2 =>
  have h2':1+a.cnt+b.cnt≤mid:=h2
  have h1':max a.mx b.mx≤mid * mid:=h1
  obtain⟨⟨ka,ia,tka,tea,esa,fda,fta⟩,ga,qa⟩:∃ c:NR,A 311 [a.p,.int z] c.p∧c.Good a z:=by
   cases hb:a.red with
   | some r=>exact qJm hb z (by omega) (by omega)
   | none=>exact ih1 (by omega) (by omega) hb (by have:=qUe a;rw [hb] at this;exact this)
  cases fda
  rotate_left
  ·refine⟨⟨(Tm.n2 k a b).kd,0,0,[],[NR.row ⟨ka,ia,tka,tea,esa,true,fta⟩,b.c],true,fta⟩,f2 [(14,.F),(33,.r (NR.p ⟨ka,ia,tka,tea,esa,true,fta⟩))] g1 ga,fun _ hf => ?_⟩
   obtain⟨x,hx,e1,e2,e3⟩:=qa rfl hf
   refine⟨.n2 k x b,?_,?_⟩
   ·rw [hx];rfl
   ·simp only [Stp,Tm.cnt,Tm.mx,Tm.tsz];omega
  obtain⟨⟨kb,ib,tkb,teb,esb,fdb,ftb⟩,gb,qb⟩:∃ c:NR,A 311 [b.p,.int z] c.p∧c.Good b z:=by
   cases hb:b.red with
   | some r=>exact qJm hb z (by omega) (by omega)
   | none=>exact ih2 (by omega) (by omega) hb (by have:=qUe b;rw [hb] at this;exact this)
  cases fdb
  rotate_left
  ·refine⟨⟨(Tm.n2 k a b).kd,0,0,[],[a.c,NR.row ⟨kb,ib,tkb,teb,esb,true,ftb⟩],true,ftb⟩,f3 [(14,.F),(33,.r (NR.p ⟨ka,ia,tka,tea,esa,false,fta⟩)),(33,.r (NR.p ⟨kb,ib,tkb,teb,esb,true,ftb⟩))] g1 ga gb,fun _ hf => ?_⟩
   obtain⟨x,hx,e1,e2,e3⟩:=qb rfl hf
   refine⟨.n2 k a x,?_,?_⟩
   ·rw [hx];rfl
   ·simp only [Stp,Tm.cnt,Tm.mx,Tm.tsz];omega
  exact⟨.of ((Tm.n2 k a b)) false,f3 [(14,.F),(33,.r (NR.p ⟨ka,ia,tka,tea,esa,false,fta⟩)),(33,.r (NR.p ⟨kb,ib,tkb,teb,esb,false,ftb⟩))] g1 ga gb,nofun⟩
 | n3 k s a b d ih1 ih2 ih3 =>
  have h2':1+a.cnt+b.cnt+d.cnt≤mid:=h2
  have h1':max a.mx (max b.mx d.mx)≤mid * mid:=h1
  obtain⟨⟨ka,ia,tka,tea,esa,fda,fta⟩,ga,qa⟩:∃ c:NR,A 311 [a.p,.int z] c.p∧c.Good a z:=by
   cases hb:a.red with
   | some r=>exact qJm hb z (by omega) (by omega)
   | none=>exact ih1 (by omega) (by omega) hb (by have:=qUe a;rw [hb] at this;exact this)
  cases fda
  rotate_left
  ·refine⟨⟨(Tm.n3 k s a b d).kd,0,s.kd,s.es,[NR.row ⟨ka,ia,tka,tea,esa,true,fta⟩,b.c,d.c],true,fta⟩,f2 [(14,.F),(33,.r (NR.p ⟨ka,ia,tka,tea,esa,true,fta⟩))] g1 ga,fun _ hf => ?_⟩
   obtain⟨x,hx,e1,e2,e3⟩:=qa rfl hf
   refine⟨.n3 k s x b d,?_,?_⟩
   ·rw [hx];rfl
   ·simp only [Stp,Tm.cnt,Tm.mx,Tm.tsz];omega
  obtain⟨⟨kb,ib,tkb,teb,esb,fdb,ftb⟩,gb,qb⟩:∃ c:NR,A 311 [b.p,.int z] c.p∧c.Good b z:=by
   cases hb:b.red with
   | some r=>exact qJm hb z (by omega) (by omega)
   | none=>exact ih2 (by omega) (by omega) hb (by have:=qUe b;rw [hb] at this;exact this)
  cases fdb
  rotate_left
  ·refine⟨⟨(Tm.n3 k s a b d).kd,0,s.kd,s.es,[a.c,NR.row ⟨kb,ib,tkb,teb,esb,true,ftb⟩,d.c],true,ftb⟩,f3 [(14,.F),(33,.r (NR.p ⟨ka,ia,tka,tea,esa,false,fta⟩)),(33,.r (NR.p ⟨kb,ib,tkb,teb,esb,true,ftb⟩))] g1 ga gb,fun _ hf => ?_⟩
   obtain⟨x,hx,e1,e2,e3⟩:=qb rfl hf
   refine⟨.n3 k s a x d,?_,?_⟩
   ·rw [hx];rfl
   ·simp only [Stp,Tm.cnt,Tm.mx,Tm.tsz];omega
  obtain⟨⟨kd,id,tkd,ted,esd,fdd,ftd⟩,gd,qd⟩:∃ c:NR,A 311 [d.p,.int z] c.p∧c.Good d z:=by
   cases hb:d.red with
   | some r=>exact qJm hb z (by omega) (by omega)
   | none=>exact ih3 (by omega) (by omega) hb (by have:=qUe d;rw [hb] at this;exact this)
  cases fdd
  rotate_left
  ·refine⟨⟨(Tm.n3 k s a b d).kd,0,s.kd,s.es,[a.c,b.c,NR.row ⟨kd,id,tkd,ted,esd,true,ftd⟩],true,ftd⟩,f4 [(14,.F),(33,.r (NR.p ⟨ka,ia,tka,tea,esa,false,fta⟩)),(33,.r (NR.p ⟨kb,ib,tkb,teb,esb,false,ftb⟩)),(33,.r (NR.p ⟨kd,id,tkd,ted,esd,true,ftd⟩))] g1 ga gb gd,fun _ hf => ?_⟩
   obtain⟨x,hx,e1,e2,e3⟩:=qd rfl hf
   refine⟨.n3 k s a b x,?_,?_⟩
   ·rw [hx];rfl
   ·simp only [Stp,Tm.cnt,Tm.mx,Tm.tsz];omega
  exact⟨.of ((Tm.n3 k s a b d)) false,f4 [(14,.F),(33,.r (NR.p ⟨ka,ia,tka,tea,esa,false,fta⟩)),(33,.r (NR.p ⟨kb,ib,tkb,teb,esb,false,ftb⟩)),(33,.r (NR.p ⟨kd,id,tkd,ted,esd,false,ftd⟩))] g1 ga gb gd,nofun⟩
def kz:List PV:=[.int 0,.int 0,.int 0,.nils,.nils]
abbrev bx (l:List PV):Ob:=.box (l.map .pv)
abbrev qUf:Kp:=⟨[1,2,4,8],[0,1],2,[]⟩
abbrev qUg:Kp:=⟨[4,5,6],[1],2,[]⟩
abbrev zGf (m n:Nat) (t:Tm):IS:=st [(1,.pv (num m)),(2,.loc 0 0),(4,.loc 1 0),(8,.pv (num n))] [(0,bx t.c),(1,bx kz)] 2 []
abbrev zCe (n e:Nat) (l:List PV):IS:=st [(4,.loc 1 0),(5,.pv (num n)),(6,.pv (num e))] [(1,bx l)] 2 []
theorem zWw (m M T:Nat) (hM:M+(m+1) * 4096≤mid * mid) (hT:T≤mid) (hm':m≤mid):∀ (r n:Nat),n+r=m→∀ t:Tm,t.cnt≤4096→t.mx≤M+n * 4096→t.tsz≤T →
  (∃ x k,Lp 281 0 0 (zGf m n t) .ret (zCe k 0 (Tm.c x))∧x.cnt≤4096∧x.mx≤M+m * 4096∧x.tsz≤T∧k≤m) ∨ ∃ e,Lp 281 0 0 (zGf m n t) .ret (zCe 0 (e+1) kz):=by
 have hm:=qQc
 have hb:=qQh
 intro r
 induction r with
 | zero =>
  intro n hn t h1 h2 h3
  obtain rfl:n=m:=by omega
  obtain⟨⟨k,i,tk,te,es,fd,ft⟩,g1,g2⟩:=zGe t (4096-t.cnt) (by rw [hm] at hM ⊢;omega) (by omega)
  have g3:=a87 t (by omega)
  have g4:=qBt (a:=4096) (b:=t.cnt) (z:=4096-(t.cnt:Int)) (by omega) (by omega) rfl
  cases fd
  ·exact .inl ⟨t,n,x4 [(35,.N t.cnt),(36,.y (4096-(t.cnt:Int))),(37,.r (NR.p ⟨k,i,tk,te,es,false,ft⟩)),(44,.r t.p)] qUg g3 g4 g1 (a65 t),h1,h2,h3,Nat.le_refl _⟩
  ·exact .inr ⟨4,x4 [(35,.N t.cnt),(36,.y (4096-(t.cnt:Int))),(37,.r (NR.p ⟨k,i,tk,te,es,true,ft⟩)),(48,.G)] qUg g3 g4 g1 (qUb n)⟩
 | succ r ih =>
  intro n hn t h1 h2 h3
  have hk:n * 4096≤m * 4096:=Nat.mul_le_mul_right _ (by omega)
  obtain⟨⟨k,i,tk,te,es,fd,ft⟩,g1,g2⟩:=zGe t (4096-t.cnt) (by rw [hm] at hM ⊢;omega) (by omega)
  have g3:=a87 t (by omega)
  have g4:=qBt (a:=4096) (b:=t.cnt) (z:=4096-(t.cnt:Int)) (by omega) (by omega) rfl
  cases fd
  ·exact .inl ⟨t,n,x4 [(35,.N t.cnt),(36,.y (4096-(t.cnt:Int))),(37,.r (NR.p ⟨k,i,tk,te,es,false,ft⟩)),(44,.r t.p)] qUg g3 g4 g1 (a65 t),h1,by omega,h3,by omega⟩
  ·have g5:eqI (.ofNat n) (.ofNat m)=false:=qNh (by omega)
   cases ft
   ·exact .inr ⟨3,x4 [(35,.N t.cnt),(36,.y (4096-(t.cnt:Int))),(37,.r (NR.p ⟨k,i,tk,te,es,true,false⟩)),(48,.H)] qUg g3 g4 g1 g5⟩
   ·obtain⟨x,hx,e1,e2,e3⟩:=g2 rfl rfl
    obtain⟨rfl,rfl,rfl,rfl,rfl⟩:=zY4 hx
    have g6:=qZg (a:=n) (b:=1) (by omega)
    rcases ih (n+1) (by omega) x (by omega) (by rw [Nat.add_mul];omega) (by omega) with ⟨y,j,h4,h5⟩|⟨e,h4⟩
    ·exact .inl ⟨y,j,n6 [(35,.N t.cnt),(36,.y (4096-(t.cnt:Int))),(37,.r (NR.p (.of x true))),(48,.H),(31,.ok)] qUf g3 g4 g1 g5 g6 h4,h5⟩
    ·exact .inr ⟨e,n6 [(35,.N t.cnt),(36,.y (4096-(t.cnt:Int))),(37,.r (NR.p (.of x true))),(48,.H),(31,.ok)] qUf g3 g4 g1 g5 g6 h4⟩
inductive NF where
 | ok (x:Tm) (n:Nat)
 | er (e:Nat)
def NF.k:NF→Nat
 | .ok x _=>x.kd
 | .er _=>0
def NF.i:NF→Nat
 | .ok x _=>x.ix
 | .er _=>0
def NF.tk:NF→Nat
 | .ok x _=>x.tk
 | .er _=>0
def NF.te:NF→List (List PV)
 | .ok x _=>x.te
 | .er _=>[]
def NF.es:NF→List (List PV)
 | .ok x _=>x.es
 | .er _=>[]
def NF.n:NF→Nat
 | .ok _ n=>n
 | .er _=>0
def NF.e:NF→Nat
 | .ok _ _=>0
 | .er e=>e+1
def NF.p (r:NF):PV:=.tuple [.agg [num r.k,num r.i,num r.tk,.slice r.te,.slice r.es],num r.n,num r.e]
def NF.Good (t:Tm):NF→Prop
 | .ok x _=>x.cnt≤4096∧x.mx≤t.mx+1001 * 4096∧x.tsz≤t.tsz
 | .er _=>True
theorem zCf (t:Tm) (h1:t.cnt≤big) (h2:t.mx+1001 * 4096≤mid * mid) (h3:t.tsz≤mid):∃ r:NF,A 281 [t.p,num 1000] r.p∧r.Good t:=by
 have hm:=qQc
 have hb:=qQh
 have g1:=a31 t (by omega) h1
 by_cases hc:t.shp=true∧t.cnt≤4096
 ·have e1:t.chk=0:=by
   unfold Tm.chk
   rw [hc.1]
   simp only
   rw [qZv hc.2]
  rw [e1] at g1
  obtain⟨q,g2⟩:=qP8 t 536870912
  cases q
  ·exact⟨.er 0,f2 [(13,.N 0),(26,.F)] g1 g2,trivial⟩
  ·rcases zWw 1000 t.mx t.tsz (by omega) h3 (by omega) 1000 0 rfl t hc.2 (by omega) (Nat.le_refl _) with ⟨x,k,h4,h5,h6,h7,h8⟩|⟨e,h4⟩
   ·exact⟨.ok x k,f3 [(13,.N 0),(26,.T),(100008,.l qUf .ret (zCe k 0 x.c))] g1 g2 h4,h5,by omega,h7⟩
   ·exact⟨.er e,f3 [(13,.N 0),(26,.T),(100008,.l qUf .ret (zCe 0 (e+1) kz))] g1 g2 h4,trivial⟩
 ·have e1:t.chk=2∨t.chk=4:=by
   unfold Tm.chk
   cases e:t.shp
   ·exact .inl rfl
   ·simp only
    rw [qQy (by have h:t.cnt > 4096:=Nat.lt_of_not_le (fun h=>hc ⟨e,h⟩);exact h)]
    exact .inr rfl
  rcases e1 with e1|e1<;>rw [e1] at g1
  ·exact⟨.er 1,f1 [(13,.N 2)] g1,trivial⟩
  ·exact⟨.er 3,f1 [(13,.N 4)] g1,trivial⟩
theorem zGg (a b:Tm) (h1:a.cnt≤big) (h2:a.mx+1001 * 4096≤mid * mid) (h3:a.tsz≤mid) (h4:b.cnt≤big) (h5:b.mx+1001 * 4096≤mid * mid) (h6:b.tsz≤mid):∃ e,A 278 [a.p,b.p,num 1000] (num e):=by
 have hm:=qQc
 have hb:=qQh
 have g1:=a31 a (by omega) h1
 have g2:=a31 b (by omega) h4
 cases e1:a.chk with
 | succ n=>rw [e1] at g1;exact⟨n+1,f1 [(15,.N (n+1))] g1⟩
 | zero =>
  rw [e1] at g1
  cases e2:b.chk with
  | succ n=>rw [e2] at g2;exact⟨n+1,f2 [(15,.N 0),(20,.N (n+1))] g1 g2⟩
  | zero =>
   rw [e2] at g2
   obtain⟨q,g3⟩:=qUc a b
   cases q
   rotate_left
   ·exact⟨0,f3 [(15,.N 0),(20,.N 0),(26,.T)] g1 g2 g3⟩
   obtain⟨r,g4,_⟩:=zCf a h1 h2 h3
   obtain⟨s,g5,_⟩:=zCf b h4 h5 h6
   cases r with
   | er e=>exact⟨e+1,f4 [(15,.N 0),(20,.N 0),(26,.F),(30,.r (NF.er e).p)] g1 g2 g3 g4⟩
   | ok x n =>
    cases s with
    | er e=>exact⟨e+1,f5 [(15,.N 0),(20,.N 0),(26,.F),(30,.r (NF.ok x n).p),(40,.r (NF.er e).p)] g1 g2 g3 g4 g5⟩
    | ok y m =>
     obtain⟨q,g6⟩:=qUc x y
     cases q
     ·exact⟨11,f6 [(15,.N 0),(20,.N 0),(26,.F),(30,.r (NF.ok x n).p),(40,.r (NF.ok y m).p),(49,.F)] g1 g2 g3 g4 g5 g6⟩
     ·exact⟨0,f6 [(15,.N 0),(20,.N 0),(26,.F),(30,.r (NF.ok x n).p),(40,.r (NF.ok y m).p),(49,.T)] g1 g2 g3 g4 g5 g6⟩
open Go.Lg
set_option maxRecDepth 100000
def qJr:Nat→Tm
 | 0 => .n0 .zero
 | n+1 => .n1 .succ (qJr n)
def plusT:Tm:=.lam .nat (.lam .nat (.n3 .re .nat (.v 1) (.lam .nat (.lam .nat (.n1 .succ (.v 0)))) (.v 0)))
def predT:Tm:=.lam .nat (.n3 .re .nat (.n0 .zero) (.lam .nat (.lam .nat (.v 1))) (.v 0))
def subT:Tm:=.lam .nat (.lam .nat (.n3 .re .nat (.v 1) (.lam .nat (.lam .nat (.n2 .app predT (.v 0)))) (.v 0)))
theorem a66 {n:Nat} (h:n<4):A 66 [num n] (.tuple [(qJr n).p,num 0]):=by
 match n,h with
 | 0,_=>exact f0 []
 | 1,_=>exact f0 []
 | 2,_=>exact f0 []
 | 3,_=>exact f0 []
theorem qP9 (t:Tm):A 133 [t.p] (Tm.lam .nat t).p:=f1 [(6,.r (Tm.lam .nat t).p)] (qVv .nat t)
theorem zD2 (a b c:Tm):A 134 [a.p,b.p,c.p] (Tm.n3 .re .nat a b c).p:=f1 [(12,.r (Tm.n3 .re .nat a b c).p)] (qIh .re .nat a b c)
theorem a82:A 82 [] plusT.p:=by
 let x1:=Tm.n1 .succ (.v 0)
 let x2:=Tm.lam .nat x1
 let x3:=Tm.lam .nat x2
 let x4:=Tm.n3 .re .nat (.v 1) x3 (.v 0)
 let x5:=Tm.lam .nat x4
 exact f6 [(4,.r x1.p),(5,.r x2.p),(6,.r x3.p),(8,.r x4.p),(9,.r x5.p),(10,.r plusT.p)] (qP6 5 (.v 0)) (qP9 x1) (qP9 x2) (zD2 (.v 1) x3 (.v 0)) (qP9 x4) (qP9 x5)
theorem zH0:A 135 [] predT.p:=by
 let x2:=Tm.lam .nat (.v 1)
 let x3:=Tm.lam .nat x2
 let x4:=Tm.n3 .re .nat (.n0 .zero) x3 (.v 0)
 exact f5 [(1,.r (Tm.n0 .zero).p),(3,.r x2.p),(4,.r x3.p),(6,.r x4.p),(7,.r predT.p)] (qP5 4) (qP9 (.v 1)) (qP9 x2) (zD2 (.n0 .zero) x3 (.v 0)) (qP9 x4)
theorem a83:A 83 [] subT.p:=by
 let x1:=Tm.n2 .app predT (.v 0)
 let x2:=Tm.lam .nat x1
 let x3:=Tm.lam .nat x2
 let x4:=Tm.n3 .re .nat (.v 1) x3 (.v 0)
 let x5:=Tm.lam .nat x4
 exact f7 [(2,.r predT.p),(5,.r x1.p),(6,.r x2.p),(7,.r x3.p),(9,.r x4.p),(10,.r x5.p),(11,.r subT.p)] zH0 (qX3 3 predT (.v 0)) (qP9 x1) (qP9 x2) (zD2 (.v 1) x3 (.v 0)) (qP9 x4) (qP9 x5)
abbrev zt:PV:=.agg [num 0,.slice []]
def Fm.cnt:Fm→Nat
 | .eq a b=>1+a.cnt+b.cnt
 | .bin _ f g=>1+f.cnt+g.cnt
 | .q _ _ f=>1+f.cnt
def Fm.mx:Fm→Nat
 | .eq a b=>max a.mx b.mx
 | .bin _ f g=>max f.mx g.mx
 | .q _ _ f=>f.mx
def Fm.tsz:Fm→Nat
 | .eq a b=>max a.tsz b.tsz
 | .bin _ f g=>max f.tsz g.tsz
 | .q _ s f=>max s.size f.tsz
theorem a64:∀ f:Fm,A 64 [f.p] f.p
 | .eq a b=>f3 [(12,.r zt),(24,.r a.p),(24,.r b.p)] qX2 (a65 a) (a65 b)
 | .bin k f g=>f3 [(12,.r zt),(39,.r f.p),(39,.r g.p)] qX2 (a64 f) (a64 g)
 | .q k s f=>f2 [(12,.r s.p),(39,.r f.p)] (qB7 s) (a64 f)
theorem a39 (k:FB) (f g:Fm):A 39 [num k.n,f.p,g.p] (Fm.bin k f g).p:=f2 [(9,.r f.p),(11,.r g.p)] (a64 f) (a64 g)
theorem a40 (k:FQ) (s:Ty) (f:Fm):A 40 [num k.n,s.p,f.p] (Fm.q k s f).p:=f2 [(9,.r s.p),(11,.r f.p)] (qB7 s) (a64 f)
theorem a43 (a b:Tm):A 43 [a.p,b.p] (Fm.eq a b).p:=f2 [(6,.r a.p),(8,.r b.p)] (a65 a) (a65 b)
theorem qIi:∀ f:Fm,f.cnt≤big→A 129 [f.p] (num f.cnt)
 | .eq a b,h=>by
  have h:1+a.cnt+b.cnt≤big:=h
  have hb:=qQh
  exact f4 [(17,.N a.cnt),(18,.ok),(17,.N b.cnt),(18,.ok)] (a87 a (by omega)) (qZg (a:=1) (b:=a.cnt) (by omega)) (a87 b (by omega)) (qZg (a:=1+a.cnt) (b:=b.cnt) h)
 | .bin k f g,h=>by
  have h:1+f.cnt+g.cnt≤big:=h
  have hb:=qQh
  exact f4 [(29,.N f.cnt),(30,.ok),(29,.N g.cnt),(30,.ok)] (qIi f (by omega)) (qZg (a:=1) (b:=f.cnt) (by omega)) (qIi g (by omega)) (qZg (a:=1+f.cnt) (b:=g.cnt) h)
 | .q k s f,h=>by
  have h:1+f.cnt≤big:=h
  exact f2 [(29,.N f.cnt),(30,.ok)] (qIi f (by omega)) (qZg (a:=1) (b:=f.cnt) h)
def Fm.shp:Fm→Bool
 | .eq a b=>a.shp && b.shp
 | .bin _ f g=>f.shp && g.shp
 | .q _ s f=>Nat.beq s.chk 0 && f.shp
theorem zZ7:∀ f:Fm,f.tsz≤mid→A 128 [f.p] (.bool f.shp)
 | .eq a b,h=>by
  have h:max a.tsz b.tsz≤mid:=h
  have hm:=qQc
  have hb:=qQh
  have h1:=a86 a (by omega)
  have h2:=a86 b (by omega)
  show A 128 [(Fm.eq a b).p] (.bool (a.shp && b.shp))
  cases e1:a.shp<;>rw [e1] at h1
  ·exact f2 [(14,.T),(27,.F)] qZa h1
  cases e2:b.shp<;>rw [e2] at h2
  ·exact f3 [(14,.T),(27,.T),(34,.F)] qZa h1 h2
  ·exact f3 [(14,.T),(27,.T),(34,.T)] qZa h1 h2
 | .bin k f g,h=>by
  have h:max f.tsz g.tsz≤mid:=h
  have h1:=zZ7 f (by omega)
  have h2:=zZ7 g (by omega)
  show A 128 [(Fm.bin k f g).p] (.bool (f.shp && g.shp))
  cases e1:f.shp<;>rw [e1] at h1
  ·cases k<;>exact f2 [(52,.T),(65,.F)] qZa h1
  cases e2:g.shp<;>rw [e2] at h2
  ·cases k<;>exact f3 [(52,.T),(65,.T),(72,.F)] qZa h1 h2
  ·cases k<;>exact f3 [(52,.T),(65,.T),(72,.T)] qZa h1 h2
 | .q k s f,h=>by
  have h:max s.size f.tsz≤mid:=h
  have hm:=qQc
  have hb:=qQh
  have h1:=a84 s (by omega)
  have h2:=zZ7 f (by omega)
  unfold Fm.shp
  rcases qZe s with e|e<;>rw [e] at h1 ⊢
  ·cases e1:f.shp<;>rw [e1] at h2
   ·cases k<;>exact f2 [(85,.N 0),(99,.F)] h1 h2
   ·cases k<;>exact f2 [(85,.N 0),(99,.T)] h1 h2
  ·cases k<;>exact f1 [(85,.N 4)] h1
def Fm.chk (f:Fm):Nat:=match f.shp with
 | false=>2
 | true=>match ltI (.ofNat 4096) (.ofNat f.cnt) with
  | true=>4
  | false=>0
theorem a75 (f:Fm) (h1:f.tsz≤mid) (h2:f.cnt≤big):A 75 [f.p] (num f.chk):=by
 have h3:=zZ7 f h1
 unfold Fm.chk
 cases e:f.shp<;>rw [e] at h3
 ·exact f1 [(4,.F)] h3
 ·simp only
  cases e1:ltI (.ofNat 4096) (.ofNat f.cnt)
  ·exact f3 [(4,.T),(7,.N f.cnt),(8,.H)] h3 (qIi f h2) e1
  ·exact f3 [(4,.T),(7,.N f.cnt),(8,.G)] h3 (qIi f h2) e1
theorem Fm.chk0 {f:Fm} (h:f.chk=0):f.cnt≤4096∧f.shp=true:=by
 unfold Fm.chk at h
 split at h
 ·cases h
 ·rename_i e1
  split at h
  ·cases h
  ·rename_i e
   refine⟨?_,e1⟩
   rw [qQs] at e
   have:=of_decide_eq_false e
   simp at this
   omega
def Fm.sh:Nat→Int→Fm→Fm
 | c,z,.eq a b => .eq (a.sh c z) (b.sh c z)
 | c,z,.bin k f g => .bin k (f.sh c z) (g.sh c z)
 | c,z,.q k s f => .q k s (f.sh (c+1) z)
theorem a53:∀ (f:Fm) (c:Nat) (z:Int),0≤c+z→z≤mid→f.mx≤mid * mid→c+f.cnt≤mid→A 53 [f.p,num c,.int z] (f.sh c z).p
 | .eq a b,c,z,h1,h2,h3,h4=>by
  have h3:max a.mx b.mx≤mid * mid:=h3
  have h4:c+(1+a.cnt+b.cnt)≤mid:=h4
  exact f2 [(29,.r (a.sh c z).p),(29,.r (b.sh c z).p)] (qNy a c z h1 h2 (by omega) (by omega)) (qNy b c z h1 h2 (by omega) (by omega))
 | .bin k f g,c,z,h1,h2,h3,h4=>by
  have h3:max f.mx g.mx≤mid * mid:=h3
  have h4:c+(1+f.cnt+g.cnt)≤mid:=h4
  have hm:=qQc
  have h5:=inN (show c≤_ by omega)
  have h6:=a53 f c z h1 h2 (by omega) (by omega)
  have h7:=a53 g c z h1 h2 (by omega) (by omega)
  cases k<;>exact f4 [(47,.ok),(49,.r (f.sh c z).p),(47,.ok),(49,.r (g.sh c z).p)] h5 h6 h5 h7
 | .q k s f,c,z,h1,h2,h3,h4=>by
  have h4:c+(1+f.cnt)≤mid:=h4
  have hm:=qQc
  have h5:=inN (show c+1≤_ by omega)
  have h6:=a53 f (c+1) z (by omega) h2 h3 (by omega)
  cases k<;>exact f2 [(47,.ok),(49,.r (f.sh (c+1) z).p)] h5 h6
theorem qQt (z:Int):∀ (f:Fm) (c:Nat),(f.sh c z).cnt=f.cnt
 | .eq a b,c=>by simp only [Fm.sh,Fm.cnt,qQu]
 | .bin k f g,c=>by simp only [Fm.sh,Fm.cnt,qQt z f,qQt z g]
 | .q k s f,c=>by simp only [Fm.sh,Fm.cnt,qQt z f]
theorem qQv (z:Int):∀ (f:Fm) (c:Nat),(f.sh c z).tsz=f.tsz
 | .eq a b,c=>by simp only [Fm.sh,Fm.tsz,qQ7]
 | .bin k f g,c=>by simp only [Fm.sh,Fm.tsz,qQv z f,qQv z g]
 | .q k s f,c=>by simp only [Fm.sh,Fm.tsz,qQv z f]
theorem qJ8 (z:Int):∀ (f:Fm) (c:Nat),(f.sh c z).mx≤f.mx+z.toNat
 | .eq a b,c=>by have:=qKy z a c;have:=qKy z b c;simp only [Fm.sh,Fm.mx];omega
 | .bin k f g,c=>by have:=qJ8 z f c;have:=qJ8 z g c;simp only [Fm.sh,Fm.mx];omega
 | .q k s f,c=>qJ8 z f (c+1)
theorem zY5:∀ (f:Fm) (c:Nat),c+f.cnt≤mid→∃ r,A 228 [f.p,num c] (.bool r)
 | .eq a b,c,h=>by
  have h:c+(1+a.cnt+b.cnt)≤mid:=h
  obtain⟨r,h1⟩:=qUd a c (by omega)
  obtain⟨q,h2⟩:=qUd b c (by omega)
  cases r
  ·cases q
   ·exact⟨false,f2 [(18,.F),(18,.F)] h1 h2⟩
   ·exact⟨true,f2 [(18,.F),(18,.T)] h1 h2⟩
  ·exact⟨true,f1 [(18,.T)] h1⟩
 | .bin k f g,c,h=>by
  have h:c+(1+f.cnt+g.cnt)≤mid:=h
  have hm:=qQc
  have h5:=inN (show c≤_ by omega)
  obtain⟨r,h1⟩:=zY5 f c (by omega)
  obtain⟨q,h2⟩:=zY5 g c (by omega)
  cases r
  ·cases q
   ·cases k<;>exact⟨false,f4 [(31,.ok),(32,.F),(31,.ok),(32,.F)] h5 h1 h5 h2⟩
   ·cases k<;>exact⟨true,f4 [(31,.ok),(32,.F),(31,.ok),(32,.T)] h5 h1 h5 h2⟩
  ·cases k<;>exact⟨true,f2 [(31,.ok),(32,.T)] h5 h1⟩
 | .q k s f,c,h=>by
  have h:c+(1+f.cnt)≤mid:=h
  have hm:=qQc
  have h5:=inN (show c+1≤_ by omega)
  obtain⟨r,h1⟩:=zY5 f (c+1) (by omega)
  cases r
  ·cases k<;>exact⟨false,f2 [(31,.ok),(32,.F)] h5 h1⟩
  ·cases k<;>exact⟨true,f2 [(31,.ok),(32,.T)] h5 h1⟩
theorem zCg:∀ (f:Fm) (n:Nat),∃ r,A 307 [f.p,num n] (.bool r)
 | .eq a b,c=>by
  obtain⟨r,h1⟩:=qP8 a c
  obtain⟨q,h2⟩:=qP8 b c
  cases r
  ·exact⟨false,f1 [(18,.F)] h1⟩
  cases q
  ·exact⟨false,f2 [(18,.T),(18,.F)] h1 h2⟩
  ·exact⟨true,f2 [(18,.T),(18,.T)] h1 h2⟩
 | .bin k f g,c=>by
  obtain⟨r,h1⟩:=zCg f c
  obtain⟨q,h2⟩:=zCg g c
  cases r
  ·exact⟨false,f1 [(30,.F)] h1⟩
  cases q
  ·exact⟨false,f2 [(30,.T),(30,.F)] h1 h2⟩
  ·exact⟨true,f2 [(30,.T),(30,.T)] h1 h2⟩
 | .q k s f,c=>by
  obtain⟨r,h1⟩:=zCg f c
  cases r
  ·exact⟨false,f1 [(30,.F)] h1⟩
  ·exact⟨true,f1 [(30,.T)] h1⟩
open Go.Lg
set_option maxRecDepth 100000
def Fm.put:Fm→Nat→Tm→Nat→Fm
 | .eq a b,c,s,d => .eq (a.put c s d) (b.put c s d)
 | .bin k f g,c,s,d => .bin k (f.put c s d) (g.put c s d)
 | .q k u f,c,s,d => .q k u (f.put c s (d+1))
def Fm.occ:Nat→Fm→Nat
 | c,.eq a b=>a.occ c+b.occ c
 | c,.bin _ f g=>f.occ c+g.occ c
 | c,.q _ _ f=>f.occ (c+1)
theorem qVh:∀ (f:Fm) (c:Nat),f.occ c≤f.cnt
 | .eq a b,c=>by have:=qQz a c;have:=qQz b c;simp only [Fm.occ,Fm.cnt];omega
 | .bin k f g,c=>by have:=qVh f c;have:=qVh g c;simp only [Fm.occ,Fm.cnt];omega
 | .q k s f,c=>by have:=qVh f (c+1);simp only [Fm.occ,Fm.cnt];omega
theorem qKc (c:Nat) (s:Tm):∀ (f:Fm) (d:Nat),(f.put c s d).cnt+f.occ (c+d)=f.cnt+f.occ (c+d) * s.cnt
 | .eq a b,d=>by have:=qJn c s a d;have:=qJn c s b d;simp only [Fm.put,Fm.occ,Fm.cnt,Nat.add_mul];omega
 | .bin k f g,d=>by have:=qKc c s f d;have:=qKc c s g d;simp only [Fm.put,Fm.occ,Fm.cnt,Nat.add_mul];omega
 | .q k u f,d=>by have:=qKc c s f (d+1);simp only [Fm.put,Fm.occ,Fm.cnt,Nat.add_assoc] at this ⊢;omega
theorem qJp (c:Nat) (s:Tm):∀ (f:Fm) (d:Nat),(f.put c s d).tsz≤max f.tsz s.tsz
 | .eq a b,d=>by have:=qVg c s a d;have:=qVg c s b d;simp only [Fm.put,Fm.tsz];omega
 | .bin k f g,d=>by have:=qJp c s f d;have:=qJp c s g d;simp only [Fm.put,Fm.tsz];omega
 | .q k u f,d=>by have:=qJp c s f (d+1);simp only [Fm.put,Fm.tsz];omega
theorem qV9 (c:Nat) (s:Tm):∀ (f:Fm) (d:Nat),(f.put c s d).mx≤max f.mx (s.mx+(c+d+f.cnt))
 | .eq a b,d=>by have:=qWq c s a d;have:=qWq c s b d;simp only [Fm.put,Fm.mx,Fm.cnt];omega
 | .bin k f g,d=>by have:=qV9 c s f d;have:=qV9 c s g d;simp only [Fm.put,Fm.mx,Fm.cnt];omega
 | .q k u f,d=>by have:=qV9 c s f (d+1);simp only [Fm.put,Fm.mx,Fm.cnt];omega
theorem zCh:∀ (f:Fm) (c d:Nat) (s:Tm),s.mx≤mid * mid→s.cnt≤mid→f.mx≤mid * mid→c+d+f.cnt≤mid→A 310 [f.p,num c,num d,s.p] (f.put c s d).p
 | .eq a b,c,d,s,h1,h2,h3,h4=>by
  have h3:max a.mx b.mx≤mid * mid:=h3
  have h4:c+d+(1+a.cnt+b.cnt)≤mid:=h4
  exact f2 [(32,.r (a.put c s d).p),(32,.r (b.put c s d).p)] (qSy a c d s h1 h2 (by omega) (by omega)) (qSy b c d s h1 h2 (by omega) (by omega))
 | .bin k f g,c,d,s,h1,h2,h3,h4=>by
  have h3:max f.mx g.mx≤mid * mid:=h3
  have h4:c+d+(1+f.cnt+g.cnt)≤mid:=h4
  have hm:=qQc
  have h5:=inN (show d≤_ by omega)
  have h6:=zCh f c d s h1 h2 (by omega) (by omega)
  have h7:=zCh g c d s h1 h2 (by omega) (by omega)
  cases k<;>exact f4 [(51,.ok),(53,.r (f.put c s d).p),(51,.ok),(53,.r (g.put c s d).p)] h5 h6 h5 h7
 | .q k u f,c,d,s,h1,h2,h3,h4=>by
  have h4:c+d+(1+f.cnt)≤mid:=h4
  have hm:=qQc
  have h5:=inN (show d+1≤_ by omega)
  have h6:=zCh f c (d+1) s h1 h2 h3 (by omega)
  cases k<;>exact f2 [(51,.ok),(53,.r (f.put c s (d+1)).p)] h5 h6
theorem zWx {n:Nat} (h:n≤big):inB (Int.ofNat 0 + .ofNat n)=true∧Int.ofNat 0 + .ofNat n = .ofNat n:=by
 have e:Int.ofNat 0 + .ofNat n = .ofNat n:=by simp
 exact⟨by rw [e];exact inb h,e⟩
theorem zCi:∀ (f:Fm) (c:Nat),c+f.cnt≤mid→A 309 [f.p,num c] (num (f.occ c))
 | .eq a b,c,h=>by
  have h:c+(1+a.cnt+b.cnt)≤mid:=h
  have hm:=qQc
  have hb:=qQh
  have u1:=qQz a c
  have u2:=qQz b c
  exact f4 [(20,.N (a.occ c)),(21,.z (a.occ c)),(20,.N (b.occ c)),(21,.ok)] (qSx a c (by omega)) (zWx (n:=a.occ c) (by omega)) (qSx b c (by omega)) (qZg (a:=a.occ c) (b:=b.occ c) (by omega))
 | .bin k f g,c,h=>by
  have h:c+(1+f.cnt+g.cnt)≤mid:=h
  have hm:=qQc
  have hb:=qQh
  have u1:=qVh f c
  have u2:=qVh g c
  have h5:=inN (show c≤_ by omega)
  have h6:=zCi f c (by omega)
  have h7:=zCi g c (by omega)
  have h8:=zWx (n:=f.occ c) (by omega)
  have h9:=qZg (a:=f.occ c) (b:=g.occ c) (by omega)
  cases k<;>exact f6 [(35,.ok),(36,.N (f.occ c)),(37,.z (f.occ c)),(35,.ok),(36,.N (g.occ c)),(37,.ok)] h5 h6 h8 h5 h7 h9
 | .q k s f,c,h=>by
  have h:c+(1+f.cnt)≤mid:=h
  have hm:=qQc
  have hb:=qQh
  have u1:=qVh f (c+1)
  have h5:=inN (show c+1≤_ by omega)
  have h6:=zCi f (c+1) (by omega)
  have h8:=zWx (n:=f.occ (c+1)) (by omega)
  cases k<;>exact f3 [(35,.ok),(36,.N (f.occ (c+1))),(37,.z (f.occ (c+1)))] h5 h6 h8
theorem zD3 (g:List Ty) (t:Tm) (hg:∀ s∈g,s.size≤mid) (h1:t.tsz≤mid) (h2:g.length+t.cnt≤mid):∃ r:TR,A 277 [tys g,t.p] r.p∧r.sz≤mid ∧ ∀ s,r = .ok s→t.chk=0:=by
 have hm:=qQc
 have hb:=qQh
 have g1:=a31 t (by omega) (by omega)
 cases e:t.chk with
 | succ n=>rw [e] at g1;exact⟨.er n,f1 [(8,.N (n+1))] g1,Nat.zero_le _,fun _ h=>by cases h⟩
 | zero =>
  rw [e] at g1
  obtain⟨r,g2,g3⟩:=zZ5 t g hg h1 h2
  exact⟨r,f2 [(8,.N 0),(15,.r r.p)] g1 g2,g3,fun _ _=>rfl⟩
theorem qGm (g:List Ty):∃ n,qNg g=n:=⟨_,rfl⟩
theorem zD4 (g:List Ty) (t:Tm) (hg:∀ s∈g,s.size≤mid) (h1:t.tsz≤mid) (h2:g.length+t.cnt≤mid):∃ r:TR,A 224 [tys g,t.p] r.p∧r.sz≤mid ∧ ∀ s,r = .ok s→t.chk=0:=by
 have hm:=qQc
 have hb:=qQh
 have g1:=a29 g (fun s hs=>by have:=hg s hs;omega)
 cases e:qNg g with
 | succ n=>rw [e] at g1;exact⟨.er n,f1 [(8,.N (n+1))] g1,Nat.zero_le _,fun _ h=>by cases h⟩
 | zero =>
  rw [e] at g1
  obtain⟨r,g2,g3⟩:=zD3 g t hg h1 h2
  exact⟨r,f2 [(8,.N 0),(15,.r r.p)] g1 g2,g3⟩
theorem TR.cases' (r:TR):(∃ n,r = .er n)∨(∃ s,r = .ok s∧s.kd=1) ∨ ∃ s,r = .ok s∧s.kd≠1:=by
 cases r with
 | er n=>exact .inl ⟨n,rfl⟩
 | ok s =>
  by_cases h:s.kd=1
  ·exact .inr (.inl ⟨s,rfl,h⟩)
  ·exact .inr (.inr ⟨s,rfl,h⟩)
theorem qJc {m n:Nat} (h:m=n):(!eqI (.ofNat m) (.ofNat n))=false:=by rw [h];exact qWb n
theorem zCj:∀ (f:Fm) (g:List Ty),(∀ s∈g,s.size≤mid)→f.tsz≤mid→g.length+f.cnt≤mid→∃ e,A 219 [tys g,f.p] (num e)
 | .eq a b,g,hg,ht,hl=>by
  have ht:max a.tsz b.tsz≤mid:=ht
  have hl:g.length+(1+a.cnt+b.cnt)≤mid:=hl
  obtain⟨r,h1,_⟩:=zD3 g a hg (by omega) (by omega)
  obtain⟨q,h2,_⟩:=zD3 g b hg (by omega) (by omega)
  rcases r.cases' with ⟨n,rfl⟩|⟨s,rfl,e1⟩|⟨s,rfl,e1⟩
  ·exact⟨n+1,f1 [(22,.r (TR.er n).p)] h1⟩
  ·rcases q.cases' with ⟨n,rfl⟩|⟨u,rfl,e2⟩|⟨u,rfl,e2⟩
   ·exact⟨n+1,f3 [(22,.r (TR.ok s).p),(30,.H),(22,.r (TR.er n).p)] h1 (qJc e1) h2⟩
   ·exact⟨0,f4 [(22,.r (TR.ok s).p),(30,.H),(22,.r (TR.ok u).p),(30,.H)] h1 (qJc e1) h2 (qJc e2)⟩
   ·exact⟨7,f4 [(22,.r (TR.ok s).p),(30,.H),(22,.r (TR.ok u).p),(30,.G)] h1 (qJc e1) h2 (qX4 e2)⟩
  ·exact⟨7,f2 [(22,.r (TR.ok s).p),(30,.G)] h1 (qX4 e1)⟩
 | .bin k f h,g,hg,ht,hl=>by
  have ht:max f.tsz h.tsz≤mid:=ht
  have hl:g.length+(1+f.cnt+h.cnt)≤mid:=hl
  obtain⟨e,h1⟩:=zCj f g hg (by omega) (by omega)
  obtain⟨e',h2⟩:=zCj h g hg (by omega) (by omega)
  cases e with
  | succ n=>cases k<;>exact⟨n+1,f1 [(54,.N (n+1))] h1⟩
  | zero=>cases e' with
   | succ n=>cases k<;>exact⟨n+1,f2 [(54,.N 0),(54,.N (n+1))] h1 h2⟩
   | zero=>cases k<;>exact⟨0,f2 [(54,.N 0),(54,.N 0)] h1 h2⟩
 | .q k s f,g,hg,ht,hl=>by
  have ht:max s.size f.tsz≤mid:=ht
  have hl:g.length+(1+f.cnt)≤mid:=hl
  have hm:=qQc
  obtain⟨e,h1⟩:=zCj f (g++[s]) (by intro u hu;rcases List.mem_append.1 hu with h|h;exact hg u h;simp at h;subst h;omega) (by omega) (by simp;omega)
  simp only [tys,List.map_append,List.map_cons,List.map_nil] at h1
  have h3:=qXl 2 32 Ty.c_len (by decide) g s (by omega) (by simp only [maxLen];omega)
  have h2:=qVw (g.map Ty.c).length
  cases e with
  | succ n=>cases k<;>exact⟨n+1,f3 [(40,.ok),(44,.ok),(54,.N (n+1))] h2 h3 h1⟩
  | zero=>cases k<;>exact⟨0,f3 [(40,.ok),(44,.ok),(54,.N 0)] h2 h3 h1⟩
theorem zCk (g:List Ty) (f:Fm) (hg:∀ s∈g,s.size≤mid) (h1:f.tsz≤mid) (h2:g.length+f.cnt≤mid):∃ e,A 152 [tys g,f.p] (num e)∧(e=0→f.chk=0):=by
 have hm:=qQc
 have hb:=qQh
 have g1:=a75 f h1 (by omega)
 cases e:f.chk with
 | succ n=>rw [e] at g1;exact⟨n+1,f1 [(7,.N (n+1))] g1,nofun⟩
 | zero =>
  rw [e] at g1
  obtain⟨r,g2⟩:=zCj f g hg h1 h2
  exact⟨r,f2 [(7,.N 0),(13,.N r)] g1 g2,fun _=>rfl⟩
theorem zCl (g:List Ty) (f:Fm) (hg:∀ s∈g,s.size≤mid) (h1:f.tsz≤mid) (h2:g.length+f.cnt≤mid):∃ e,A 105 [tys g,f.p] (num e)∧(e=0→f.chk=0):=by
 have hm:=qQc
 have hb:=qQh
 have g1:=a29 g (fun s hs=>by have:=hg s hs;omega)
 cases e:qNg g with
 | succ n=>rw [e] at g1;exact⟨n+1,f1 [(7,.N (n+1))] g1,nofun⟩
 | zero =>
  rw [e] at g1
  obtain⟨r,g2,g3⟩:=zCk g f hg h1 h2
  exact⟨r,f2 [(7,.N 0),(13,.N r)] g1 g2,g3⟩
end Go.Proofs.YtmcockinhpiomaaGreatDoor
