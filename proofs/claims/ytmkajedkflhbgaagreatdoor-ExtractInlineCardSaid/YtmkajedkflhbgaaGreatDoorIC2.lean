/- Contracts of functions; no conditions. -/
import Derived.Test.YtmkajedkflhbgaaGreatDoorIC1
import Derived.Test.YtmkajedkflhbgaaGreatDoorIB3
set_option linter.all false
namespace Go.Proofs.YtmkajedkflhbgaaGreatDoor
open Go.Lg
set_option maxRecDepth 100000
noncomputable def fl:List Func:=[Tryz.f0,Tryz.f1,Tryz.f2,Tryz.f3,Tryz.f4,Tryz.f5,Tryz.f6,Tryz.f7,Tryz.f8,Tryz.f9,Tryz.f10,Tryz.f11,Tryz.f12,Tryz.f13,Tryz.f14,Tryz.f15,Tryz.f16,Tryz.f17,Tryz.f18,Tryz.f19,Tryz.f20,Tryz.f21,Tryz.f22,Tryz.f23,Tryz.f24,Tryz.f25,Tryz.f26,Tryz.f27,Tryz.f28,Tryz.f29,Tryz.f30,Tryz.f31,Tryz.f32,Tryz.f33,Tryz.f34,Tryz.f35,Tryz.f36,Tryz.f37,Tryz.f38,Tryz.f39,Tryz.f40,Tryz.f41,Tryz.f42,Tryz.f43,Tryz.f44,Tryz.f45,Tryz.f46,Tryz.f47,Tryz.f48,Tryz.f49,Tryz.f50,Tryz.f51,Tryz.f52,Tryz.f53,Tryz.f54,Tryz.f55,Tryz.f56,Tryz.f57,Tryz.f58,Tryz.f59,Tryz.f60,Tryz.f61,Tryz.f62,Tryz.f63,Tryz.f64,Tryz.f65,Tryz.f66,Tryz.f67,Tryz.f68,Tryz.f69,Tryz.f70,Tryz.f71,Tryz.f72,Tryz.f73,Tryz.f74,Tryz.f75,Tryz.f76,Tryz.f77,Tryz.f78,Tryz.f79,Tryz.f80,Tryz.f81,Tryz.f82,Tryz.f83,Tryz.f84,Tryz.f85,Tryz.f86,Tryz.f87,Tryz.f88,Tryz.f89,Tryz.f90,Tryz.f91,Tryz.f92,Tryz.f93,Tryz.f94,Tryz.f95,Tryz.f96,Tryz.f97,Tryz.f98,Tryz.f99,Tryz.f100,Tryz.f101,Tryz.f102,Tryz.f103,Tryz.f104,Tryz.f105,Tryz.f106,Tryz.f107,Tryz.f108,Tryz.f109,Tryz.f110,Tryz.f111,Tryz.f112,Tryz.f113,Tryz.f114,Tryz.f115,Tryz.f116,Tryz.f117,Tryz.f118,Tryz.f119,Tryz.f120,Tryz.f121,Tryz.f122,Tryz.f123,Tryz.f124,Tryz.f125,Tryz.f126,Tryz.f127,Tryz.f128,Tryz.f129,Tryz.f130,Tryz.f131,Tryz.f132,Tryz.f133,Tryz.f134,Tryz.f135,Tryz.f136,Tryz.f137,Tryz.f138,Tryz.f139,Tryz.f140,Tryz.f141,Tryz.f142,Tryz.f143,Tryz.f144,Tryz.f145,Tryz.f146,Tryz.f147,Tryz.f148,Tryz.f149,Tryz.f150,Tryz.f151,Tryz.f152,Tryz.f153,Tryz.f154,Tryz.f155,Tryz.f156,Tryz.f157,Tryz.f158,Tryz.f159,Tryz.f160,Tryz.f161,Tryz.f162,Tryz.f163,Tryz.f164,Tryz.f165,Tryz.f166,Tryz.f167,Tryz.f168,Tryz.f169,Tryz.f170,Tryz.f171,Tryz.f172,Tryz.f173,Tryz.f174,Tryz.f175,Tryz.f176,Tryz.f177,Tryz.f178,Tryz.f179,Tryz.f180,Tryz.f181,Tryz.f182,Tryz.f183,Tryz.f184,Tryz.f185,Tryz.f186,Tryz.f187,Tryz.f188,Tryz.f189,Tryz.f190,Tryz.f191,Tryz.f192,Tryz.f193,Tryz.f194,Tryz.f195,Tryz.f196,Tryz.f197,Tryz.f198,Tryz.f199,Tryz.f200,Tryz.f201,Tryz.f202,Tryz.f203,Tryz.f204,Tryz.f205,Tryz.f206,Tryz.f207,Tryz.f208,Tryz.f209,Tryz.f210,Tryz.f211,Tryz.f212,Tryz.f213,Tryz.f214,Tryz.f215,Tryz.f216,Tryz.f217,Tryz.f218,Tryz.f219,Tryz.f220,Tryz.f221,Tryz.f222,Tryz.f223,Tryz.f224,Tryz.f225,Tryz.f226,Tryz.f227,Tryz.f228,Tryz.f229,Tryz.f230,Tryz.f231,Tryz.f232,Tryz.f233,Tryz.f234,Tryz.f235,Tryz.f236,Tryz.f237,Tryz.f238,Tryz.f239,Tryz.f240,Tryz.f241,Tryz.f242,Tryz.f243,Tryz.f244,Tryz.f245,Tryz.f246,Tryz.f247,Tryz.f248,Tryz.f249,Tryz.f250,Tryz.f251,Tryz.f252,Tryz.f253,Tryz.f254,Tryz.f255,Tryz.f256,Tryz.f257,Tryz.f258,Tryz.f259,Tryz.f260,Tryz.f261,Tryz.f262,Tryz.f263,Tryz.f264,Tryz.f265,Tryz.f266,Tryz.f267,Tryz.f268,Tryz.f269,Tryz.f270,Tryz.f271,Tryz.f272,Tryz.f273,Tryz.f274,Tryz.f275,Tryz.f276,Tryz.f277,Tryz.f278,Tryz.f279,Tryz.f280,Tryz.f281,Tryz.f282,Tryz.f283,Tryz.f284,Tryz.f285,Tryz.f286,Tryz.f287,Tryz.f288,Tryz.f289,Tryz.f290,Tryz.f291,Tryz.f292,Tryz.f293,Tryz.f294,Tryz.f295,Tryz.f296,Tryz.f297,Tryz.f298,Tryz.f299,Tryz.f300,Tryz.f301,Tryz.f302,Tryz.f303,Tryz.f304,Tryz.f305,Tryz.f306,Tryz.f307,Tryz.f308,Tryz.f309,Tryz.f310,Tryz.f311,Tryz.f312,Tryz.f313,Tryz.f314,Tryz.f315,Tryz.f316,Tryz.f317,Tryz.f318,Tryz.f319,Tryz.f320,Tryz.f321,Tryz.f322,Tryz.f323,Tryz.f324,Tryz.f325,Tryz.f326,Tryz.f327,Tryz.f328,Tryz.f329,Tryz.f330,Tryz.f331,Tryz.f332,Tryz.f333,Tryz.f334,Tryz.f335,Tryz.f336,Tryz.f337,Tryz.f338,Tryz.f339,Tryz.f340,Tryz.f341,Tryz.f342,Tryz.f343,Tryz.f344,Tryz.f345,Tryz.f346,Tryz.f347,Tryz.f348,Tryz.f349,Tryz.f350,Tryz.f351,Tryz.f352,Tryz.f353,Tryz.f354,Tryz.f355,Tryz.f356,Tryz.f357,Tryz.f358,Tryz.f359,Tryz.f360,Tryz.f361,Tryz.f362,Tryz.f363,Tryz.f364,Tryz.f365,Tryz.f366,Tryz.f367,Tryz.f368,Tryz.f369,Tryz.f370,Tryz.f371,Tryz.f372,Tryz.f373,Tryz.f374,Tryz.f375,Tryz.f376,Tryz.f377,Tryz.f378,Tryz.f379]
noncomputable def F (f:Nat):Option Func:=QB fl f
def deB:List PV:=[.num .u8 (.ofNat 0),.num .u8 (.ofNat 1),.num .u8 (.ofNat 28),.num .u8 (.ofNat 2),.num .u8 (.ofNat 29),.num .u8 (.ofNat 14),.num .u8 (.ofNat 24),.num .u8 (.ofNat 3),.num .u8 (.ofNat 30),.num .u8 (.ofNat 22),.num .u8 (.ofNat 20),.num .u8 (.ofNat 15),.num .u8 (.ofNat 25),.num .u8 (.ofNat 17),.num .u8 (.ofNat 4),.num .u8 (.ofNat 8),.num .u8 (.ofNat 31),.num .u8 (.ofNat 27),.num .u8 (.ofNat 13),.num .u8 (.ofNat 23),.num .u8 (.ofNat 21),.num .u8 (.ofNat 19),.num .u8 (.ofNat 16),.num .u8 (.ofNat 7),.num .u8 (.ofNat 26),.num .u8 (.ofNat 12),.num .u8 (.ofNat 18),.num .u8 (.ofNat 6),.num .u8 (.ofNat 11),.num .u8 (.ofNat 5),.num .u8 (.ofNat 10),.num .u8 (.ofNat 9)]
def arB:List PV:=[.int (.ofNat 0),.int (.ofNat 0),.int (.ofNat 1),.int (.ofNat 2),.int (.ofNat 0),.int (.ofNat 1),.int (.ofNat 3),.int (.ofNat 0),.int (.ofNat 2),.int (.ofNat 3),.int (.ofNat 2),.int (.ofNat 1),.int (.ofNat 1),.int (.ofNat 0)]
def rlB:List PV:=[.bool false,.bool false,.int (.ofNat 0),.int (.ofNat 0),.int (.ofNat 0),.int (.ofNat 0),.int (.ofNat 0),.int (.ofNat 0),.bool true,.bool false,.int (.ofNat 0),.int (.ofNat 0),.int (.ofNat 0),.int (.ofNat 0),.int (.ofNat 0),.int (.ofNat 0),.bool true,.bool false,.int (.ofNat 0),.int (.ofNat 0),.int (.ofNat 0),.int (.ofNat 0),.int (.ofNat 0),.int (.ofNat 0),.bool false,.bool false,.int (.ofNat 0),.int (.ofNat 0),.int (.ofNat 2),.int (.ofNat 0),.int (.ofNat 0),.int (.ofNat 0),.bool false,.bool false,.int (.ofNat 0),.int (.ofNat 0),.int (.ofNat 1),.int (.ofNat 0),.int (.ofNat 0),.int (.ofNat 0),.bool false,.bool false,.int (.ofNat 0),.int (.ofNat 0),.int (.ofNat 1),.int (.ofNat 0),.int (.ofNat 0),.int (.ofNat 0),.bool false,.bool false,.int (.ofNat 0),.int (.ofNat 1),.int (.ofNat 1),.int (.ofNat 0),.int (.ofNat 0),.int (.ofNat 1),.bool false,.bool false,.int (.ofNat 0),.int (.ofNat 0),.int (.ofNat 2),.int (.ofNat 0),.int (.ofNat 0),.int (.ofNat 0),.bool false,.bool true,.int (.ofNat 0),.int (.ofNat 0),.int (.ofNat 1),.int (.ofNat 0),.int (.ofNat 1),.int (.ofNat 0),.bool false,.bool false,.int (.ofNat 1),.int (.ofNat 0),.int (.ofNat 1),.int (.ofNat 0),.int (.ofNat 0),.int (.ofNat 0),.bool false,.bool false,.int (.ofNat 1),.int (.ofNat 1),.int (.ofNat 1),.int (.ofNat 0),.int (.ofNat 0),.int (.ofNat 0),.bool false,.bool false,.int (.ofNat 0),.int (.ofNat 0),.int (.ofNat 2),.int (.ofNat 0),.int (.ofNat 1),.int (.ofNat 1),.bool false,.bool true,.int (.ofNat 0),.int (.ofNat 0),.int (.ofNat 1),.int (.ofNat 0),.int (.ofNat 1),.int (.ofNat 0),.bool false,.bool false,.int (.ofNat 1),.int (.ofNat 0),.int (.ofNat 1),.int (.ofNat 0),.int (.ofNat 0),.int (.ofNat 0),.bool false,.bool false,.int (.ofNat 1),.int (.ofNat 1),.int (.ofNat 1),.int (.ofNat 0),.int (.ofNat 0),.int (.ofNat 0),.bool false,.bool false,.int (.ofNat 0),.int (.ofNat 0),.int (.ofNat 2),.int (.ofNat 0),.int (.ofNat 1),.int (.ofNat 1),.bool false,.bool false,.int (.ofNat 1),.int (.ofNat 1),.int (.ofNat 2),.int (.ofNat 1),.int (.ofNat 1),.int (.ofNat 1),.bool false,.bool false,.int (.ofNat 1),.int (.ofNat 1),.int (.ofNat 2),.int (.ofNat 1),.int (.ofNat 2),.int (.ofNat 1),.bool false,.bool false,.int (.ofNat 1),.int (.ofNat 0),.int (.ofNat 0),.int (.ofNat 0),.int (.ofNat 0),.int (.ofNat 0),.bool false,.bool false,.int (.ofNat 0),.int (.ofNat 1),.int (.ofNat 2),.int (.ofNat 1),.int (.ofNat 0),.int (.ofNat 0),.bool false,.bool false,.int (.ofNat 0),.int (.ofNat 0),.int (.ofNat 1),.int (.ofNat 0),.int (.ofNat 0),.int (.ofNat 0)]
def gl:Nat->Option (List PV)
 | 0=>some deB
 | 1=>some arB
 | 2=>some rlB
 | _=>none
noncomputable def ev:jB:=⟨tt,gl,F,λ _ _=>none⟩
theorem Zm:Tryz.prog.funcs=fl.toArray:=by kernel_rfl
theorem zn : fl.all (λ fn => !(fn.name == "runtime.NumGoroutine")) = true := by kernel_rfl
theorem tH:KJ ev Tryz.prog:=by
 refine⟨dm,λ f fn h => ?_,λ f args x h=>(by cases h),fm⟩;have h:fl[f]? = some fn:=by rw [<- BG];exact h
 refine⟨by rw [Zm];simpa using h,?_⟩;have:=List.all_eq_true.1 zn fn (List.mem_of_getElem? h);simpa using this
abbrev num (n:Nat):PV:=.int (.ofNat n)
abbrev _root_.Go.Lg.De.N (n:Nat):De:=.r (num n)
inductive Ty where
 | nat|list|unit
 | two (k:Bool) (a b:Ty)
def Ty.kd:Ty->Nat
 | .nat=>1 | .list=>2 | .unit=>5 | .two k _ _=>match k with
  | true=>4
  | false=>3
def Ty.es:Ty->List (List PV)
 | .two _ a b=>[[num a.kd,.slice a.es],[num b.kd,.slice b.es]]
 | _=>[]
def Ty.c (t:Ty):List PV:=[num t.kd,.slice t.es]
def Ty.p (t:Ty):PV:=.agg t.c
abbrev _root_.Go.Lg.De.Y:De:=.r Ty.nat.p
inductive K0 where
 | zero|nil|unit
inductive K1 where
 | succ|fst|snd
inductive K2 where
 | app|cons|pair
inductive K3 where
 | re|fo
def K0.n:K0->Nat
 | .zero=>4 | .nil=>7 | .unit=>13
def K1.n:K1->Nat
 | .succ=>5 | .fst=>11 | .snd=>12
def K2.n:K2->Nat
 | .app=>3 | .cons=>8 | .pair=>10
def K3.n:K3->Nat
 | .re=>6 | .fo=>9
inductive Tm where
 | v (i:Nat)
 | lam (s:Ty) (b:Tm)
 | n0 (k:K0)
 | n1 (k:K1) (a:Tm)
 | n2 (k:K2) (a b:Tm)
 | n3 (k:K3) (s:Ty) (a b c:Tm)
def Tm.kd:Tm->Nat
 | .v _=>1 | .lam _ _=>2 | .n0 k=>k.n | .n1 k _=>k.n | .n2 k _ _=>k.n | .n3 k _ _ _ _=>k.n
def Tm.ix:Tm->Nat
 | .v i=>i
 | _=>0
def Tm.tk:Tm->Nat
 | .lam s _=>s.kd
 | .n3 _ s _ _ _=>s.kd
 | _=>0
def Tm.te:Tm->List (List PV)
 | .lam s _=>s.es
 | .n3 _ s _ _ _=>s.es
 | _=>[]
def Tm.es:Tm->List (List PV)
 | .lam _ b=>[[num b.kd,num b.ix,num b.tk,.slice b.te,.slice b.es]]
 | .n1 _ a=>[[num a.kd,num a.ix,num a.tk,.slice a.te,.slice a.es]]
 | .n2 _ a b=>[[num a.kd,num a.ix,num a.tk,.slice a.te,.slice a.es],[num b.kd,num b.ix,num b.tk,.slice b.te,.slice b.es]]
 | .n3 _ _ a b c=>[[num a.kd,num a.ix,num a.tk,.slice a.te,.slice a.es],[num b.kd,num b.ix,num b.tk,.slice b.te,.slice b.es],[num c.kd,num c.ix,num c.tk,.slice c.te,.slice c.es]]
 | _=>[]
def Tm.c (t:Tm):List PV:=[num t.kd,num t.ix,num t.tk,.slice t.te,.slice t.es]
def Tm.p (t:Tm):PV:=.agg t.c
inductive FB where
 | and|imp
inductive FQ where
 | all|ex|allU|exU
def FB.n:FB->Nat
 | .and=>2 | .imp=>3
def FQ.n:FQ->Nat
 | .all=>4 | .ex=>5 | .allU=>6 | .exU=>7
inductive Fm where
 | eq (a b:Tm)
 | bin (k:FB) (f g:Fm)
 | q (k:FQ) (s:Ty) (f:Fm)
def Fm.kd:Fm->Nat
 | .eq _ _=>1 | .bin k _ _=>k.n | .q k _ _=>k.n
def Fm.tk:Fm->Nat
 | .q _ s _=>s.kd
 | _=>0
def Fm.te:Fm->List (List PV)
 | .q _ s _=>s.es
 | _=>[]
def Fm.ts:Fm->List (List PV)
 | .eq a b=>[a.c,b.c]
 | _=>[]
def Fm.es:Fm->List (List PV)
 | .bin _ f g=>[[num f.kd,num f.tk,.slice f.te,.slice f.ts,.slice f.es],[num g.kd,num g.tk,.slice g.te,.slice g.ts,.slice g.es]]
 | .q _ _ f=>[[num f.kd,num f.tk,.slice f.te,.slice f.ts,.slice f.es]]
 | _=>[]
def Fm.c (f:Fm):List PV:=[num f.kd,num f.tk,.slice f.te,.slice f.ts,.slice f.es]
def Fm.p (f:Fm):PV:=.agg f.c
inductive P1 where
 | andL|andR|choice
inductive P2 where
 | andI|impE|exE|exUE
def P1.n:P1->Nat
 | .andL=>4 | .andR=>5 | .choice=>20
def P2.n:P2->Nat
 | .andI=>3 | .impE=>7 | .exE=>11 | .exUE=>15
def bn (b:Bool) (x y:Nat):Nat:=match b with
 | false=>x
 | true=>y
inductive Pf where
 | leaf (u:Bool) (i:Nat)
 | refl (t:Tm)
 | p1 (k:P1) (a:Pf)
 | p2 (k:P2) (a b:Pf)
 | impI (f:Fm) (a:Pf)
 | all (u:Bool) (s:Ty) (a:Pf)
 | ins (u:Bool) (t:Tm) (a:Pf)
 | ex (u:Bool) (f:Fm) (t:Tm) (a:Pf)
 | ind (l:Bool) (f:Fm) (t:Tm) (a b:Pf)
 | subst (f:Fm) (a b:Pf)
def Pf.kd:Pf->Nat
 | .leaf u _=>bn u 1 2
 | .refl _=>18
 | .p1 k _=>k.n
 | .p2 k _ _=>k.n
 | .impI _ _=>6
 | .all u _ _=>bn u 8 12
 | .ins u _ _=>bn u 9 13
 | .ex u _ _ _=>bn u 10 14
 | .ind l _ _ _ _=>bn l 16 17
 | .subst _ _ _=>19
def Pf.ix:Pf->Nat
 | .leaf _ i=>i
 | _=>0
def Pf.tk:Pf->Nat
 | .all _ s _=>s.kd
 | _=>0
def Pf.te:Pf->List (List PV)
 | .all _ s _=>s.es
 | _=>[]
def Pf.ts:Pf->List (List PV)
 | .refl t=>[t.c]
 | .ins _ t _=>[t.c]
 | .ex _ _ t _=>[t.c]
 | .ind _ _ t _ _=>[t.c]
 | _=>[]
def Pf.fs:Pf->List (List PV)
 | .impI f _=>[f.c]
 | .ex _ f _ _=>[f.c]
 | .ind _ f _ _ _=>[f.c]
 | .subst f _ _=>[f.c]
 | _=>[]
def Pf.es:Pf->List (List PV)
 | .p1 _ a=>[[num a.kd,num a.ix,num a.tk,.slice a.te,.slice a.ts,.slice a.fs,.slice a.es]]
 | .impI _ a=>[[num a.kd,num a.ix,num a.tk,.slice a.te,.slice a.ts,.slice a.fs,.slice a.es]]
 | .all _ _ a=>[[num a.kd,num a.ix,num a.tk,.slice a.te,.slice a.ts,.slice a.fs,.slice a.es]]
 | .ins _ _ a=>[[num a.kd,num a.ix,num a.tk,.slice a.te,.slice a.ts,.slice a.fs,.slice a.es]]
 | .ex _ _ _ a=>[[num a.kd,num a.ix,num a.tk,.slice a.te,.slice a.ts,.slice a.fs,.slice a.es]]
 | .p2 _ a b=>[[num a.kd,num a.ix,num a.tk,.slice a.te,.slice a.ts,.slice a.fs,.slice a.es],[num b.kd,num b.ix,num b.tk,.slice b.te,.slice b.ts,.slice b.fs,.slice b.es]]
 | .ind _ _ _ a b=>[[num a.kd,num a.ix,num a.tk,.slice a.te,.slice a.ts,.slice a.fs,.slice a.es],[num b.kd,num b.ix,num b.tk,.slice b.te,.slice b.ts,.slice b.fs,.slice b.es]]
 | .subst _ a b=>[[num a.kd,num a.ix,num a.tk,.slice a.te,.slice a.ts,.slice a.fs,.slice a.es],[num b.kd,num b.ix,num b.tk,.slice b.te,.slice b.ts,.slice b.fs,.slice b.es]]
 | _=>[]
def Pf.c (a:Pf):List PV:=[num a.kd,num a.ix,num a.tk,.slice a.te,.slice a.ts,.slice a.fs,.slice a.es]
def Pf.p (a:Pf):PV:=.agg a.c
abbrev A (f:Nat) (args:List PV) (x:PV):Prop:=AC Tryz.prog gl f (args.map .pv) [] (.ret (.pv x)) []
abbrev U (f:Nat) (args:List PV) (tp:Di) (x:PV):Prop:=wW ev Tryz.prog 100 6 f args tp x
section
variable {f:Nat} {args:List PV} {x:PV}
theorem fk (tp:Di) {B:Prop} (h:B) (e:B=U f args tp x:=by kernel_rfl):A f args x:=Db tH (e ▸ h)
end
abbrev O (f:Nat) (args:List V) (objs:List (Nat × Ob)) (x:V) (objs':List (Nat × Ob)):Prop:=AC Tryz.prog gl f args objs (.ret x) objs'
abbrev UO (f:Nat) (args:List V) (objs:List (Nat × Ob)) (m:Nat) (tp:Di) (x:V) (objs':List (Nat × Ob)):Prop:=Ta ev Tryz.prog 100 6 f args objs m tp x objs'
section
variable {f:Nat} {args:List V} {objs:List (Nat × Ob)} {x:V} {objs':List (Nat × Ob)}
theorem ok (m:Nat) (tp:Di) {B:Prop} (h:B) (e:B=UO f args objs m tp x objs':=by kernel_rfl):O f args objs x objs':=Gl tH (e ▸ h)
end
def PJ:Code->List Code
 | .loop b=>b::PJ b
 | .seq a b=>PJ a++PJ b
 | .cond _ a b=>PJ a++PJ b
 | .block _ b=>PJ b
 | .scope b=>PJ b
 | _=>[]
noncomputable def fnc (f:Nat):Func:=match QB fl f with
 | some fn=>fn
 | none=>Tryz.f0
noncomputable def OW (f i:Nat):Code:=match (fnc f).body with
 | some c=>match QB (PJ c) i with
  | some b=>b
  | none => .skip
 | none => .skip
abbrev st (sl:List (Nat × V)) (ob:List (Nat × Ob)) (nx:Nat) (dt:List Nat):IS:=⟨EG sl .nil,DB ob .nil,nx,dt⟩
abbrev Lp (f i bs:Nat) (s:IS) (e:AE) (s':IS):Prop:=LoopIs ev Tryz.prog (fnc f).ntmps bs (OW f i) s e s'
abbrev Rd (f i bs:Nat) (s:IS) (tp:Di) (ki ko:Kp) (e:AE) (s':IS):Prop:=Qa ev Tryz.prog 6 100 (fnc f).ntmps bs (OW f i) s tp ki ko e s'
theorem rk {f i bs:Nat} {s s':IS} {e:AE} (tp:Di) (ki ko:Kp) {B:Prop} (h:B) (q:B=Rd f i bs s tp ki ko e s':=by kernel_rfl):Lp f i bs s e s':=LoopIs.of_round tH (q ▸ h)
theorem eA {n:Nat} (h:n<=9223372036854775807:=by omega):rA (.ofNat n)=true:=Nat.ble_eq_true_of_le h
theorem aA {a b:Nat} (h:a<b:=by omega):kA (.ofNat a) (.ofNat b)=true:=by rw [KB];simpa using h
theorem CA {a b:Nat} (h:b<=a:=by omega):kA (.ofNat a) (.ofNat b)=false:=by rw [KB];simpa using h
theorem SC {α:Type} {g r:List α} {k:Nat} {t:α} (h:g.drop k=t::r):g[k]? = some t/\k<g.length/\g.drop (k+1)=r:=by
 have h1:g[k]? = some t:=by
  have:=congrArg (λ m=>m[0]?) h;simpa using this
 refine⟨h1,(List.getElem?_eq_some_iff.1 h1).1,?_⟩;rw [<- List.drop_drop,h];rfl
theorem TC {α:Type} {g:List α} {k:Nat} (h:g.drop k=[]):g.length<=k:=by simpa using h
abbrev kp (sl:List Nat):Kp:=⟨sl,[],0,[]⟩
theorem WM {n:Nat} : ∀ {l:List (List PV)},(∀ y∈l,y.length=n)->LB n l=true
 | [],_=>rfl
 | y::r,h=>by
  unfold LB;rw [vE (h y (by simp)),cond_true];exact WM λ z hz=>h z (by simp [hz])
theorem KA {α:Type} {c:α->List PV} {g:List α} {k:Nat} {t:α} {n:Nat} (h:g[k]? = some t) (hn:∀ t,(c t).length=n):QB (g.map c) k=some (c t)/\LB n (g.map c)=true:=by
 refine⟨by rw [BG,List.getElem?_map,h];rfl,WM ?_⟩;intro y hy;obtain⟨t,_,rfl⟩:=List.mem_map.1 hy;exact hn t
section
variable {f:Nat} {args:List PV} {x:PV} {ag:List V} {obs:List (Nat × Ob)} {y:V} {obs':List (Nat × Ob)} {i bs:Nat} {s s':IS} {e:AE} (m:Nat) (tp:Di) (ko:Kp) {H1 H2 H3 H4 H5 H6 H7 H8 H9 H10 H11 H12 H13 H14 H15 H16 H17 tE iB H20 H21 H22 H23 H24 H25 H26 H27 uM H29 N:Prop} (h1:H1) (h2:H2) (h3:H3) (h4:H4) (h5:H5) (h6:H6) (h7:H7) (h8:H8) (h9:H9) (h10:H10) (h11:H11) (h12:H12) (h13:H13) (h14:H14) (h15:H15) (h16:H16) (h17:H17) (pG:tE) (zH:iB) (h20:H20) (h21:H21) (h22:H22) (h23:H23) (h24:H24) (h25:H25) (h26:H26) (h27:H27) (dY:uM) (h29:H29) (w:N)
def f0:=@fk f args x tp _ (rfl:x=x)
def f1:=@fk f args x tp _ (⟨h1,rfl⟩:H1/\x=x)
def f2:=@fk f args x tp _ (⟨h1,h2,rfl⟩:H1/\H2/\x=x)
def f3:=@fk f args x tp _ (⟨h1,h2,h3,rfl⟩:H1/\H2/\H3/\x=x)
def f4:=@fk f args x tp _ (⟨h1,h2,h3,h4,rfl⟩:H1/\H2/\H3/\H4/\x=x)
def f5:=@fk f args x tp _ (⟨h1,h2,h3,h4,h5,rfl⟩:H1/\H2/\H3/\H4/\H5/\x=x)
def f6:=@fk f args x tp _ (⟨h1,h2,h3,h4,h5,h6,rfl⟩:H1/\H2/\H3/\H4/\H5/\H6/\x=x)
def f7:=@fk f args x tp _ (⟨h1,h2,h3,h4,h5,h6,h7,rfl⟩:H1/\H2/\H3/\H4/\H5/\H6/\H7/\x=x)
def f8:=@fk f args x tp _ (⟨h1,h2,h3,h4,h5,h6,h7,h8,rfl⟩:H1/\H2/\H3/\H4/\H5/\H6/\H7/\H8/\x=x)
def f9:=@fk f args x tp _ (⟨h1,h2,h3,h4,h5,h6,h7,h8,h9,rfl⟩:H1/\H2/\H3/\H4/\H5/\H6/\H7/\H8/\H9/\x=x)
def f10:=@fk f args x tp _ (⟨h1,h2,h3,h4,h5,h6,h7,h8,h9,h10,rfl⟩:H1/\H2/\H3/\H4/\H5/\H6/\H7/\H8/\H9/\H10/\x=x)
def f11:=@fk f args x tp _ (⟨h1,h2,h3,h4,h5,h6,h7,h8,h9,h10,h11,rfl⟩:H1/\H2/\H3/\H4/\H5/\H6/\H7/\H8/\H9/\H10/\H11/\x=x)
def f12:=@fk f args x tp _ (⟨h1,h2,h3,h4,h5,h6,h7,h8,h9,h10,h11,h12,rfl⟩:H1/\H2/\H3/\H4/\H5/\H6/\H7/\H8/\H9/\H10/\H11/\H12/\x=x)
def f13:=@fk f args x tp _ (⟨h1,h2,h3,h4,h5,h6,h7,h8,h9,h10,h11,h12,h13,rfl⟩:H1/\H2/\H3/\H4/\H5/\H6/\H7/\H8/\H9/\H10/\H11/\H12/\H13/\x=x)
def f14:=@fk f args x tp _ (⟨h1,h2,h3,h4,h5,h6,h7,h8,h9,h10,h11,h12,h13,h14,rfl⟩:H1/\H2/\H3/\H4/\H5/\H6/\H7/\H8/\H9/\H10/\H11/\H12/\H13/\H14/\x=x)
def f15:=@fk f args x tp _ (⟨h1,h2,h3,h4,h5,h6,h7,h8,h9,h10,h11,h12,h13,h14,h15,rfl⟩:H1/\H2/\H3/\H4/\H5/\H6/\H7/\H8/\H9/\H10/\H11/\H12/\H13/\H14/\H15/\x=x)
def f16:=@fk f args x tp _ (⟨h1,h2,h3,h4,h5,h6,h7,h8,h9,h10,h11,h12,h13,h14,h15,h16,rfl⟩:H1/\H2/\H3/\H4/\H5/\H6/\H7/\H8/\H9/\H10/\H11/\H12/\H13/\H14/\H15/\H16/\x=x)
def f17:=@fk f args x tp _ (⟨h1,h2,h3,h4,h5,h6,h7,h8,h9,h10,h11,h12,h13,h14,h15,h16,h17,rfl⟩:H1/\H2/\H3/\H4/\H5/\H6/\H7/\H8/\H9/\H10/\H11/\H12/\H13/\H14/\H15/\H16/\H17/\x=x)
def f18:=@fk f args x tp _ (⟨h1,h2,h3,h4,h5,h6,h7,h8,h9,h10,h11,h12,h13,h14,h15,h16,h17,pG,rfl⟩:H1/\H2/\H3/\H4/\H5/\H6/\H7/\H8/\H9/\H10/\H11/\H12/\H13/\H14/\H15/\H16/\H17/\tE/\x=x)
def f19:=@fk f args x tp _ (⟨h1,h2,h3,h4,h5,h6,h7,h8,h9,h10,h11,h12,h13,h14,h15,h16,h17,pG,zH,rfl⟩:H1/\H2/\H3/\H4/\H5/\H6/\H7/\H8/\H9/\H10/\H11/\H12/\H13/\H14/\H15/\H16/\H17/\tE/\iB/\x=x)
def f20:=@fk f args x tp _ (⟨h1,h2,h3,h4,h5,h6,h7,h8,h9,h10,h11,h12,h13,h14,h15,h16,h17,pG,zH,h20,rfl⟩:H1/\H2/\H3/\H4/\H5/\H6/\H7/\H8/\H9/\H10/\H11/\H12/\H13/\H14/\H15/\H16/\H17/\tE/\iB/\H20/\x=x)
def f21:=@fk f args x tp _ (⟨h1,h2,h3,h4,h5,h6,h7,h8,h9,h10,h11,h12,h13,h14,h15,h16,h17,pG,zH,h20,h21,rfl⟩:H1/\H2/\H3/\H4/\H5/\H6/\H7/\H8/\H9/\H10/\H11/\H12/\H13/\H14/\H15/\H16/\H17/\tE/\iB/\H20/\H21/\x=x)
def f22:=@fk f args x tp _ (⟨h1,h2,h3,h4,h5,h6,h7,h8,h9,h10,h11,h12,h13,h14,h15,h16,h17,pG,zH,h20,h21,h22,rfl⟩:H1/\H2/\H3/\H4/\H5/\H6/\H7/\H8/\H9/\H10/\H11/\H12/\H13/\H14/\H15/\H16/\H17/\tE/\iB/\H20/\H21/\H22/\x=x)
def o0:=@ok f ag obs y obs' m tp _ (rfl:(y,obs')=(y,obs'))
def o1:=@ok f ag obs y obs' m tp _ (⟨h1,rfl⟩:H1/\(y,obs')=(y,obs'))
def o2:=@ok f ag obs y obs' m tp _ (⟨h1,h2,rfl⟩:H1/\H2/\(y,obs')=(y,obs'))
def o3:=@ok f ag obs y obs' m tp _ (⟨h1,h2,h3,rfl⟩:H1/\H2/\H3/\(y,obs')=(y,obs'))
def o4:=@ok f ag obs y obs' m tp _ (⟨h1,h2,h3,h4,rfl⟩:H1/\H2/\H3/\H4/\(y,obs')=(y,obs'))
def o5:=@ok f ag obs y obs' m tp _ (⟨h1,h2,h3,h4,h5,rfl⟩:H1/\H2/\H3/\H4/\H5/\(y,obs')=(y,obs'))
def o6:=@ok f ag obs y obs' m tp _ (⟨h1,h2,h3,h4,h5,h6,rfl⟩:H1/\H2/\H3/\H4/\H5/\H6/\(y,obs')=(y,obs'))
def o7:=@ok f ag obs y obs' m tp _ (⟨h1,h2,h3,h4,h5,h6,h7,rfl⟩:H1/\H2/\H3/\H4/\H5/\H6/\H7/\(y,obs')=(y,obs'))
def o8:=@ok f ag obs y obs' m tp _ (⟨h1,h2,h3,h4,h5,h6,h7,h8,rfl⟩:H1/\H2/\H3/\H4/\H5/\H6/\H7/\H8/\(y,obs')=(y,obs'))
def o9:=@ok f ag obs y obs' m tp _ (⟨h1,h2,h3,h4,h5,h6,h7,h8,h9,rfl⟩:H1/\H2/\H3/\H4/\H5/\H6/\H7/\H8/\H9/\(y,obs')=(y,obs'))
def jC:=@ok f ag obs y obs' m tp _ (⟨h1,h2,h3,h4,h5,h6,h7,h8,h9,h10,rfl⟩:H1/\H2/\H3/\H4/\H5/\H6/\H7/\H8/\H9/\H10/\(y,obs')=(y,obs'))
def eI:=@ok f ag obs y obs' m tp _ (⟨h1,h2,h3,h4,h5,h6,h7,h8,h9,h10,h11,rfl⟩:H1/\H2/\H3/\H4/\H5/\H6/\H7/\H8/\H9/\H10/\H11/\(y,obs')=(y,obs'))
def iI:=@ok f ag obs y obs' m tp _ (⟨h1,h2,h3,h4,h5,h6,h7,h8,h9,h10,h11,h12,rfl⟩:H1/\H2/\H3/\H4/\H5/\H6/\H7/\H8/\H9/\H10/\H11/\H12/\(y,obs')=(y,obs'))
def o13:=@ok f ag obs y obs' m tp _ (⟨h1,h2,h3,h4,h5,h6,h7,h8,h9,h10,h11,h12,h13,rfl⟩:H1/\H2/\H3/\H4/\H5/\H6/\H7/\H8/\H9/\H10/\H11/\H12/\H13/\(y,obs')=(y,obs'))
def jn:=@ok f ag obs y obs' m tp _ (⟨h1,h2,h3,h4,h5,h6,h7,h8,h9,h10,h11,h12,h13,h14,rfl⟩:H1/\H2/\H3/\H4/\H5/\H6/\H7/\H8/\H9/\H10/\H11/\H12/\H13/\H14/\(y,obs')=(y,obs'))
def vn:=@ok f ag obs y obs' m tp _ (⟨h1,h2,h3,h4,h5,h6,h7,h8,h9,h10,h11,h12,h13,h14,h15,rfl⟩:H1/\H2/\H3/\H4/\H5/\H6/\H7/\H8/\H9/\H10/\H11/\H12/\H13/\H14/\H15/\(y,obs')=(y,obs'))
def PW:=@ok f ag obs y obs' m tp _ (⟨h1,h2,h3,h4,h5,h6,h7,h8,h9,h10,h11,h12,h13,h14,h15,h16,rfl⟩:H1/\H2/\H3/\H4/\H5/\H6/\H7/\H8/\H9/\H10/\H11/\H12/\H13/\H14/\H15/\H16/\(y,obs')=(y,obs'))
def vd:=@ok f ag obs y obs' m tp _ (⟨h1,h2,h3,h4,h5,h6,h7,h8,h9,h10,h11,h12,h13,h14,h15,h16,h17,pG,rfl⟩:H1/\H2/\H3/\H4/\H5/\H6/\H7/\H8/\H9/\H10/\H11/\H12/\H13/\H14/\H15/\H16/\H17/\tE/\(y,obs')=(y,obs'))
def yn:=@ok f ag obs y obs' m tp _ (⟨h1,h2,h3,h4,h5,h6,h7,h8,h9,h10,h11,h12,h13,h14,h15,h16,h17,pG,zH,rfl⟩:H1/\H2/\H3/\H4/\H5/\H6/\H7/\H8/\H9/\H10/\H11/\H12/\H13/\H14/\H15/\H16/\H17/\tE/\iB/\(y,obs')=(y,obs'))
def dn:=@ok f ag obs y obs' m tp _ (⟨h1,h2,h3,h4,h5,h6,h7,h8,h9,h10,h11,h12,h13,h14,h15,h16,h17,pG,zH,h20,rfl⟩:H1/\H2/\H3/\H4/\H5/\H6/\H7/\H8/\H9/\H10/\H11/\H12/\H13/\H14/\H15/\H16/\H17/\tE/\iB/\H20/\(y,obs')=(y,obs'))
def ln:=@ok f ag obs y obs' m tp _ (⟨h1,h2,h3,h4,h5,h6,h7,h8,h9,h10,h11,h12,h13,h14,h15,h16,h17,pG,zH,h20,h21,h22,rfl⟩:H1/\H2/\H3/\H4/\H5/\H6/\H7/\H8/\H9/\H10/\H11/\H12/\H13/\H14/\H15/\H16/\H17/\tE/\iB/\H20/\H21/\H22/\(y,obs')=(y,obs'))
def x0:=@rk f i bs s s' e tp ko ko _ (⟨rfl,rfl⟩:e=e/\s'=s')
def x1:=@rk f i bs s s' e tp ko ko _ (⟨h1,rfl,rfl⟩:H1/\e=e/\s'=s')
def x2:=@rk f i bs s s' e tp ko ko _ (⟨h1,h2,rfl,rfl⟩:H1/\H2/\e=e/\s'=s')
def x3:=@rk f i bs s s' e tp ko ko _ (⟨h1,h2,h3,rfl,rfl⟩:H1/\H2/\H3/\e=e/\s'=s')
def x4:=@rk f i bs s s' e tp ko ko _ (⟨h1,h2,h3,h4,rfl,rfl⟩:H1/\H2/\H3/\H4/\e=e/\s'=s')
def x5:=@rk f i bs s s' e tp ko ko _ (⟨h1,h2,h3,h4,h5,rfl,rfl⟩:H1/\H2/\H3/\H4/\H5/\e=e/\s'=s')
def x9:=@rk f i bs s s' e tp ko ko _ (⟨h1,h2,h3,h4,h5,h6,h7,h8,h9,rfl,rfl⟩:H1/\H2/\H3/\H4/\H5/\H6/\H7/\H8/\H9/\e=e/\s'=s')
def n1:=@rk f i bs s s' e tp ko ko _ (h1:H1)
def n2:=@rk f i bs s s' e tp ko ko _ (⟨h1,h2⟩:H1/\H2)
def n3:=@rk f i bs s s' e tp ko ko _ (⟨h1,h2,h3⟩:H1/\H2/\H3)
def n4:=@rk f i bs s s' e tp ko ko _ (⟨h1,h2,h3,h4⟩:H1/\H2/\H3/\H4)
def n5:=@rk f i bs s s' e tp ko ko _ (⟨h1,h2,h3,h4,h5⟩:H1/\H2/\H3/\H4/\H5)
def n6:=@rk f i bs s s' e tp ko ko _ (⟨h1,h2,h3,h4,h5,h6⟩:H1/\H2/\H3/\H4/\H5/\H6)
def n7:=@rk f i bs s s' e tp ko ko _ (⟨h1,h2,h3,h4,h5,h6,h7⟩:H1/\H2/\H3/\H4/\H5/\H6/\H7)
def n8:=@rk f i bs s s' e tp ko ko _ (⟨h1,h2,h3,h4,h5,h6,h7,h8⟩:H1/\H2/\H3/\H4/\H5/\H6/\H7/\H8)
def n9:=@rk f i bs s s' e tp ko ko _ (⟨h1,h2,h3,h4,h5,h6,h7,h8,h9⟩:H1/\H2/\H3/\H4/\H5/\H6/\H7/\H8/\H9)
def y1:=@rk f i bs s s' e tp ko ko _ (⟨h1,rfl,w,rfl⟩:H1/\e=e/\N/\s'=s')
def y2:=@rk f i bs s s' e tp ko ko _ (⟨h1,h2,rfl,w,rfl⟩:H1/\H2/\e=e/\N/\s'=s')
def y5:=@rk f i bs s s' e tp ko ko _ (⟨h1,h2,h3,h4,h5,rfl,w,rfl⟩:H1/\H2/\H3/\H4/\H5/\e=e/\N/\s'=s')
end
open Go.Lg
abbrev dA:Nat:=1152921504606846976
theorem YA {n:Nat} (h:n<=dA:=by omega):rA (.ofNat n)=true:=eA (Nat.le_trans h (by decide))
def Ty.size:Ty->Nat
 | .two _ a b=>1+a.size+b.size
 | _=>1
def Ty.same:Ty->Ty->Bool
 | .nat,.nat=>true
 | .list,.list=>true
 | .unit,.unit=>true
 | .two k a b,.two l c d=>(k == l) && (a.same c && b.same d)
 | _,_=>false
theorem XM:∀ t:Ty,A 262 [t.p] (.bool true)
 | .nat=>f0 []
 | .list=>f0 []
 | .unit=>f0 []
 | .two true a b=>f2 [(28,.T),(28,.T)] (XM a) (XM b)
 | .two false a b=>f2 [(28,.T),(28,.T)] (XM a) (XM b)
theorem mS:∀ t:Ty,t.size<=dA->A 263 [t.p] (num t.size)
 | .nat,_=>f0 []
 | .list,_=>f0 []
 | .unit,_=>f0 []
 | .two k a b,h=>by
  have h:1+a.size+b.size<=dA:=h;have h1:=mS a (by omega);have h2:=mS b (by omega);have h3:rA (.ofNat (1+a.size))=true:=YA;cases k<;>exact f4 [(15,.N a.size),(16,.ok),(15,.N b.size),(16,.ok)] h1 h3 h2 (YA h)
theorem xC:∀ t:Ty,A 33 [t.p] t.p
 | .nat=>f0 []
 | .list=>f0 []
 | .unit=>f0 []
 | .two k a b=>f2 [(15,.r a.p),(15,.r b.p)] (xC a) (xC b)
theorem FD (a b:Ty):A 24 [a.p,b.p] (.bool (a.same b)):=by
 induction a generalizing b with
 | two k a b h1 h2=>cases b with
  | two l c d =>
   have h1:=h1 c;have h2:=h2 d;show A 24 [(Ty.two k a b).p,(Ty.two l c d).p] (.bool ((k == l) && (a.same c && b.same d)));generalize a.same c=p at *
   generalize b.same d=q at *
   by_cases e:k=l
   ·subst e;cases p
    ·cases k<;>exact f1 [(36,.F)] h1
    ·cases q
     ·cases k<;>exact f2 [(36,.T),(36,.F)] h1 h2
     ·cases k<;>exact f2 [(36,.T),(36,.T)] h1 h2
   ·cases k<;>cases l<;>first|exact absurd rfl e|exact f0 []
  | _=>cases k<;>exact f0 []
 | _=>cases b with
  | two l c d=>cases l<;>exact f0 []
  | _=>exact f0 []
def Ty.chk (t:Ty):Nat:=match kA (.ofNat 64) (.ofNat t.size) with
 | true=>4
 | false=>0
theorem QJ (t:Ty) (h:t.size<=dA:=by omega):A 191 [t.p] (num t.chk):=by
 unfold Ty.chk;cases e:kA (.ofNat 64) (.ofNat t.size)
 ·exact f3 [(4,.T),(7,.N t.size),(8,.H)] (XM t) (mS t h) e
 ·exact f3 [(4,.T),(7,.N t.size),(8,.G)] (XM t) (mS t h) e
theorem wd (a b:Ty):A 113 [a.p,b.p] (Ty.two false a b).p:=f2 [(6,.r a.p),(8,.r b.p)] (xC a) (xC b)
theorem IL (a b:Ty):A 114 [a.p,b.p] (Ty.two true a b).p:=f2 [(6,.r a.p),(8,.r b.p)] (xC a) (xC b)
theorem WA:A 193 [.agg [num 0,.slice []]] (.bool true):=f0 []
abbrev cA (g:List Ty):PV:=.slice (g.map Ty.c)
theorem Ty.c_len (t:Ty):t.c.length=2:=rfl
def aH:List Ty->Nat
 | []=>0
 | t::r=>match t.chk with
  | 0=>aH r
  | _+1=>4
theorem XF (t:Ty):t.chk=0\/t.chk=4:=by unfold Ty.chk;split<;>simp
theorem yd {g:List Ty} (hl:g.length<=16):∀ (r:List Ty) (k:Nat),g.drop k=r->(∀ t∈r,t.size<=dA) ->
  (aH r=0/\Lp 125 0 0 (st [(9,.pv (cA g)),(10,.pv (num (g.map Ty.c).length)),(11,.pv (num k))] [] 0 []) (.exit 0) (st [] [] 0 []))\/aH r=4/\Lp 125 0 0 (st [(9,.pv (cA g)),(10,.pv (num (g.map Ty.c).length)),(11,.pv (num k))] [] 0 []) .ret (st [(2,.pv (num 4))] [] 0 [])
 | [],k,h,_ => .inl ⟨rfl,x1 [(12,.H)] (kp []) (show kA (.ofNat k) (.ofNat (g.map Ty.c).length)=false from CA (by simpa using TC h))⟩
 | t::r,k,h,hb=>by
  obtain⟨h1,h2,h3⟩:=SC h;have hc:=QJ t (hb t (by simp));have hlt:kA (.ofNat k) (.ofNat (g.map Ty.c).length)=true:=aA (by simpa using h2);unfold aH;rcases XF t with e|e<;>rw [e] at hc ⊢
  ·rcases yd hl r (k+1) h3 (λ t ht=>hb t (by simp [ht])) with ⟨e1,ih⟩|⟨e1,ih⟩
   ·exact .inl ⟨e1,n5 [(12,.G),(13,.i t.c),(16,.N 0),(20,.ok)] (kp [9,10,11]) hlt (KA h1 Ty.c_len) hc (eA (show k+1<=_ by omega)) ih⟩
   ·exact .inr ⟨e1,n5 [(12,.G),(13,.i t.c),(16,.N 0),(20,.ok)] (kp [9,10,11]) hlt (KA h1 Ty.c_len) hc (eA (show k+1<=_ by omega)) ih⟩
  ·exact .inr ⟨rfl,x3 [(12,.G),(13,.i t.c),(16,.N 4)] (kp [2]) hlt (KA h1 Ty.c_len) hc⟩
def oI (g:List Ty):Nat:=match kA (.ofNat 16) (.ofNat (g.map Ty.c).length) with
 | true=>3
 | false=>aH g
theorem YM (g:List Ty) (hb:∀ t∈g,t.size<=dA):A 125 [cA g] (num (oI g)):=by
 unfold oI;cases e:kA (.ofNat 16) (.ofNat (g.map Ty.c).length)
 ·have hl:g.length<=16:=by
   rw [KB] at e;simp at e;omega
  rcases yd hl g 0 rfl hb with ⟨h1,h2⟩|⟨h1,h2⟩<;>rw [h1]
  ·exact f2 [(8,.H),(100004,.l (kp [9,10,11]) (.exit 0) (st [] [] 0 []))] e h2
  ·exact f2 [(8,.H),(100004,.l (kp [9,10,11]) .ret (st [(2,.pv (num 4))] [] 0 []))] e h2
 ·exact f1 [(8,.G)] e
def Tm.cnt:Tm->Nat
 | .lam _ b=>1+b.cnt
 | .n1 _ a=>1+a.cnt
 | .n2 _ a b=>1+a.cnt+b.cnt
 | .n3 _ _ a b c=>1+a.cnt+b.cnt+c.cnt
 | _=>1
def Tm.tsz:Tm->Nat
 | .lam s b=>max s.size b.tsz
 | .n1 _ a=>a.tsz
 | .n2 _ a b=>max a.tsz b.tsz
 | .n3 _ s a b c=>max (max s.size a.tsz) (max b.tsz c.tsz)
 | _=>0
def Tm.mx:Tm->Nat
 | .v i=>i
 | .lam _ b=>b.mx
 | .n1 _ a=>a.mx
 | .n2 _ a b=>max a.mx b.mx
 | .n3 _ _ a b c=>max a.mx (max b.mx c.mx)
 | _=>0
abbrev Tm.ty (t:Tm):PV:=.agg [num t.tk,.slice t.te]
abbrev row (l:List Tm):PV:=.slice (l.map Tm.c)
theorem uF:A 33 [.agg [num 0,.slice []]] (.agg [num 0,.slice []]):=f0 []
theorem nS (t:Tm):A 33 [t.ty] t.ty:=by
 cases t with
 | lam s b=>exact xC s
 | n3 k s a b c=>exact xC s
 | _=>exact uF
theorem yB:∀ t:Tm,t.cnt<=dA->A 101 [t.p] (num t.cnt)
 | .v i,_=>f0 []
 | .n0 k,_=>f0 []
 | .lam s b,h=>f2 [(15,.N b.cnt),(16,.ok)] (yB b (by simp only [Tm.cnt] at h;omega)) (YA h)
 | .n1 k b,h=>f2 [(15,.N b.cnt),(16,.ok)] (yB b (by simp only [Tm.cnt] at h;omega)) (YA h)
 | .n2 k a b,h=>by
  have h:1+a.cnt+b.cnt<=dA:=h;have h1:rA (.ofNat (1+a.cnt))=true:=YA;exact f4 [(15,.N a.cnt),(16,.ok),(15,.N b.cnt),(16,.ok)] (yB a (by omega)) h1 (yB b (by omega)) (YA h)
 | .n3 k s a b c,h=>by
  have h:1+a.cnt+b.cnt+c.cnt<=dA:=h;have h1:rA (.ofNat (1+a.cnt))=true:=YA;have h2:rA (.ofNat (1+a.cnt+b.cnt))=true:=YA;exact f6 [(15,.N a.cnt),(16,.ok),(15,.N b.cnt),(16,.ok),(15,.N c.cnt),(16,.ok)] (yB a (by omega)) h1 (yB b (by omega)) h2 (yB c (by omega)) (YA h)
theorem vC:∀ t:Tm,A 34 [t.p] t.p
 | .v i=>f1 [(25,.r (Tm.v i).ty)] (nS (.v i))
 | .n0 k=>f1 [(25,.r (Tm.n0 k).ty)] (nS (.n0 k))
 | .lam s b=>f2 [(15,.r b.p),(25,.r s.p)] (vC b) (xC s)
 | .n1 k a=>f2 [(15,.r a.p),(25,.r (Tm.n1 k a).ty)] (vC a) (nS (.n1 k a))
 | .n2 k a b=>f3 [(15,.r a.p),(15,.r b.p),(25,.r (Tm.n2 k a b).ty)] (vC a) (vC b) (nS (.n2 k a b))
 | .n3 k s a b c=>f4 [(15,.r a.p),(15,.r b.p),(15,.r c.p),(25,.r s.p)] (vC a) (vC b) (vC c) (xC s)
theorem gE (i:Nat):A 67 [num i] (Tm.v i).p:=f0 []
theorem cP (n:Nat):A 116 [num n,row []] (.agg [num n,num 0,num 0,.slice [],.slice []]):=f0 []
theorem eP (n:Nat) (a:Tm):A 116 [num n,row [a]] (.agg [num n,num 0,num 0,.slice [],row [a]]):=f1 [(16,.r a.p)] (vC a)
theorem bF (n:Nat) (a b:Tm):A 116 [num n,row [a,b]] (.agg [num n,num 0,num 0,.slice [],row [a,b]]):=f2 [(16,.r a.p),(16,.r b.p)] (vC a) (vC b)
theorem mn (n:Nat) (a b c:Tm):A 116 [num n,row [a,b,c]] (.agg [num n,num 0,num 0,.slice [],row [a,b,c]]):=f3 [(16,.r a.p),(16,.r b.p),(16,.r c.p)] (vC a) (vC b) (vC c)
theorem UC (s:Ty) (b:Tm):A 117 [num 2,s.p,row [b]] (Tm.lam s b).p:=f2 [(10,.r (.agg [num 2,num 0,num 0,.slice [],row [b]])),(12,.r s.p)] (eP 2 b) (xC s)
theorem JL (k:K3) (s:Ty) (a b c:Tm):A 117 [num k.n,s.p,row [a,b,c]] (Tm.n3 k s a b c).p:=f2 [(10,.r (.agg [num k.n,num 0,num 0,.slice [],row [a,b,c]])),(12,.r s.p)] (mn k.n a b c) (xC s)
def Tm.shp:Tm->Bool
 | .lam s b=>Nat.beq s.chk 0 && b.shp
 | .n1 _ a=>a.shp
 | .n2 _ a b=>a.shp && b.shp
 | .n3 _ s a b c=>Nat.beq s.chk 0 && (a.shp && (b.shp && c.shp))
 | _=>true
theorem lE:∀ t:Tm,t.tsz<=dA->A 194 [t.p] (.bool t.shp)
 | .v i,_=>f1 [(31,.T)] WA
 | .n0 k,_=>by cases k<;>exact f1 [(31,.T)] WA
 | .lam s b,h=>by
  have h:max s.size b.tsz<=dA:=h;have h1:=QJ s;have h2:=lE b (by omega);unfold Tm.shp;rcases XF s with e|e<;>rw [e] at h1 ⊢
  ·cases e2:b.shp<;>rw [e2] at h2
   ·exact f2 [(39,.N 0),(49,.F)] h1 h2
   ·exact f2 [(39,.N 0),(49,.T)] h1 h2
  ·exact f1 [(39,.N 4)] h1
 | .n1 k a,h=>by
  have h2:=lE a h;show A 194 [(Tm.n1 k a).p] (.bool a.shp);cases e2:a.shp<;>rw [e2] at h2
  ·cases k<;>exact f2 [(31,.T),(49,.F)] WA h2
  ·cases k<;>exact f2 [(31,.T),(49,.T)] WA h2
 | .n2 k a b,h=>by
  have h:max a.tsz b.tsz<=dA:=h;have h1:=lE a (by omega);have h2:=lE b (by omega);show A 194 [(Tm.n2 k a b).p] (.bool (a.shp && b.shp));cases e1:a.shp<;>rw [e1] at h1
  ·cases k<;>exact f2 [(31,.T),(49,.F)] WA h1
  ·cases e2:b.shp<;>rw [e2] at h2
   ·cases k<;>exact f3 [(31,.T),(49,.T),(49,.F)] WA h1 h2
   ·cases k<;>exact f3 [(31,.T),(49,.T),(49,.T)] WA h1 h2
 | .n3 k s a b c,h=>by
  have h:max (max s.size a.tsz) (max b.tsz c.tsz)<=dA:=h;have h0:=QJ s;have h1:=lE a (by omega);have h2:=lE b (by omega);have h3:=lE c (by omega);unfold Tm.shp;rcases XF s with e|e<;>rw [e] at h0 ⊢
  ·cases e1:a.shp<;>rw [e1] at h1
   ·cases k<;>exact f2 [(39,.N 0),(49,.F)] h0 h1
   ·cases e2:b.shp<;>rw [e2] at h2
    ·cases k<;>exact f3 [(39,.N 0),(49,.T),(49,.F)] h0 h1 h2
    ·cases e3:c.shp<;>rw [e3] at h3
     ·cases k<;>exact f4 [(39,.N 0),(49,.T),(49,.T),(49,.F)] h0 h1 h2 h3
     ·cases k<;>exact f4 [(39,.N 0),(49,.T),(49,.T),(49,.T)] h0 h1 h2 h3
  ·cases k<;>exact f1 [(39,.N 4)] h0
def Tm.chk (t:Tm):Nat:=match t.shp with
 | false=>2
 | true=>match kA (.ofNat 4096) (.ofNat t.cnt) with
  | true=>4
  | false=>0
theorem cH (t:Tm) (h1:t.tsz<=dA:=by omega) (h2:t.cnt<=dA:=by omega):A 260 [t.p] (num t.chk):=by
 have h3:=lE t h1;unfold Tm.chk;cases e:t.shp<;>rw [e] at h3
 ·exact f1 [(4,.F)] h3
 ·simp only;cases e1:kA (.ofNat 4096) (.ofNat t.cnt)
  ·exact f3 [(4,.T),(7,.N t.cnt),(8,.H)] h3 (yB t h2) e1
  ·exact f3 [(4,.T),(7,.N t.cnt),(8,.G)] h3 (yB t h2) e1
theorem xI (n:Nat):lB (.ofNat n) (.ofNat n)=true:=by rw [fH];simp
theorem YF {m n:Nat} (h:m≠n:=by omega):lB (.ofNat m) (.ofNat n)=false:=by rw [fH];exact decide_eq_false (λ e=>h (Int.ofNat.inj e))
theorem tB (n:Nat):(!lB (.ofNat n) (.ofNat n))=false:=by rw [xI];rfl
theorem BC {m n:Nat} (h:m≠n:=by omega):(!lB (.ofNat m) (.ofNat n))=true:=by rw [YF h];rfl
def Tm.cls:Tm->Nat
 | .v _=>0 | .lam _ _=>1 | .n0 _=>2 | .n1 _ _=>3 | .n2 _ _ _=>4 | .n3 _ _ _ _ _=>5
def dF:Nat->Nat
 | 1=>0|2=>1|4=>2|7=>2|13=>2|5=>3|11=>3|12=>3|3=>4|8=>4|10=>4|_=>5
theorem lC (t:Tm):dF t.kd=t.cls:=by
 cases t with
 | n0 k=>cases k<;>rfl
 | n1 k=>cases k<;>rfl
 | n2 k=>cases k<;>rfl
 | n3 k=>cases k<;>rfl
 | _=>rfl
theorem K0.inj {k l:K0} (h:k.n=l.n):k=l:=by cases k<;>cases l<;>first|rfl|cases h
theorem K1.inj {k l:K1} (h:k.n=l.n):k=l:=by cases k<;>cases l<;>first|rfl|cases h
theorem K2.inj {k l:K2} (h:k.n=l.n):k=l:=by cases k<;>cases l<;>first|rfl|cases h
theorem K3.inj {k l:K3} (h:k.n=l.n):k=l:=by cases k<;>cases l<;>first|rfl|cases h
theorem fF:A 24 [.agg [num 0,.slice []],.agg [num 0,.slice []]] (.bool true):=f0 []
theorem uD:∀ a b:Ty,a.same b=true↔a=b
 | .nat,b=>by cases b<;>simp [Ty.same]
 | .list,b=>by cases b<;>simp [Ty.same]
 | .unit,b=>by cases b<;>simp [Ty.same]
 | .two k a c,b=>by cases b<;>simp [Ty.same,uD a,uD c]
theorem ff {p:Prop} (h:¬p):false=true↔p:=⟨λ e=>(by cases e),λ e=>absurd e h⟩
theorem ZM {a:Tm} (H:∀ b:Tm,a.kd=b.kd->∃ r,A 11 [a.p,b.p] (.bool r)/\(r=true↔a=b)) (b:Tm):∃ r,A 11 [a.p,b.p] (.bool r)/\(r=true↔a=b):=by
 by_cases h:a.kd=b.kd
 ·exact H b h
 ·exact⟨false,f1 [(10,.G)] (BC h),ff λ e=>h (by rw [e])⟩
theorem eH:∀ a b:Tm,∃ r,A 11 [a.p,b.p] (.bool r)/\(r=true↔a=b)
 | .v i=>ZM λ b h=>by
  cases b with
  | v j =>
   by_cases e:i=j
   ·subst e;exact⟨true,f2 [(16,.H),(23,.T)] (tB i) fF,by simp_all⟩
   ·exact⟨false,f1 [(16,.G)] (BC e),by simp_all⟩
  | _=>have:=congrArg dF h;rw [lC,lC] at this;cases this
 | .n0 k=>ZM λ b h=>by
  cases b with
  | n0 l=>cases K0.inj h;exact⟨true,f2 [(10,.H),(23,.T)] (tB k.n) fF,by simp_all⟩
  | _=>have:=congrArg dF h;rw [lC,lC] at this;cases this
 | .lam s a=>ZM λ b h=>by
  cases b with
  | lam u b =>
   have h1:=FD s u;have e1:=uD s u;cases e:s.same u<;>rw [e] at h1 e1
   ·exact⟨false,f1 [(23,.F)] h1,by simp_all⟩
   ·obtain⟨r,h3,q3⟩:=eH a b;cases r
    ·exact⟨false,f2 [(23,.T),(51,.F)] h1 h3,by simp_all⟩
    ·exact⟨true,f2 [(23,.T),(51,.T)] h1 h3,by simp_all⟩
  | _=>have:=congrArg dF h;rw [lC,lC] at this;cases this
 | .n1 k a=>ZM λ b h=>by
  cases b with
  | n1 l b =>
   cases K1.inj h;obtain⟨r,h3,q3⟩:=eH a b;cases r
   ·exact⟨false,f3 [(10,.H),(23,.T),(51,.F)] (tB k.n) fF h3,by simp_all⟩
   ·exact⟨true,f3 [(10,.H),(23,.T),(51,.T)] (tB k.n) fF h3,by simp_all⟩
  | _=>have:=congrArg dF h;rw [lC,lC] at this;cases this
 | .n2 k a c=>ZM λ b h=>by
  cases b with
  | n2 l b d =>
   cases K2.inj h;obtain⟨r,h3,q3⟩:=eH a b;obtain⟨q,h4,q4⟩:=eH c d;cases r
   ·exact⟨false,f3 [(10,.H),(23,.T),(51,.F)] (tB k.n) fF h3,by simp_all⟩
   ·cases q
    ·exact⟨false,f4 [(10,.H),(23,.T),(51,.T),(51,.F)] (tB k.n) fF h3 h4,by simp_all⟩
    ·exact⟨true,f4 [(10,.H),(23,.T),(51,.T),(51,.T)] (tB k.n) fF h3 h4,by simp_all⟩
  | _=>have:=congrArg dF h;rw [lC,lC] at this;cases this
 | .n3 k s a c e=>ZM λ b h=>by
  cases b with
  | n3 l u b d f =>
   cases K3.inj h;have h2:=FD s u;have e1:=uD s u;obtain⟨r,h3,q3⟩:=eH a b;obtain⟨q,h4,q4⟩:=eH c d;obtain⟨p,h5,q5⟩:=eH e f;cases e2:s.same u<;>rw [e2] at h2 e1
   ·exact⟨false,f2 [(10,.H),(23,.F)] (tB k.n) h2,by simp_all⟩
   cases r
   ·exact⟨false,f3 [(10,.H),(23,.T),(51,.F)] (tB k.n) h2 h3,by simp_all⟩
   cases q
   ·exact⟨false,f4 [(10,.H),(23,.T),(51,.T),(51,.F)] (tB k.n) h2 h3 h4,by simp_all⟩
   cases p
   ·exact⟨false,f5 [(10,.H),(23,.T),(51,.T),(51,.T),(51,.F)] (tB k.n) h2 h3 h4 h5,by simp_all⟩
   ·exact⟨true,f5 [(10,.H),(23,.T),(51,.T),(51,.T),(51,.T)] (tB k.n) h2 h3 h4 h5,by simp_all⟩
  | _=>have:=congrArg dF h;rw [lC,lC] at this;cases this
open Go.Lg
abbrev qA:Nat:=33554432
theorem jA:qA=33554432:=rfl
theorem uA:dA=1152921504606846976:=rfl
theorem chk0 {s:Ty} (h:s.chk=0):s.size<=64:=by
 unfold Ty.chk at h;split at h
 ·cases h
 ·rename_i e;rw [KB] at e;have:=of_decide_eq_false e;simp at this;omega
inductive TR where
 | er (n:Nat)
 | ok (s:Ty)
def TR.k:TR->Nat
 | .er _=>0
 | .ok s=>s.kd
def TR.l:TR->List (List PV)
 | .er _=>[]
 | .ok s=>s.es
def TR.n:TR->Nat
 | .er n=>n+1
 | .ok _=>0
def TR.p (r:TR):PV:=.tuple [.agg [num r.k,.slice r.l],num r.n]
def TR.sz:TR->Nat
 | .er _=>0
 | .ok s=>s.size
def TR.fit (t:Ty):TR:=if t.size<=64 then .ok t else .er 3
def ZF (s:Ty):TR->TR
 | .er n => .er n
 | .ok u => .fit (.two true s u)
def SD (k:K1):TR->TR
 | .er n => .er n
 | .ok s=>match k with
  | .succ=>bif s.same .nat then .ok .nat else .er 6
  | .fst=>match s with
   | .two k c _=>bif k then .er 6 else .ok c
   | _ => .er 6
  | .snd=>match s with
   | .two k _ d=>bif k then .er 6 else .ok d
   | _ => .er 6
def mC (k:K2):TR->TR->TR
 | .er n,_ => .er n
 | .ok _,.er n => .er n
 | .ok s,.ok u=>match k with
  | .app=>match s with
   | .two k c d=>bif k then (bif c.same u then .ok d else .er 6) else .er 6
   | _ => .er 6
  | .cons=>bif s.same .nat then (bif u.same .list then .ok .list else .er 6) else .er 6
  | .pair => .fit (.two false s u)
def bB (k:K3) (s:Ty):TR->TR->TR->TR
 | .er n,_,_ => .er n
 | .ok _,.er n,_ => .er n
 | .ok _,.ok _,.er n => .er n
 | .ok x,.ok y,.ok z=>match k with
  | .re=>bif x.same s then (bif y.same (.two true .nat (.two true s s)) then (bif z.same .nat then .ok s else .er 6) else .er 6) else .er 6
  | .fo=>bif x.same s then (bif y.same (.two true .nat (.two true .list (.two true s s))) then (bif z.same .list then .ok s else .er 6) else .er 6) else .er 6
def vB (g:List Ty) (i:Nat):TR:=if i<g.length then (match g[g.length-1-i]? with
 | some s => .ok s
 | none => .er 5) else .er 5
def Tm.tyR:List Ty->Tm->TR
 | g,.v i=>vB g i
 | g,.lam s b=>ZF s (b.tyR (g++[s]))
 | _,.n0 k=>match k with
  | .zero => .ok .nat
  | .nil => .ok .list
  | .unit => .ok .unit
 | g,.n1 k a=>SD k (a.tyR g)
 | g,.n2 k a b=>mC k (a.tyR g) (b.tyR g)
 | g,.n3 k s a b c=>bB k s (a.tyR g) (b.tyR g) (c.tyR g)
theorem ud (s:Ty) (h:s.size<=dA):∃ r:TR,A 340 [s.p] r.p/\r.sz<=64/\r = .fit s:=by
 have h1:=QJ s h;rcases XF s with e|e<;>rw [e] at h1
 ·exact⟨.ok s,f1 [(5,.N 0)] h1,chk0 e,by unfold TR.fit;rw [if_pos (chk0 e)]⟩
 ·exact⟨.er 3,f1 [(5,.N 4)] h1,Nat.zero_le _,by unfold TR.fit;rw [if_neg λ h=>by unfold Ty.chk at e;rw [CA h] at e;cases e]⟩
theorem mE {α:Type} {c:α->List PV} (n m:Nat) (hn:∀ t,(c t).length=n) (h0:0<n) (g:List α) (s:α) (h:(g.length+1) * m<=140737488355328) (hg:g.length+1<=maxLen) :
  (LB n (g.map c) && LB n [c s] && Nat.blt 0 n && Nat.ble ((g.map c).length+[c s].length) maxLen && Nat.ble (((g.map c).length+[c s].length) * m) 140737488355328)=true:=by
 have h1:LB n (g.map c)=true:=WM λ y hy=>by obtain⟨t,_,rfl⟩:=List.mem_map.1 hy;exact hn t
 have h2:LB n [c s]=true:=WM λ y hy=>by simp at hy;subst hy;exact hn s
 have h3:Nat.blt 0 n=true:=by rw [CG];simpa using h0
 rw [h1,h2,h3];simp only [List.length_map,List.length_singleton,Bool.true_and];rw [Nat.ble_eq_true_of_le hg,Nat.ble_eq_true_of_le h];rfl
theorem CE (n:Nat):(Nat.beq n n && Nat.beq n n)=true:=by simp
theorem AI:∀ (t:Tm) (g:List Ty),(∀ s∈g,s.size<=qA)->t.tsz<=qA->g.length+t.cnt<=qA->∃ r:TR,A 323 [cA g,t.p] r.p/\r.sz<=qA/\r=t.tyR g
 | .v i,g,hg,_,hl=>by
  have hm:=jA;by_cases h:i<g.length
  ·obtain⟨s,hx⟩:∃ s,g[g.length-1-i]? = some s:=⟨_,List.getElem?_eq_getElem (by omega)⟩;have h1:(!kA (.ofNat i) (.ofNat (g.map Ty.c).length))=false:=by rw [aA (by simpa using h)];rfl
   have h2:rA (Int.ofNat (g.map Ty.c).length-1)=true/\Int.ofNat (g.map Ty.c).length-1 = .ofNat (g.length-1):=by
    have e:Int.ofNat (g.map Ty.c).length-1 = .ofNat (g.length-1):=by simp;omega
    exact⟨by rw [e];exact eA,e⟩
   have h3:rA (Int.ofNat (g.length-1) - .ofNat i)=true/\Int.ofNat (g.length-1) - .ofNat i = .ofNat (g.length-1-i):=by
    have e:Int.ofNat (g.length-1) - .ofNat i = .ofNat (g.length-1-i):=by simp;omega
    exact⟨by rw [e];exact eA,e⟩
   exact⟨.ok s,f5 [(22,.H),(27,.z (g.length-1)),(30,.z (g.length-1-i)),(31,.i s.c),(33,.r s.p)] h1 h2 h3 (KA hx Ty.c_len) (xC s),hg s (List.mem_of_getElem? hx),by show _=vB g i;unfold vB;rw [if_pos h,hx]⟩
  ·have h1:(!kA (.ofNat i) (.ofNat (g.map Ty.c).length))=true:=by rw [CA (by simp;omega)];rfl
   exact⟨.er 5,f1 [(22,.G)] h1,Nat.zero_le _,by show _=vB g i;unfold vB;rw [if_neg h]⟩
 | .lam s b,g,hg,ht,hl=>by
  have hm:=jA;have hb:=uA;have ht:max s.size b.tsz<=qA:=ht;have hl:g.length+(1+b.cnt)<=qA:=hl;rw [show (Tm.lam s b).tyR g=ZF s (b.tyR (g++[s])) from rfl];obtain⟨r,h1,h2,q1⟩:=AI b (g++[s]) (by intro u hu;rcases List.mem_append.1 hu with h|h;exact hg u h;simp at h;subst h;omega) (by omega) (by simp;omega);simp only [cA,List.map_append,List.map_cons,List.map_nil] at h1;rw [<- q1];have h3:=mE 2 32 Ty.c_len (by decide) g s (by omega) (by simp only [maxLen];omega)
  cases r with
  | er n=>exact⟨.er n,f3 [(43,.ok),(47,.ok),(52,.r (TR.er n).p)] (CE (g.map Ty.c).length) h3 h1,Nat.zero_le _,rfl⟩
  | ok u =>
   have h2:u.size<=qA:=h2;obtain⟨r,h4,h5,q2⟩:=ud (.two true s u) (by show 1+s.size+u.size<=dA;omega);exact⟨r,f5 [(43,.ok),(47,.ok),(52,.r (TR.ok u).p),(62,.r (Ty.two true s u).p),(63,.r r.p)] (CE (g.map Ty.c).length) h3 h1 (IL s u) h4,by omega,q2⟩
 | .n0 k,g,hg,ht,hl=>by
  cases k
  ·exact⟨.ok .nat,f0 [],by decide,rfl⟩
  ·exact⟨.ok .list,f0 [],by decide,rfl⟩
  ·exact⟨.ok .unit,f0 [],by decide,rfl⟩
 | .n1 k a,g,hg,ht,hl=>by
  rw [show (Tm.n1 k a).tyR g=SD k (a.tyR g) from rfl];have hm:=jA;have hl:g.length+(1+a.cnt)<=qA:=hl;obtain⟨r,h1,h2,qa⟩:=AI a g hg ht (by omega);rw [<- qa]
  cases r with
  | er n=>cases k<;>exact⟨.er n,f1 [(76,.r (TR.er n).p)] h1,Nat.zero_le _,rfl⟩
  | ok s =>
   have h2:s.size<=qA:=h2;cases k
   ·have h3:=FD s .nat;cases e1:s.same .nat<;>rw [e1] at h3
    ·exact⟨.er 6,f2 [(76,.r (TR.ok s).p),(128,.F)] h1 h3,Nat.zero_le _,by simp only [SD,e1,cond_false]⟩
    ·exact⟨.ok .nat,f2 [(76,.r (TR.ok s).p),(128,.T)] h1 h3,by decide,by simp only [SD,e1,cond_true]⟩
   ·cases s with
    | two q c d =>
     have h2:1+c.size+d.size<=qA:=h2;cases q
     ·exact⟨.ok c,f1 [(76,.r (TR.ok (.two false c d)).p)] h1,(show c.size<=qA by omega),rfl⟩
     ·exact⟨.er 6,f1 [(76,.r (TR.ok (.two true c d)).p)] h1,Nat.zero_le _,rfl⟩
    | nat=>exact⟨.er 6,f1 [(76,.r (TR.ok .nat).p)] h1,Nat.zero_le _,rfl⟩
    | list=>exact⟨.er 6,f1 [(76,.r (TR.ok .list).p)] h1,Nat.zero_le _,rfl⟩
    | unit=>exact⟨.er 6,f1 [(76,.r (TR.ok .unit).p)] h1,Nat.zero_le _,rfl⟩
   ·cases s with
    | two q c d =>
     have h2:1+c.size+d.size<=qA:=h2;cases q
     ·exact⟨.ok d,f1 [(76,.r (TR.ok (.two false c d)).p)] h1,(show d.size<=qA by omega),rfl⟩
     ·exact⟨.er 6,f1 [(76,.r (TR.ok (.two true c d)).p)] h1,Nat.zero_le _,rfl⟩
    | nat=>exact⟨.er 6,f1 [(76,.r (TR.ok .nat).p)] h1,Nat.zero_le _,rfl⟩
    | list=>exact⟨.er 6,f1 [(76,.r (TR.ok .list).p)] h1,Nat.zero_le _,rfl⟩
    | unit=>exact⟨.er 6,f1 [(76,.r (TR.ok .unit).p)] h1,Nat.zero_le _,rfl⟩
 | .n2 k a b,g,hg,ht,hl=>by
  rw [show (Tm.n2 k a b).tyR g=mC k (a.tyR g) (b.tyR g) from rfl];have hm:=jA;have hb:=uA;have ht:max a.tsz b.tsz<=qA:=ht;have hl:g.length+(1+a.cnt+b.cnt)<=qA:=hl;obtain⟨r,h1,h2,qa⟩:=AI a g hg (by omega) (by omega);rw [<- qa]
  cases r with
  | er n=>cases k<;>exact⟨.er n,f1 [(76,.r (TR.er n).p)] h1,Nat.zero_le _,rfl⟩
  | ok s =>
   have h2:s.size<=qA:=h2;obtain⟨r,h3,h4,qb⟩:=AI b g hg (by omega) (by omega);rw [<- qb]
   cases r with
   | er n=>cases k<;>exact⟨.er n,f2 [(76,.r (TR.ok s).p),(76,.r (TR.er n).p)] h1 h3,Nat.zero_le _,rfl⟩
   | ok u =>
    have h4:u.size<=qA:=h4;cases k
    ·cases s with
     | two q c d =>
      have h2:1+c.size+d.size<=qA:=h2;cases q
      ·exact⟨.er 6,f2 [(76,.r (TR.ok (.two false c d)).p),(76,.r (TR.ok u).p)] h1 h3,Nat.zero_le _,rfl⟩
      ·have h5:=FD c u;cases e2:c.same u<;>rw [e2] at h5
       ·exact⟨.er 6,f3 [(76,.r (TR.ok (.two true c d)).p),(76,.r (TR.ok u).p),(109,.F)] h1 h3 h5,Nat.zero_le _,by simp only [mC,e2,cond_true,cond_false]⟩
       ·exact⟨.ok d,f3 [(76,.r (TR.ok (.two true c d)).p),(76,.r (TR.ok u).p),(109,.T)] h1 h3 h5,(show d.size<=qA by omega),by simp only [mC,e2,cond_true]⟩
     | nat=>exact⟨.er 6,f2 [(76,.r (TR.ok .nat).p),(76,.r (TR.ok u).p)] h1 h3,Nat.zero_le _,rfl⟩
     | list=>exact⟨.er 6,f2 [(76,.r (TR.ok .list).p),(76,.r (TR.ok u).p)] h1 h3,Nat.zero_le _,rfl⟩
     | unit=>exact⟨.er 6,f2 [(76,.r (TR.ok .unit).p),(76,.r (TR.ok u).p)] h1 h3,Nat.zero_le _,rfl⟩
    ·have h5:=FD s .nat;have h6:=FD u .list;cases e3:s.same .nat<;>rw [e3] at h5
     ·exact⟨.er 6,f3 [(76,.r (TR.ok s).p),(76,.r (TR.ok u).p),(176,.F)] h1 h3 h5,Nat.zero_le _,by simp only [mC,e3,cond_false]⟩
     ·cases e4:u.same .list<;>rw [e4] at h6
      ·exact⟨.er 6,f4 [(76,.r (TR.ok s).p),(76,.r (TR.ok u).p),(176,.T),(183,.F)] h1 h3 h5 h6,Nat.zero_le _,by simp only [mC,e3,e4,cond_true,cond_false]⟩
      ·exact⟨.ok .list,f4 [(76,.r (TR.ok s).p),(76,.r (TR.ok u).p),(176,.T),(183,.T)] h1 h3 h5 h6,by decide,by simp only [mC,e3,e4,cond_true]⟩
    ·obtain⟨r,h5,h6,q2⟩:=ud (.two false s u) (by show 1+s.size+u.size<=dA;omega);exact⟨r,f4 [(76,.r (TR.ok s).p),(76,.r (TR.ok u).p),(233,.r (Ty.two false s u).p),(234,.r r.p)] h1 h3 (wd s u) h5,by omega,q2⟩
 | .n3 k s a b c,g,hg,ht,hl=>by
  rw [show (Tm.n3 k s a b c).tyR g=bB k s (a.tyR g) (b.tyR g) (c.tyR g) from rfl];have hm:=jA;have ht:max (max s.size a.tsz) (max b.tsz c.tsz)<=qA:=ht;have hl:g.length+(1+a.cnt+b.cnt+c.cnt)<=qA:=hl;obtain⟨r,h1,h2,qa⟩:=AI a g hg (by omega) (by omega);rw [<- qa]
  cases r with
  | er n=>cases k<;>exact⟨.er n,f1 [(76,.r (TR.er n).p)] h1,Nat.zero_le _,rfl⟩
  | ok x =>
   obtain⟨r,h3,h4,qb⟩:=AI b g hg (by omega) (by omega);rw [<- qb]
   cases r with
   | er n=>cases k<;>exact⟨.er n,f2 [(76,.r (TR.ok x).p),(76,.r (TR.er n).p)] h1 h3,Nat.zero_le _,rfl⟩
   | ok y =>
    obtain⟨r,h5,h6,qc⟩:=AI c g hg (by omega) (by omega);rw [<- qc]
    cases r with
    | er n=>cases k<;>exact⟨.er n,f3 [(76,.r (TR.ok x).p),(76,.r (TR.ok y).p),(76,.r (TR.er n).p)] h1 h3 h5,Nat.zero_le _,rfl⟩
    | ok z =>
     have h7:=FD x s;have h8:=IL s s;cases k
     ·have h9:=IL .nat (.two true s s);have h10:=FD y (.two true .nat (.two true s s));have h11:=FD z .nat;cases e5:x.same s<;>rw [e5] at h7
      ·exact⟨.er 6,f4 [(76,.r (TR.ok x).p),(76,.r (TR.ok y).p),(76,.r (TR.ok z).p),(139,.F)] h1 h3 h5 h7,Nat.zero_le _,by simp only [bB,e5,cond_false]⟩
      cases e6:y.same (.two true .nat (.two true s s))<;>rw [e6] at h10
      ·exact⟨.er 6,f7 [(76,.r (TR.ok x).p),(76,.r (TR.ok y).p),(76,.r (TR.ok z).p),(139,.T),(150,.r (Ty.two true s s).p),(151,.r (Ty.two true .nat (.two true s s)).p),(152,.F)] h1 h3 h5 h7 h8 h9 h10,Nat.zero_le _,by simp only [bB,e5,e6,cond_true,cond_false]⟩
      cases e7:z.same .nat<;>rw [e7] at h11
      ·exact⟨.er 6,f8 [(76,.r (TR.ok x).p),(76,.r (TR.ok y).p),(76,.r (TR.ok z).p),(139,.T),(150,.r (Ty.two true s s).p),(151,.r (Ty.two true .nat (.two true s s)).p),(152,.T),(160,.F)] h1 h3 h5 h7 h8 h9 h10 h11,Nat.zero_le _,by simp only [bB,e5,e6,e7,cond_true,cond_false]⟩
      ·exact⟨.ok s,f9 [(76,.r (TR.ok x).p),(76,.r (TR.ok y).p),(76,.r (TR.ok z).p),(139,.T),(150,.r (Ty.two true s s).p),(151,.r (Ty.two true .nat (.two true s s)).p),(152,.T),(160,.T),(166,.r s.p)] h1 h3 h5 h7 h8 h9 h10 h11 (xC s),(show s.size<=qA by omega),by simp only [bB,e5,e6,e7,cond_true]⟩
     ·have h9:=IL .list (.two true s s);have h9':=IL .nat (.two true .list (.two true s s));have h10:=FD y (.two true .nat (.two true .list (.two true s s)));have h11:=FD z .list;cases e8:x.same s<;>rw [e8] at h7
      ·exact⟨.er 6,f4 [(76,.r (TR.ok x).p),(76,.r (TR.ok y).p),(76,.r (TR.ok z).p),(195,.F)] h1 h3 h5 h7,Nat.zero_le _,by simp only [bB,e8,cond_false]⟩
      cases e9:y.same (.two true .nat (.two true .list (.two true s s)))<;>rw [e9] at h10
      ·exact⟨.er 6,f8 [(76,.r (TR.ok x).p),(76,.r (TR.ok y).p),(76,.r (TR.ok z).p),(195,.T),(207,.r (Ty.two true s s).p),(208,.r (Ty.two true .list (.two true s s)).p),(209,.r (Ty.two true .nat (.two true .list (.two true s s))).p),(210,.F)] h1 h3 h5 h7 h8 h9 h9' h10,Nat.zero_le _,by simp only [bB,e8,e9,cond_true,cond_false]⟩
      cases e10:z.same .list<;>rw [e10] at h11
      ·exact⟨.er 6,f9 [(76,.r (TR.ok x).p),(76,.r (TR.ok y).p),(76,.r (TR.ok z).p),(195,.T),(207,.r (Ty.two true s s).p),(208,.r (Ty.two true .list (.two true s s)).p),(209,.r (Ty.two true .nat (.two true .list (.two true s s))).p),(210,.T),(218,.F)] h1 h3 h5 h7 h8 h9 h9' h10 h11,Nat.zero_le _,by simp only [bB,e8,e9,e10,cond_true,cond_false]⟩
      ·exact⟨.ok s,f10 [(76,.r (TR.ok x).p),(76,.r (TR.ok y).p),(76,.r (TR.ok z).p),(195,.T),(207,.r (Ty.two true s s).p),(208,.r (Ty.two true .list (.two true s s)).p),(209,.r (Ty.two true .nat (.two true .list (.two true s s))).p),(210,.T),(218,.T),(224,.r s.p)] h1 h3 h5 h7 h8 h9 h9' h10 h11 (xC s),(show s.size<=qA by omega),by simp only [bB,e8,e9,e10,cond_true]⟩
def Tm.sh:Nat->Int->Tm->Tm
 | c,z,.v i=>if c<=i then .v (Int.ofNat i+z).toNat else .v i
 | c,z,.lam s b => .lam s (b.sh (c+1) z)
 | _,_,.n0 k => .n0 k
 | c,z,.n1 k a => .n1 k (a.sh c z)
 | c,z,.n2 k a b => .n2 k (a.sh c z) (b.sh c z)
 | c,z,.n3 k s a b d => .n3 k s (a.sh c z) (b.sh c z) (d.sh c z)
theorem wC (z:Int):∀ (t:Tm) (c:Nat),(t.sh c z).cnt=t.cnt
 | .v i,c=>by simp only [Tm.sh];split<;>rfl
 | .lam s b,c=>by simp only [Tm.sh,Tm.cnt,wC z b]
 | .n0 k,c=>rfl
 | .n1 k a,c=>by simp only [Tm.sh,Tm.cnt,wC z a]
 | .n2 k a b,c=>by simp only [Tm.sh,Tm.cnt,wC z a,wC z b]
 | .n3 k s a b d,c=>by simp only [Tm.sh,Tm.cnt,wC z a,wC z b,wC z d]
theorem TD (z:Int):∀ (t:Tm) (c:Nat),(t.sh c z).tsz=t.tsz
 | .v i,c=>by simp only [Tm.sh];split<;>rfl
 | .lam s b,c=>by simp only [Tm.sh,Tm.tsz,TD z b]
 | .n0 k,c=>rfl
 | .n1 k a,c=>by simp only [Tm.sh,Tm.tsz,TD z a]
 | .n2 k a b,c=>by simp only [Tm.sh,Tm.tsz,TD z a,TD z b]
 | .n3 k s a b d,c=>by simp only [Tm.sh,Tm.tsz,TD z a,TD z b,TD z d]
theorem nE (z:Int):∀ (t:Tm) (c:Nat),(t.sh c z).mx<=t.mx+z.toNat
 | .v i,c=>by simp only [Tm.sh];split<;>simp [Tm.mx]<;>omega
 | .lam s b,c=>nE z b (c+1)
 | .n0 k,c=>Nat.zero_le _
 | .n1 k a,c=>nE z a c
 | .n2 k a b,c=>by have:=nE z a c;have:=nE z b c;simp only [Tm.sh,Tm.mx];omega
 | .n3 k s a b d,c=>by have:=nE z a c;have:=nE z b c;have:=nE z d c;simp only [Tm.sh,Tm.mx];omega
theorem rn {z:Int} (h:0<=z) (h':z<=1152921504606846976):rA z=true/\z = .ofNat z.toNat:=by
 obtain⟨n,rfl⟩:=Int.eq_ofNat_of_zero_le h;exact⟨eA,by simp⟩
theorem iH {a b:Nat} (h:b<=a):(!kA (.ofNat a) (.ofNat b))=true:=by rw [CA h];rfl
theorem lF {a b:Nat} (h:a<b:=by omega):(!kA (.ofNat a) (.ofNat b))=false:=by rw [aA h];rfl
theorem qG:∀ (t:Tm) (c:Nat) (z:Int),0<=c+z->z<=qA->t.mx<=qA * qA->c+t.cnt<=qA->A 121 [t.p,num c,.int z] (t.sh c z).p
 | .v i,c,z,h1,h2,h3,h4=>by
  have hm:=jA;have h3:i<=qA * qA:=h3;rw [hm] at h3;by_cases h:c<=i
  ·have e:(Tm.v i).sh c z = .v (Int.ofNat i+z).toNat:=by simp only [Tm.sh,if_pos h]
   rw [e];exact f2 [(24,.G),(29,.z (Int.ofNat i+z).toNat)] (iH h) (rn (z:=Int.ofNat i+z) (by simp;omega) (by simp;omega))
  ·have e:(Tm.v i).sh c z = .v i:=by simp only [Tm.sh,if_neg h]
   rw [e];exact f1 [(24,.H)] (lF (show i<c by omega))
 | .lam s b,c,z,h1,h2,h3,h4=>by
  have h4:c+(1+b.cnt)<=qA:=h4;have hm:=jA;exact f2 [(44,.ok),(46,.r (b.sh (c+1) z).p)] (eA (show c+1<=_ by omega)) (qG b (c+1) z (by omega) h2 h3 (by omega))
 | .n0 k,c,z,_,_,_,_=>by cases k<;>exact f0 []
 | .n1 k a,c,z,h1,h2,h3,h4=>by
  have h4:c+(1+a.cnt)<=qA:=h4;have hm:=jA;have h5:=eA (show c<=_ by omega);cases k<;>exact f2 [(44,.ok),(46,.r (a.sh c z).p)] h5 (qG a c z h1 h2 h3 (by omega))
 | .n2 k a b,c,z,h1,h2,h3,h4=>by
  have h3:max a.mx b.mx<=qA * qA:=h3;have h4:c+(1+a.cnt+b.cnt)<=qA:=h4;have hm:=jA;have h5:=eA (show c<=_ by omega);have h6:=qG a c z h1 h2 (by omega) (by omega);have h7:=qG b c z h1 h2 (by omega) (by omega);cases k<;>exact f4 [(44,.ok),(46,.r (a.sh c z).p),(44,.ok),(46,.r (b.sh c z).p)] h5 h6 h5 h7
 | .n3 k s a b d,c,z,h1,h2,h3,h4=>by
  have h3:max a.mx (max b.mx d.mx)<=qA * qA:=h3;have h4:c+(1+a.cnt+b.cnt+d.cnt)<=qA:=h4;have hm:=jA;have h5:=eA (show c<=_ by omega);have h6:=qG a c z h1 h2 (by omega) (by omega);have h7:=qG b c z h1 h2 (by omega) (by omega);have h8:=qG d c z h1 h2 (by omega) (by omega);cases k<;>exact f6 [(44,.ok),(46,.r (a.sh c z).p),(44,.ok),(46,.r (b.sh c z).p),(44,.ok),(46,.r (d.sh c z).p)] h5 h6 h5 h7 h5 h8
def Tm.occ:Nat->Tm->Nat
 | c,.v i=>if i=c then 1 else 0
 | c,.lam _ b=>b.occ (c+1)
 | _,.n0 _=>0
 | c,.n1 _ a=>a.occ c
 | c,.n2 _ a b=>a.occ c+b.occ c
 | c,.n3 _ _ a b d=>a.occ c+b.occ c+d.occ c
theorem cB:∀ (t:Tm) (c:Nat),t.occ c<=t.cnt
 | .v i,c=>by simp only [Tm.occ,Tm.cnt];split<;>omega
 | .lam s b,c=>by have:=cB b (c+1);simp only [Tm.occ,Tm.cnt];omega
 | .n0 k,c=>Nat.zero_le _
 | .n1 k a,c=>by have:=cB a c;simp only [Tm.occ,Tm.cnt];omega
 | .n2 k a b,c=>by have:=cB a c;have:=cB b c;simp only [Tm.occ,Tm.cnt];omega
 | .n3 k s a b d,c=>by have:=cB a c;have:=cB b c;have:=cB d c;simp only [Tm.occ,Tm.cnt];omega
theorem oH:∀ (t:Tm) (c:Nat),c+t.cnt<=qA->A 341 [t.p,num c] (num (t.occ c))
 | .v i,c,h4=>by
  by_cases h:i=c
  ·have e:(Tm.v i).occ c=1:=by simp only [Tm.occ,if_pos h]
   rw [e];subst h;exact f1 [(15,.G)] (xI i)
  ·have e:(Tm.v i).occ c=0:=by simp only [Tm.occ,if_neg h]
   rw [e];exact f1 [(15,.H)] (YF h)
 | .lam s b,c,h4=>by
  have h4:c+(1+b.cnt)<=qA:=h4;have hm:=jA;have u0:=cB b (c+1);have p0:=eA (show (c+1)<=_ by omega);have q0:=oH b (c+1) (by omega);have r0:rA (.ofNat (0) + .ofNat (b.occ (c+1)))=true/\Int.ofNat (0) + .ofNat (b.occ (c+1)) = .ofNat (b.occ (c+1)):=⟨eA (show 0+b.occ (c+1)<=_ by omega),by simp⟩;exact f3 [(31,.ok),(32,.N (b.occ (c+1))),(33,.z (b.occ (c+1)))] p0 q0 r0
 | .n0 k,c,h4=>by
  cases k<;>exact f0 []
 | .n1 k a,c,h4=>by
  have h4:c+(1+a.cnt)<=qA:=h4;have hm:=jA;have u0:=cB a c;have p0:=eA (show c<=_ by omega);have q0:=oH a c (by omega);have r0:rA (.ofNat (0) + .ofNat (a.occ c))=true/\Int.ofNat (0) + .ofNat (a.occ c) = .ofNat (a.occ c):=⟨eA (show 0+a.occ c<=_ by omega),by simp⟩;cases k<;>exact f3 [(31,.ok),(32,.N (a.occ c)),(33,.z (a.occ c))] p0 q0 r0
 | .n2 k a b,c,h4=>by
  have h4:c+(1+a.cnt+b.cnt)<=qA:=h4;have hm:=jA;have u0:=cB a c;have p0:=eA (show c<=_ by omega);have q0:=oH a c (by omega);have r0:rA (.ofNat (0) + .ofNat (a.occ c))=true/\Int.ofNat (0) + .ofNat (a.occ c) = .ofNat (a.occ c):=⟨eA (show 0+a.occ c<=_ by omega),by simp⟩;have u1:=cB b c;have p1:=eA (show c<=_ by omega);have q1:=oH b c (by omega);have r1:rA (.ofNat (a.occ c) + .ofNat (b.occ c))=true/\Int.ofNat (a.occ c) + .ofNat (b.occ c) = .ofNat (a.occ c+b.occ c):=⟨eA (show a.occ c+b.occ c<=_ by omega),by simp⟩;cases k<;>exact f6 [(31,.ok),(32,.N (a.occ c)),(33,.z (a.occ c)),(31,.ok),(32,.N (b.occ c)),(33,.z (a.occ c+b.occ c))] p0 q0 r0 p1 q1 r1
 | .n3 k s a b d,c,h4=>by
  have h4:c+(1+a.cnt+b.cnt+d.cnt)<=qA:=h4;have hm:=jA;have u0:=cB a c;have p0:=eA (show c<=_ by omega);have q0:=oH a c (by omega);have r0:rA (.ofNat (0) + .ofNat (a.occ c))=true/\Int.ofNat (0) + .ofNat (a.occ c) = .ofNat (a.occ c):=⟨eA (show 0+a.occ c<=_ by omega),by simp⟩;have u1:=cB b c;have p1:=eA (show c<=_ by omega);have q1:=oH b c (by omega);have r1:rA (.ofNat (a.occ c) + .ofNat (b.occ c))=true/\Int.ofNat (a.occ c) + .ofNat (b.occ c) = .ofNat (a.occ c+b.occ c):=⟨eA (show a.occ c+b.occ c<=_ by omega),by simp⟩;have u2:=cB d c;have p2:=eA (show c<=_ by omega);have q2:=oH d c (by omega);have r2:rA (.ofNat (a.occ c+b.occ c) + .ofNat (d.occ c))=true/\Int.ofNat (a.occ c+b.occ c) + .ofNat (d.occ c) = .ofNat (a.occ c+b.occ c+d.occ c):=⟨eA (show a.occ c+b.occ c+d.occ c<=_ by omega),by simp⟩;cases k<;>exact f9 [(31,.ok),(32,.N (a.occ c)),(33,.z (a.occ c)),(31,.ok),(32,.N (b.occ c)),(33,.z (a.occ c+b.occ c)),(31,.ok),(32,.N (d.occ c)),(33,.z (a.occ c+b.occ c+d.occ c))] p0 q0 r0 p1 q1 r1 p2 q2 r2
def Tm.put:Tm->Nat->Tm->Nat->Tm
 | .v i,c,s,d=>if i=c+d then s.sh 0 (.ofNat (c+d)) else if c+d<i then .v (i-1) else .v i
 | .lam u b,c,s,d => .lam u (b.put c s (d+1))
 | .n0 k,_,_,_ => .n0 k
 | .n1 k a,c,s,d => .n1 k (a.put c s d)
 | .n2 k a b,c,s,d => .n2 k (a.put c s d) (b.put c s d)
 | .n3 k u a b e,c,s,d => .n3 k u (a.put c s d) (b.put c s d) (e.put c s d)
theorem BI:∀ (t:Tm) (c:Nat),c+t.cnt<=qA->∃ r,A 303 [t.p,num c] (.bool r)/\(r=true↔t.occ c≠0)
 | .v i,c,h4=>by
  by_cases h:i=c
  ·exact⟨true,f1 [(14,.G)] (show lB (.ofNat i) (.ofNat c)=true by rw [h];exact xI c),by simp_all [Tm.occ]⟩
  ·exact⟨false,f1 [(14,.H)] (YF h),by simp_all [Tm.occ]⟩
 | .lam s b,c,h4=>by
  have h4:c+(1+b.cnt)<=qA:=h4;have hm:=jA;have p0:=eA (show (c+1)<=_ by omega);obtain⟨r0,q0,i0⟩:=BI b (c+1) (by omega);cases r0
  ·exact⟨false,f2 [(27,.ok),(28,.F)] p0 q0,by simp_all [Tm.occ]⟩
  ·exact⟨true,f2 [(27,.ok),(28,.T)] p0 q0,by simp_all [Tm.occ]⟩
 | .n0 k,c,h4=>by
  cases k<;>exact⟨false,f0 [],by simp_all [Tm.occ]⟩
 | .n1 k a,c,h4=>by
  have h4:c+(1+a.cnt)<=qA:=h4;have hm:=jA;have p0:=eA (show c<=_ by omega);obtain⟨r0,q0,i0⟩:=BI a c (by omega);cases r0
  ·cases k<;>exact⟨false,f2 [(27,.ok),(28,.F)] p0 q0,by simp_all [Tm.occ]⟩
  ·cases k<;>exact⟨true,f2 [(27,.ok),(28,.T)] p0 q0,by simp_all [Tm.occ]⟩
 | .n2 k a b,c,h4=>by
  have h4:c+(1+a.cnt+b.cnt)<=qA:=h4;have hm:=jA;have p0:=eA (show c<=_ by omega);obtain⟨r0,q0,i0⟩:=BI a c (by omega);have p1:=eA (show c<=_ by omega);obtain⟨r1,q1,i1⟩:=BI b c (by omega);cases r0;rotate_left
  ·cases k<;>exact⟨true,f2 [(27,.ok),(28,.T)] p0 q0,by simp_all [Tm.occ]⟩
  cases r1
  ·cases k<;>exact⟨false,f4 [(27,.ok),(28,.F),(27,.ok),(28,.F)] p0 q0 p1 q1,by simp_all [Tm.occ]⟩
  ·cases k<;>exact⟨true,f4 [(27,.ok),(28,.F),(27,.ok),(28,.T)] p0 q0 p1 q1,by simp_all [Tm.occ]⟩
 | .n3 k s a b d,c,h4=>by
  have h4:c+(1+a.cnt+b.cnt+d.cnt)<=qA:=h4;have hm:=jA;have p0:=eA (show c<=_ by omega);obtain⟨r0,q0,i0⟩:=BI a c (by omega);have p1:=eA (show c<=_ by omega);obtain⟨r1,q1,i1⟩:=BI b c (by omega);have p2:=eA (show c<=_ by omega);obtain⟨r2,q2,i2⟩:=BI d c (by omega);cases r0;rotate_left
  ·cases k<;>exact⟨true,f2 [(27,.ok),(28,.T)] p0 q0,by simp_all [Tm.occ]⟩
  cases r1;rotate_left
  ·cases k<;>exact⟨true,f4 [(27,.ok),(28,.F),(27,.ok),(28,.T)] p0 q0 p1 q1,by simp_all [Tm.occ]⟩
  cases r2
  ·cases k<;>exact⟨false,f6 [(27,.ok),(28,.F),(27,.ok),(28,.F),(27,.ok),(28,.F)] p0 q0 p1 q1 p2 q2,by simp_all [Tm.occ]⟩
  ·cases k<;>exact⟨true,f6 [(27,.ok),(28,.F),(27,.ok),(28,.F),(27,.ok),(28,.T)] p0 q0 p1 q1 p2 q2,by simp_all [Tm.occ]⟩
theorem z0 (n:Nat):kA (.ofNat n) (.ofNat 0)=false:=CA (Nat.zero_le n)
theorem KG:∀ (t:Tm) (n:Nat),∃ r,A 326 [t.p,num n] (.bool r)/\(r=true↔t.mx<=n)
 | .v i,n=>by
  by_cases h:n<i
  ·exact⟨false,f1 [(10,.G)] (aA h),by simp_all [Tm.mx]<;>omega⟩
  ·exact⟨true,f1 [(10,.H)] (CA (Nat.le_of_not_lt h)),by simp_all [Tm.mx]<;>omega⟩
 | .lam s b,n=>by
  obtain⟨r0,q0,i0⟩:=KG b n;cases r0
  ·exact⟨false,f2 [(10,.H),(20,.F)] (z0 n) q0,by simp_all [Tm.mx]<;>omega⟩
  ·exact⟨true,f2 [(10,.H),(20,.T)] (z0 n) q0,by simp_all [Tm.mx]<;>omega⟩
 | .n0 k,n=>by
  exact⟨true,f1 [(10,.H)] (z0 n),by simp_all [Tm.mx]<;>omega⟩
 | .n1 k a,n=>by
  obtain⟨r0,q0,i0⟩:=KG a n;cases r0
  ·exact⟨false,f2 [(10,.H),(20,.F)] (z0 n) q0,by simp_all [Tm.mx]<;>omega⟩
  ·exact⟨true,f2 [(10,.H),(20,.T)] (z0 n) q0,by simp_all [Tm.mx]<;>omega⟩
 | .n2 k a b,n=>by
  obtain⟨r0,q0,i0⟩:=KG a n;obtain⟨r1,q1,i1⟩:=KG b n;cases r0
  ·exact⟨false,f2 [(10,.H),(20,.F)] (z0 n) q0,by simp_all [Tm.mx]<;>omega⟩
  cases r1
  ·exact⟨false,f3 [(10,.H),(20,.T),(20,.F)] (z0 n) q0 q1,by simp_all [Tm.mx]<;>omega⟩
  ·exact⟨true,f3 [(10,.H),(20,.T),(20,.T)] (z0 n) q0 q1,by simp_all [Tm.mx]<;>omega⟩
 | .n3 k s a b d,n=>by
  obtain⟨r0,q0,i0⟩:=KG a n;obtain⟨r1,q1,i1⟩:=KG b n;obtain⟨r2,q2,i2⟩:=KG d n;cases r0
  ·exact⟨false,f2 [(10,.H),(20,.F)] (z0 n) q0,by simp_all [Tm.mx]<;>omega⟩
  cases r1
  ·exact⟨false,f3 [(10,.H),(20,.T),(20,.F)] (z0 n) q0 q1,by simp_all [Tm.mx]<;>omega⟩
  cases r2
  ·exact⟨false,f4 [(10,.H),(20,.T),(20,.T),(20,.F)] (z0 n) q0 q1 q2,by simp_all [Tm.mx]<;>omega⟩
  ·exact⟨true,f4 [(10,.H),(20,.T),(20,.T),(20,.T)] (z0 n) q0 q1 q2,by simp_all [Tm.mx]<;>omega⟩
theorem xH:∀ (t:Tm) (c d:Nat) (s:Tm),s.mx<=qA * qA->s.cnt<=qA->t.mx<=qA * qA->c+d+t.cnt<=qA->A 342 [t.p,num c,num d,s.p] (t.put c s d).p
 | .v i,c,d,s,h1,h2,h3,h4=>by
  have hm:=jA;have h3:i<=qA * qA:=h3;have h4:c+d+1<=qA:=h4;have p:=eA (show c+d<=_ by omega);by_cases h:i=c+d
  ·have e:(Tm.v i).put c s d=s.sh 0 (.ofNat (c+d)):=by simp only [Tm.put,if_pos h]
   rw [e];exact f4 [(19,.ok),(20,.G),(24,.ok),(25,.r (s.sh 0 (.ofNat (c+d))).p)] p (show lB (.ofNat i) (.ofNat (c+d))=true by rw [h];exact xI _) p (qG s 0 (.ofNat (c+d)) (by simp;omega) (by simp;omega) h1 (by omega))
  ·by_cases h':c+d<i
   ·have e:(Tm.v i).put c s d = .v (i-1):=by simp only [Tm.put,if_neg h,if_pos h']
    rw [e];have z:rA (Int.ofNat i-1)=true/\Int.ofNat i-1 = .ofNat (i-1):=by
     have e:Int.ofNat i-1 = .ofNat (i-1):=by simp;omega
     exact⟨by rw [e];exact eA (by rw [hm] at h3;omega),e⟩
    exact f5 [(19,.ok),(20,.H),(30,.ok),(31,.G),(34,.z (i-1))] p (YF h) p (aA h') z
   ·have e:(Tm.v i).put c s d = .v i:=by simp only [Tm.put,if_neg h,if_neg h']
    rw [e];exact f4 [(19,.ok),(20,.H),(30,.ok),(31,.H)] p (YF h) p (CA (Nat.le_of_not_lt h'))
 | .lam u b,c,d,s,h1,h2,h3,h4=>by
  have h3:b.mx<=qA * qA:=h3;have h4:c+d+(1+b.cnt)<=qA:=h4;have hm:=jA;have p0:=eA (show (d+1)<=_ by omega);have q0:=xH b c (d+1) s h1 h2 (by omega) (by omega);exact f2 [(58,.ok),(60,.r (b.put c s (d+1)).p)] p0 q0
 | .n0 k,c,d,s,h1,h2,h3,h4=>by
  cases k<;>exact f0 []
 | .n1 k a,c,d,s,h1,h2,h3,h4=>by
  have h3:a.mx<=qA * qA:=h3;have h4:c+d+(1+a.cnt)<=qA:=h4;have hm:=jA;have p0:=eA (show d<=_ by omega);have q0:=xH a c d s h1 h2 (by omega) (by omega);cases k<;>exact f2 [(58,.ok),(60,.r (a.put c s d).p)] p0 q0
 | .n2 k a b,c,d,s,h1,h2,h3,h4=>by
  have h3:max a.mx b.mx<=qA * qA:=h3;have h4:c+d+(1+a.cnt+b.cnt)<=qA:=h4;have hm:=jA;have p0:=eA (show d<=_ by omega);have q0:=xH a c d s h1 h2 (by omega) (by omega);have p1:=eA (show d<=_ by omega);have q1:=xH b c d s h1 h2 (by omega) (by omega);cases k<;>exact f4 [(58,.ok),(60,.r (a.put c s d).p),(58,.ok),(60,.r (b.put c s d).p)] p0 q0 p1 q1
 | .n3 k u a b e,c,d,s,h1,h2,h3,h4=>by
  have h3:max a.mx (max b.mx e.mx)<=qA * qA:=h3;have h4:c+d+(1+a.cnt+b.cnt+e.cnt)<=qA:=h4;have hm:=jA;have p0:=eA (show d<=_ by omega);have q0:=xH a c d s h1 h2 (by omega) (by omega);have p1:=eA (show d<=_ by omega);have q1:=xH b c d s h1 h2 (by omega) (by omega);have p2:=eA (show d<=_ by omega);have q2:=xH e c d s h1 h2 (by omega) (by omega);cases k<;>exact f6 [(58,.ok),(60,.r (a.put c s d).p),(58,.ok),(60,.r (b.put c s d).p),(58,.ok),(60,.r (e.put c s d).p)] p0 q0 p1 q1 p2 q2
open Go.Lg
def Tm.isLam:Tm->Option Tm
 | .lam _ b=>some b
 | _=>none
def Tm.isPair:Tm->Option (Tm × Tm)
 | .n2 .pair a b=>some (a,b)
 | _=>none
def Tm.red:Tm->Option Tm
 | .n1 .fst a=>a.isPair.map (·.1)
 | .n1 .snd a=>a.isPair.map (·.2)
 | .n2 .app f a=>f.isLam.map λ b=>b.put 0 a 0
 | .n3 .re s b f d=>match d with
  | .n0 .zero=>some b
  | .n1 .succ n=>some (.n2 .app (.n2 .app f n) (.n3 .re s b f n))
  | _=>none
 | .n3 .fo s b f d=>match d with
  | .n0 .nil=>some b
  | .n2 .cons h l=>some (.n2 .app (.n2 .app (.n2 .app f h) l) (.n3 .fo s b f l))
  | _=>none
 | _=>none
theorem CI (t:Tm):A 343 [t.p] (.bool t.red.isSome):=by
 cases t with
 | v i=>exact f0 []
 | lam s b=>exact f0 []
 | n0 k=>cases k<;>exact f0 []
 | n1 k a=>cases k with
  | succ=>exact f0 []
  | _=>cases a with
   | v i=>exact f0 []
   | lam s b=>exact f0 []
   | n0 l=>cases l<;>exact f0 []
   | n1 l a=>cases l<;>exact f0 []
   | n2 l a b=>cases l<;>exact f0 []
   | n3 l s a b c=>cases l<;>exact f0 []
 | n2 k f b=>cases k with
  | app=>cases f with
   | v i=>exact f0 []
   | lam s b=>exact f0 []
   | n0 l=>cases l<;>exact f0 []
   | n1 l a=>cases l<;>exact f0 []
   | n2 l a b=>cases l<;>exact f0 []
   | n3 l s a b c=>cases l<;>exact f0 []
  | _=>exact f0 []
 | n3 k s a b d=>cases k<;>cases d with
   | v i=>exact f0 []
   | lam s b=>exact f0 []
   | n0 l=>cases l<;>exact f0 []
   | n1 l a=>cases l<;>exact f0 []
   | n2 l a b=>cases l<;>exact f0 []
   | n3 l s a b c=>cases l<;>exact f0 []
theorem RJ {P:Tm->Tm->Prop} (h1:∀ a b,P (.n1 .fst (.n2 .pair a b)) a) (h2:∀ a b,P (.n1 .snd (.n2 .pair a b)) b) (h3:∀ s b a,P (.n2 .app (.lam s b) a) (b.put 0 a 0))
  (h4:∀ s b f,P (.n3 .re s b f (.n0 .zero)) b) (h5:∀ s b f n,P (.n3 .re s b f (.n1 .succ n)) (.n2 .app (.n2 .app f n) (.n3 .re s b f n)))
  (h6:∀ s b f,P (.n3 .fo s b f (.n0 .nil)) b) (h7:∀ s b f h l,P (.n3 .fo s b f (.n2 .cons h l)) (.n2 .app (.n2 .app (.n2 .app f h) l) (.n3 .fo s b f l))):∀ {t r:Tm},t.red=some r->P t r:=by
 intro t r h
 cases t with
 | v i=>cases h
 | lam s b=>cases h
 | n0 k=>cases h
 | n1 k a=>cases k with
  | succ=>cases h
  | fst=>cases a with
   | n2 l a b=>cases l<;>cases h;exact h1 a b
   | _=>cases h
  | snd=>cases a with
   | n2 l a b=>cases l<;>cases h;exact h2 a b
   | _=>cases h
 | n2 k f b=>cases k with
  | app=>cases f with
   | lam s b=>cases h;exact h3 _ _ _
   | _=>cases h
  | _=>cases h
 | n3 k s a b d=>cases k with
  | re=>cases d with
   | n0 l=>cases l<;>cases h;exact h4 _ _ _
   | n1 l n=>cases l<;>cases h;exact h5 _ _ _ _
   | _=>cases h
  | fo=>cases d with
   | n0 l=>cases l<;>cases h;exact h6 _ _ _
   | n2 l h' t=>cases l<;>cases h;exact h7 _ _ _ _ _
   | _=>cases h
theorem zG (c:Nat) (s:Tm):∀ (t:Tm) (d:Nat),(t.put c s d).cnt+t.occ (c+d)=t.cnt+t.occ (c+d) * s.cnt
 | .v i,d=>by
  simp only [Tm.put,Tm.occ];split
  ·simp [wC,Tm.cnt];omega
  ·split<;>simp [Tm.cnt]
 | .lam u b,d=>by have:=zG c s b (d+1);simp only [Tm.put,Tm.occ,Tm.cnt,Nat.add_assoc] at this ⊢;omega
 | .n0 k,d=>by simp [Tm.put,Tm.occ]
 | .n1 k a,d=>by have:=zG c s a d;simp only [Tm.put,Tm.occ,Tm.cnt];omega
 | .n2 k a b,d=>by have:=zG c s a d;have:=zG c s b d;simp only [Tm.put,Tm.occ,Tm.cnt,Nat.add_mul];omega
 | .n3 k u a b e,d=>by have:=zG c s a d;have:=zG c s b d;have:=zG c s e d;simp only [Tm.put,Tm.occ,Tm.cnt,Nat.add_mul];omega
theorem AH (c:Nat) (s:Tm):∀ (t:Tm) (d:Nat),(t.put c s d).tsz<=max t.tsz s.tsz
 | .v i,d=>by
  simp only [Tm.put];split
  ·rw [TD];omega
  ·split<;>simp [Tm.tsz]
 | .lam u b,d=>by have:=AH c s b (d+1);simp only [Tm.put,Tm.tsz];omega
 | .n0 k,d=>Nat.zero_le _
 | .n1 k a,d=>AH c s a d
 | .n2 k a b,d=>by have:=AH c s a d;have:=AH c s b d;simp only [Tm.put,Tm.tsz];omega
 | .n3 k u a b e,d=>by have:=AH c s a d;have:=AH c s b d;have:=AH c s e d;simp only [Tm.put,Tm.tsz];omega
theorem LG (c:Nat) (s:Tm):∀ (t:Tm) (d:Nat),(t.put c s d).mx<=max t.mx (s.mx+(c+d+t.cnt))
 | .v i,d=>by
  simp only [Tm.put];split
  ·have:=nE (.ofNat (c+d)) s 0;simp [Tm.mx,Tm.cnt] at this ⊢;omega
  ·split<;>simp [Tm.mx]<;>omega
 | .lam u b,d=>by have:=LG c s b (d+1);simp only [Tm.put,Tm.mx,Tm.cnt];omega
 | .n0 k,d=>by simp [Tm.put,Tm.mx]
 | .n1 k a,d=>by have:=LG c s a d;simp only [Tm.put,Tm.mx,Tm.cnt];omega
 | .n2 k a b,d=>by have:=LG c s a d;have:=LG c s b d;simp only [Tm.put,Tm.mx,Tm.cnt];omega
 | .n3 k u a b e,d=>by have:=LG c s a d;have:=LG c s b d;have:=LG c s e d;simp only [Tm.put,Tm.mx,Tm.cnt];omega
theorem tn:∀ {t r:Tm},t.red=some r->r.mx<=t.mx+t.cnt/\r.tsz<=t.tsz:=by
 refine RJ (P:=λ t r=>r.mx<=t.mx+t.cnt/\r.tsz<=t.tsz) ?_ ?_ ?_ ?_ ?_ ?_ ?_
 ·intro a b;simp only [Tm.mx,Tm.cnt,Tm.tsz];omega
 ·intro a b;simp only [Tm.mx,Tm.cnt,Tm.tsz];omega
 ·intro s b a;have h1:=LG 0 a b 0;have h2:=AH 0 a b 0;simp only [Tm.mx,Tm.cnt,Tm.tsz] at *
  omega
 all_goals (intros;simp only [Tm.mx,Tm.cnt,Tm.tsz];omega)
theorem qN {z:Int} (h : -1152921504606846976<=z) (h':z<=1152921504606846976):rA z=true:=by
 cases z with
 | ofNat n=>exact eA (by simp at h';omega)
 | negSucc n=>exact Nat.ble_eq_true_of_le (by omega)
theorem xn:∀ {t r:Tm},t.red=some r->t.mx<=qA * qA->t.cnt<=qA->A 345 [t.p] r.p:=by
 refine RJ (P:=λ t r=>t.mx<=qA * qA->t.cnt<=qA->A 345 [t.p] r.p) ?_ ?_ ?_ ?_ ?_ ?_ ?_
 ·intro a b _ _;exact f0 []
 ·intro a b _ _;exact f0 []
 ·intro s b a h1 h2;have hm:=jA;simp only [Tm.mx,Tm.cnt] at h1 h2;exact f1 [(21,.r (b.put 0 a 0).p)] (xH b 0 0 a (by omega) (by omega) (by omega) (by omega))
 ·intro s b f _ _;exact f0 []
 ·intro s b f n _ _;exact f3 [(47,.r (Tm.n2 .app f n).p),(60,.r (Tm.n3 .re s b f n).p),(62,.r (Tm.n2 .app (.n2 .app f n) (.n3 .re s b f n)).p)] (bF 3 f n) (JL .re s b f n) (bF 3 (.n2 .app f n) (.n3 .re s b f n))
 ·intro s b f _ _;exact f0 []
 ·intro s b f h l _ _;exact f4 [(95,.r (Tm.n2 .app f h).p),(98,.r (Tm.n2 .app (.n2 .app f h) l).p),(111,.r (Tm.n3 .fo s b f l).p),(113,.r (Tm.n2 .app (.n2 .app (.n2 .app f h) l) (.n3 .fo s b f l)).p)] (bF 3 f h) (bF 3 (.n2 .app f h) l) (JL .fo s b f l) (bF 3 (.n2 .app (.n2 .app f h) l) (.n3 .fo s b f l))
theorem MG {a b:Nat} {z:Int} (h:a<=dA:=by omega) (h':b<=dA:=by omega) (e:(a:Int)-b=z:=by omega):rA (Int.ofNat a-Int.ofNat b)=true/\Int.ofNat a-Int.ofNat b=z:=by
 have hb:=uA;refine⟨qN ?_ ?_,e⟩<;>simp<;>omega
theorem mB {a b:Nat} (h:a+b<=dA:=by omega):rA (Int.ofNat a+Int.ofNat b)=true:=YA (n:=a+b) h
theorem nB {a:Nat} (h:1<=a:=by omega) (h':a<=dA:=by omega):rA (Int.ofNat a-1)=true/\Int.ofNat a-1 = .ofNat (a-1):=by
 have hb:=uA;have e:Int.ofNat a-1 = .ofNat (a-1):=by simp;omega
 exact⟨by rw [e];exact YA,e⟩
theorem ld {a b:Nat} (h:a * b<=dA:=by omega):rA (Int.ofNat a * Int.ofNat b)=true:=YA (n:=a * b) h
theorem pE (a:Tm):1<=a.cnt:=by cases a<;>simp [Tm.cnt]<;>omega
theorem An:∀ {t r:Tm},t.red=some r->t.cnt<=qA->A 344 [t.p] (.int ((r.cnt:Int)-t.cnt)):=by
 have hm:=jA;have hb:=uA;refine @RJ (λ t r=>t.cnt<=qA->A 344 [t.p] (.int ((r.cnt:Int)-t.cnt))) ?_ ?_ ?_ ?_ ?_ ?_ ?_
 ·intro a b h;generalize ht:Tm.n1 .fst (.n2 .pair a b)=t at *
  have h':a.cnt<=qA:=by subst ht;simp only [Tm.cnt] at h;omega
  have h1:=yB t (by omega);have h2:=yB a (by omega);have h3:=MG (a:=a.cnt) (b:=t.cnt) (by omega) (by omega) rfl;subst ht;exact f3 [(9,.N (Tm.n1 .fst (.n2 .pair a b)).cnt),(129,.N a.cnt),(131,.y ((a.cnt:Int)-(Tm.n1 .fst (.n2 .pair a b)).cnt))] h1 h2 h3
 ·intro a b h;generalize ht:Tm.n1 .snd (.n2 .pair a b)=t at *
  have h':b.cnt<=qA:=by subst ht;simp only [Tm.cnt] at h;omega
  have h1:=yB t (by omega);have h2:=yB b (by omega);have h3:=MG (a:=b.cnt) (b:=t.cnt) (by omega) (by omega) rfl;subst ht;exact f3 [(9,.N (Tm.n1 .snd (.n2 .pair a b)).cnt),(139,.N b.cnt),(141,.y ((b.cnt:Int)-(Tm.n1 .snd (.n2 .pair a b)).cnt))] h1 h2 h3
 ·intro s b a h;have h':1+(1+b.cnt)+a.cnt<=qA:=h;have h1:=cB b 0;have h2:=zG 0 a b 0;simp only [Nat.zero_add] at h2;have h4:=pE a;have h3:b.occ 0 * (a.cnt-1)<=qA * qA:=Nat.mul_le_mul (by omega) (by omega);have h5:b.occ 0 * a.cnt=b.occ 0 * (a.cnt-1)+b.occ 0:=by
   have:a.cnt=(a.cnt-1)+1:=by omega
   rw [this,Nat.mul_succ];simp
  rw [hm] at h3;generalize ht:Tm.n2 .app (.lam s b) a=t at *
  have g1:=yB t (by omega);have g2:=yB b (by omega);have g3:=oH b 0 (by omega);have g4:=yB a (by omega);have g5:=nB h4;have g6:=ld (a:=b.occ 0) (b:=a.cnt-1);have g7:=mB (a:=b.cnt) (b:=b.occ 0 * (a.cnt-1));have g8:=MG (a:=b.cnt+b.occ 0 * (a.cnt-1)) (b:=t.cnt) (z:=((b.put 0 a 0).cnt:Int)-t.cnt);subst ht;exact f8 [(9,.N (Tm.n2 .app (.lam s b) a).cnt),(26,.N b.cnt),(28,.N (b.occ 0)),(30,.N a.cnt),(31,.z (a.cnt-1)),(32,.ok),(33,.ok),(35,.y (((b.put 0 a 0).cnt:Int)-(Tm.n2 .app (.lam s b) a).cnt))] g1 g2 g3 g4 g5 g6 g7 g8
 ·intro s b f h;have h':1+b.cnt+f.cnt+1<=qA:=h;generalize ht:Tm.n3 .re s b f (.n0 .zero)=t at *
  have h1:=yB t (by omega);have h2:=yB b (by omega);have h3:=MG (a:=b.cnt) (b:=t.cnt) (by omega) (by omega) rfl;subst ht;exact f3 [(9,.N (Tm.n3 .re s b f (.n0 .zero)).cnt),(48,.N b.cnt),(50,.y ((b.cnt:Int)-(Tm.n3 .re s b f (.n0 .zero)).cnt))] h1 h2 h3
 ·intro s b f n h;have h':1+b.cnt+f.cnt+(1+n.cnt)<=qA:=h;have hz:((Tm.n2 .app (.n2 .app f n) (.n3 .re s b f n)).cnt:Int)-(Tm.n3 .re s b f (.n1 .succ n)).cnt=(1+f.cnt+n.cnt:Nat):=by simp only [Tm.cnt];omega
  rw [hz];generalize ht:Tm.n3 .re s b f (.n1 .succ n)=t at *
  have h1:=yB t (by omega);have h2:=yB f (by omega);have h3:=yB n (by omega);have g1:=mB (a:=2) (b:=f.cnt);have g2:=mB (a:=2+f.cnt) (b:=n.cnt);have g3:=mB (a:=2+f.cnt+n.cnt) (b:=t.cnt);have g4:=nB (a:=2+f.cnt+n.cnt+t.cnt);have g5:=MG (a:=2+f.cnt+n.cnt+t.cnt-1) (b:=t.cnt) (z:=((1+f.cnt+n.cnt:Nat):Int));subst ht;exact f8 [(9,.N (Tm.n3 .re s b f (.n1 .succ n)).cnt),(55,.N f.cnt),(56,.ok),(64,.N n.cnt),(65,.ok),(67,.ok),(68,.z (2+f.cnt+n.cnt+(Tm.n3 .re s b f (.n1 .succ n)).cnt-1)),(70,.y ((1+f.cnt+n.cnt:Nat):Int))] h1 h2 g1 h3 g2 g3 g4 g5
 ·intro s b f h;have h':1+b.cnt+f.cnt+1<=qA:=h;generalize ht:Tm.n3 .fo s b f (.n0 .nil)=t at *
  have h1:=yB t (by omega);have h2:=yB b (by omega);have h3:=MG (a:=b.cnt) (b:=t.cnt) (by omega) (by omega) rfl;subst ht;exact f3 [(9,.N (Tm.n3 .fo s b f (.n0 .nil)).cnt),(83,.N b.cnt),(85,.y ((b.cnt:Int)-(Tm.n3 .fo s b f (.n0 .nil)).cnt))] h1 h2 h3
 ·intro s b f x l h;have h':1+b.cnt+f.cnt+(1+x.cnt+l.cnt)<=qA:=h;have hz:((Tm.n2 .app (.n2 .app (.n2 .app f x) l) (.n3 .fo s b f l)).cnt:Int)-(Tm.n3 .fo s b f (.n2 .cons x l)).cnt=(2+f.cnt+l.cnt:Nat):=by simp only [Tm.cnt];omega
  rw [hz];generalize ht:Tm.n3 .fo s b f (.n2 .cons x l)=t at *
  have h1:=yB t (by omega);have h2:=yB f (by omega);have h3:=yB x (by omega);have h4:=yB l (by omega);have g1:=mB (a:=3) (b:=f.cnt);have g2:=mB (a:=3+f.cnt) (b:=x.cnt);have g2':=mB (a:=3+f.cnt+x.cnt) (b:=l.cnt);have g3:=mB (a:=3+f.cnt+x.cnt+l.cnt) (b:=t.cnt);have g4:=nB (a:=3+f.cnt+x.cnt+l.cnt+t.cnt);have g5:=MG (a:=3+f.cnt+x.cnt+l.cnt+t.cnt-1) (b:=x.cnt) (z:=((2+f.cnt+l.cnt+t.cnt:Nat):Int));have g6:=MG (a:=2+f.cnt+l.cnt+t.cnt) (b:=t.cnt) (z:=((2+f.cnt+l.cnt:Nat):Int));subst ht;exact f12 [(9,.N (Tm.n3 .fo s b f (.n2 .cons x l)).cnt),(104,.N f.cnt),(105,.ok),(107,.N x.cnt),(108,.ok),(110,.N l.cnt),(111,.ok),(113,.ok),(114,.z (3+f.cnt+x.cnt+l.cnt+(Tm.n3 .fo s b f (.n2 .cons x l)).cnt-1)),(116,.N x.cnt),(117,.z (2+f.cnt+l.cnt+(Tm.n3 .fo s b f (.n2 .cons x l)).cnt)),(119,.y ((2+f.cnt+l.cnt:Nat):Int))] h1 h2 g1 h3 g2 h4 g2' g3 g4 h3 g5 g6
open Go.Lg
structure NR where
 k:Nat
 i:Nat
 tk:Nat
 te:List (List PV)
 es:List (List PV)
 fd:Bool
 ft:Bool
def NR.row (c:NR):List PV:=[num c.k,num c.i,num c.tk,.slice c.te,.slice c.es]
def NR.p (c:NR):PV:=.tuple [.agg c.row,.bool c.fd,.bool c.ft]
def NR.of (t:Tm) (fd:Bool):NR:=⟨t.kd,t.ix,t.tk,t.te,t.es,fd,true⟩
def DI (t:Tm) (z:Int) (x:Tm):Prop:=(x.cnt:Int)<=t.cnt+z/\x.mx<=t.mx+t.cnt/\x.tsz<=t.tsz
inductive SR where
 | er|no|ok (x:Tm)
def SR.or (f:Tm->Tm) (r:SR):SR->SR
 | .no=>r
 | .er => .er
 | .ok x => .ok (f x)
def rt (z:Int) (t r:Tm):SR:=bif kA z ((r.cnt:Int)-t.cnt) then .er else .ok r
def Tm.st (z:Int):Tm->SR
 | .v _ => .no
 | .n0 _ => .no
 | .lam s b => .or (.lam s) .no (b.st z)
 | .n1 k a=>match (Tm.n1 k a).red with
  | some r=>rt z (.n1 k a) r
  | none => .or (.n1 k) .no (a.st z)
 | .n2 k a b=>match (Tm.n2 k a b).red with
  | some r=>rt z (.n2 k a b) r
  | none => .or (λ x => .n2 k x b) (.or (.n2 k a) .no (b.st z)) (a.st z)
 | .n3 k s a b c=>match (Tm.n3 k s a b c).red with
  | some r=>rt z (.n3 k s a b c) r
  | none => .or (λ x => .n3 k s x b c) (.or (λ x => .n3 k s a x c) (.or (.n3 k s a b) .no (c.st z)) (b.st z)) (a.st z)
theorem jG {t r:Tm} (h:t.red=some r) (z:Int):t.st z=rt z t r:=by
 cases t with
 | v i=>cases h
 | n0 k=>cases h
 | lam s b=>cases h
 | _=>simp only [Tm.st,h]
theorem LC {f:Tm->Tm} {r q:SR} {x:Tm} (h:SR.or f r q = .ok x):(∃ y,q = .ok y/\x=f y)\/q = .no/\r = .ok x:=by
 cases q with
 | no=>exact .inr ⟨rfl,h⟩
 | er=>cases h
 | ok y=>cases h;exact .inl ⟨y,rfl,rfl⟩
theorem EI (z:Int):∀ (t:Tm) {x:Tm},t.st z = .ok x->DI t z x:=by
 have root:∀ {t r x:Tm},t.red=some r->rt z t r = .ok x->DI t z x:=by
  intro t r x h e;unfold rt at e;cases e1:kA z ((r.cnt:Int)-t.cnt)<;>rw [e1] at e<;>cases e;rw [KB] at e1;have:=of_decide_eq_false e1;exact⟨by omega,tn h⟩
 intro t
 induction t with
 | v i=>intro x h;cases h
 | n0 k=>intro x h;cases h
 | lam s b ih =>
  intro x h;rcases LC h with ⟨y,e,rfl⟩|⟨_,h⟩
  ·obtain⟨e1,e2,e3⟩:=ih e;simp only [DI,Tm.cnt,Tm.mx,Tm.tsz];omega
  ·cases h
 | n1 k a ih =>
  intro x h
  cases hr:(Tm.n1 k a).red with
  | some r=>rw [jG hr] at h;exact root hr h
  | none =>
   simp only [Tm.st,hr] at h;rcases LC h with ⟨y,e,rfl⟩|⟨_,h⟩
   ·obtain⟨e1,e2,e3⟩:=ih e;simp only [DI,Tm.cnt,Tm.mx,Tm.tsz];omega
   ·cases h
 | n2 k a b ih1 ih2 =>
  intro x h
  cases hr:(Tm.n2 k a b).red with
  | some r=>rw [jG hr] at h;exact root hr h
  | none =>
   simp only [Tm.st,hr] at h;rcases LC h with ⟨y,e,rfl⟩|⟨_,h⟩
   ·obtain⟨e1,e2,e3⟩:=ih1 e;simp only [DI,Tm.cnt,Tm.mx,Tm.tsz];omega
   rcases LC h with ⟨y,e,rfl⟩|⟨_,h⟩
   ·obtain⟨e1,e2,e3⟩:=ih2 e;simp only [DI,Tm.cnt,Tm.mx,Tm.tsz];omega
   ·cases h
 | n3 k s a b c ih1 ih2 ih3 =>
  intro x h
  cases hr:(Tm.n3 k s a b c).red with
  | some r=>rw [jG hr] at h;exact root hr h
  | none =>
   simp only [Tm.st,hr] at h;rcases LC h with ⟨y,e,rfl⟩|⟨_,h⟩
   ·obtain⟨e1,e2,e3⟩:=ih1 e;simp only [DI,Tm.cnt,Tm.mx,Tm.tsz];omega
   rcases LC h with ⟨y,e,rfl⟩|⟨_,h⟩
   ·obtain⟨e1,e2,e3⟩:=ih2 e;simp only [DI,Tm.cnt,Tm.mx,Tm.tsz];omega
   rcases LC h with ⟨y,e,rfl⟩|⟨_,h⟩
   ·obtain⟨e1,e2,e3⟩:=ih3 e;simp only [DI,Tm.cnt,Tm.mx,Tm.tsz];omega
   ·cases h
def NR.Is (c:NR):SR->Prop
 | .no=>c.fd=false
 | .er=>c.fd=true/\c.ft=false
 | .ok x=>c.fd=true/\c.ft=true/\c.row=x.c
abbrev NR.Good (c:NR) (t:Tm) (z:Int):Prop:=c.Is (t.st z)
theorem mF {c:NR} {r:SR} (q:c.Is r) (h:c.fd=false):r = .no:=by
 cases r with
 | no=>rfl
 | er=>rw [q.1] at h;cases h
 | ok x=>rw [q.1] at h;cases h
theorem KL {c c':NR} {r r':SR} {f:Tm->Tm} (q:c.Is r) (hf:c.fd=true) (h1:c'.fd=true) (h2:c'.ft=c.ft) (h3:∀ x,c.row=x.c->c'.row=(f x).c):c'.Is (.or f r' r):=by
 cases r with
 | no=>rw [show c.fd=false from q] at hf;cases hf
 | er=>exact⟨h1,h2.trans q.2⟩
 | ok x=>exact⟨h1,h2.trans q.2.1,h3 x q.2.2⟩
theorem BH (f:Tm->Tm) (r:SR):SR.or f r .no=r:=rfl
theorem Bn {c:NR} {x:Tm} (h:c.row=x.c):c.k=x.kd/\c.i=x.ix/\c.tk=x.tk/\c.te=x.te/\c.es=x.es:=by
 simp only [NR.row,Tm.c,List.cons.injEq,PV.int.injEq,PV.slice.injEq,and_true] at h;exact⟨Int.ofNat.inj h.1,Int.ofNat.inj h.2.1,Int.ofNat.inj h.2.2.1,h.2.2.2.1,h.2.2.2.2⟩
theorem SJ {t r:Tm} (h:t.red=some r) (z:Int) (h1:t.mx<=qA * qA:=by omega) (h2:t.cnt<=qA:=by omega):∃ c:NR,A 329 [t.p,.int z] c.p/\c.Good t z:=by
 have g1:=CI t;rw [h] at g1;have g2:=An h h2;simp only [NR.Good,jG h,rt];cases e:kA z ((r.cnt:Int)-t.cnt)
 ·exact⟨.of r true,f4 [(14,.T),(16,.r (.int ((r.cnt:Int)-t.cnt))),(18,.H),(21,.r r.p)] g1 g2 e (xn h h1 h2),rfl,rfl,rfl⟩
 ·exact⟨⟨0,0,0,[],[],true,false⟩,f3 [(14,.T),(16,.r (.int ((r.cnt:Int)-t.cnt))),(18,.G)] g1 g2 e,rfl,rfl⟩
theorem md:∀ (t:Tm) (z:Int),t.mx<=qA * qA->t.cnt<=qA->∃ c:NR,A 329 [t.p,.int z] c.p/\c.Good t z:=by
 intro t z h1 h2
 cases hr:t.red with
 | some r=>exact SJ hr z h1 h2
 | none =>
 have g1:=CI t;rw [hr] at g1
 induction t with
 | v i=>exact⟨.of (.v i) false,f1 [(14,.F)] g1,rfl⟩
 | n0 k=>exact⟨.of (.n0 k) false,f1 [(14,.F)] g1,rfl⟩
 | lam s b ih =>
  have h2':1+b.cnt<=qA:=h2;obtain⟨⟨k,i,tk,te,es,fd,ft⟩,g2,g3⟩:∃ c:NR,A 329 [b.p,.int z] c.p/\c.Good b z:=by
   cases hb:b.red with
   | some r=>exact SJ hb z h1
   | none=>exact ih h1 (by omega) hb (by have:=CI b;rw [hb] at this;exact this)
  cases fd
  ·exact⟨.of (.lam s b) false,f2 [(14,.F),(33,.r (NR.p ⟨k,i,tk,te,es,false,ft⟩))] g1 g2,by show NR.Is _ (SR.or _ _ _);rw [mF g3 rfl];rfl⟩
  ·exact⟨⟨2,0,s.kd,s.es,[NR.row ⟨k,i,tk,te,es,true,ft⟩],true,ft⟩,f2 [(14,.F),(33,.r (NR.p ⟨k,i,tk,te,es,true,ft⟩))] g1 g2,by show NR.Is _ (SR.or _ _ _);exact KL g3 rfl rfl rfl λ x hx=>by rw [hx];rfl⟩
 | n1 k a ih =>
  have h2':1+a.cnt<=qA:=h2;have h1':a.mx<=qA * qA:=h1;obtain⟨⟨ka,ia,tka,tea,esa,fda,fta⟩,ga,qa⟩:∃ c:NR,A 329 [a.p,.int z] c.p/\c.Good a z:=by
   cases hb:a.red with
   | some r=>exact SJ hb z
   | none=>exact ih (by omega) (by omega) hb (by have:=CI a;rw [hb] at this;exact this)
  cases fda;rotate_left
  ·exact⟨⟨(Tm.n1 k a).kd,0,0,[],[NR.row ⟨ka,ia,tka,tea,esa,true,fta⟩],true,fta⟩,f2 [(14,.F),(33,.r (NR.p ⟨ka,ia,tka,tea,esa,true,fta⟩))] g1 ga,by simp only [NR.Good,Tm.st,hr];exact KL qa rfl rfl rfl λ x hx=>by rw [hx];rfl⟩
  exact⟨.of ((Tm.n1 k a)) false,f2 [(14,.F),(33,.r (NR.p ⟨ka,ia,tka,tea,esa,false,fta⟩))] g1 ga,by simp only [NR.Good,Tm.st,hr];rw [mF qa rfl,BH];rfl⟩
 | n2 k a b ih1 ih2 =>
  have h2':1+a.cnt+b.cnt<=qA:=h2;have h1':max a.mx b.mx<=qA * qA:=h1;obtain⟨⟨ka,ia,tka,tea,esa,fda,fta⟩,ga,qa⟩:∃ c:NR,A 329 [a.p,.int z] c.p/\c.Good a z:=by
   cases hb:a.red with
   | some r=>exact SJ hb z
   | none=>exact ih1 (by omega) (by omega) hb (by have:=CI a;rw [hb] at this;exact this)
  cases fda;rotate_left
  ·exact⟨⟨(Tm.n2 k a b).kd,0,0,[],[NR.row ⟨ka,ia,tka,tea,esa,true,fta⟩,b.c],true,fta⟩,f2 [(14,.F),(33,.r (NR.p ⟨ka,ia,tka,tea,esa,true,fta⟩))] g1 ga,by simp only [NR.Good,Tm.st,hr];exact KL qa rfl rfl rfl λ x hx=>by rw [hx];rfl⟩
  obtain⟨⟨kb,ib,tkb,teb,esb,fdb,ftb⟩,gb,qb⟩:∃ c:NR,A 329 [b.p,.int z] c.p/\c.Good b z:=by
   cases hb:b.red with
   | some r=>exact SJ hb z
   | none=>exact ih2 (by omega) (by omega) hb (by have:=CI b;rw [hb] at this;exact this)
  cases fdb;rotate_left
  ·exact⟨⟨(Tm.n2 k a b).kd,0,0,[],[a.c,NR.row ⟨kb,ib,tkb,teb,esb,true,ftb⟩],true,ftb⟩,f3 [(14,.F),(33,.r (NR.p ⟨ka,ia,tka,tea,esa,false,fta⟩)),(33,.r (NR.p ⟨kb,ib,tkb,teb,esb,true,ftb⟩))] g1 ga gb,by simp only [NR.Good,Tm.st,hr];rw [mF qa rfl,BH];exact KL qb rfl rfl rfl λ x hx=>by rw [hx];rfl⟩
  exact⟨.of ((Tm.n2 k a b)) false,f3 [(14,.F),(33,.r (NR.p ⟨ka,ia,tka,tea,esa,false,fta⟩)),(33,.r (NR.p ⟨kb,ib,tkb,teb,esb,false,ftb⟩))] g1 ga gb,by simp only [NR.Good,Tm.st,hr];rw [mF qa rfl,BH,mF qb rfl,BH];rfl⟩
 | n3 k s a b d ih1 ih2 ih3 =>
  have h2':1+a.cnt+b.cnt+d.cnt<=qA:=h2;have h1':max a.mx (max b.mx d.mx)<=qA * qA:=h1;obtain⟨⟨ka,ia,tka,tea,esa,fda,fta⟩,ga,qa⟩:∃ c:NR,A 329 [a.p,.int z] c.p/\c.Good a z:=by
   cases hb:a.red with
   | some r=>exact SJ hb z
   | none=>exact ih1 (by omega) (by omega) hb (by have:=CI a;rw [hb] at this;exact this)
  cases fda;rotate_left
  ·exact⟨⟨(Tm.n3 k s a b d).kd,0,s.kd,s.es,[NR.row ⟨ka,ia,tka,tea,esa,true,fta⟩,b.c,d.c],true,fta⟩,f2 [(14,.F),(33,.r (NR.p ⟨ka,ia,tka,tea,esa,true,fta⟩))] g1 ga,by simp only [NR.Good,Tm.st,hr];exact KL qa rfl rfl rfl λ x hx=>by rw [hx];rfl⟩
  obtain⟨⟨kb,ib,tkb,teb,esb,fdb,ftb⟩,gb,qb⟩:∃ c:NR,A 329 [b.p,.int z] c.p/\c.Good b z:=by
   cases hb:b.red with
   | some r=>exact SJ hb z
   | none=>exact ih2 (by omega) (by omega) hb (by have:=CI b;rw [hb] at this;exact this)
  cases fdb;rotate_left
  ·exact⟨⟨(Tm.n3 k s a b d).kd,0,s.kd,s.es,[a.c,NR.row ⟨kb,ib,tkb,teb,esb,true,ftb⟩,d.c],true,ftb⟩,f3 [(14,.F),(33,.r (NR.p ⟨ka,ia,tka,tea,esa,false,fta⟩)),(33,.r (NR.p ⟨kb,ib,tkb,teb,esb,true,ftb⟩))] g1 ga gb,by simp only [NR.Good,Tm.st,hr];rw [mF qa rfl,BH];exact KL qb rfl rfl rfl λ x hx=>by rw [hx];rfl⟩
  obtain⟨⟨kd,id,tkd,ted,esd,fdd,ftd⟩,gd,qd⟩:∃ c:NR,A 329 [d.p,.int z] c.p/\c.Good d z:=by
   cases hb:d.red with
   | some r=>exact SJ hb z
   | none=>exact ih3 (by omega) (by omega) hb (by have:=CI d;rw [hb] at this;exact this)
  cases fdd;rotate_left
  ·exact⟨⟨(Tm.n3 k s a b d).kd,0,s.kd,s.es,[a.c,b.c,NR.row ⟨kd,id,tkd,ted,esd,true,ftd⟩],true,ftd⟩,f4 [(14,.F),(33,.r (NR.p ⟨ka,ia,tka,tea,esa,false,fta⟩)),(33,.r (NR.p ⟨kb,ib,tkb,teb,esb,false,ftb⟩)),(33,.r (NR.p ⟨kd,id,tkd,ted,esd,true,ftd⟩))] g1 ga gb gd,by simp only [NR.Good,Tm.st,hr];rw [mF qa rfl,BH,mF qb rfl,BH];exact KL qd rfl rfl rfl λ x hx=>by rw [hx];rfl⟩
  exact⟨.of ((Tm.n3 k s a b d)) false,f4 [(14,.F),(33,.r (NR.p ⟨ka,ia,tka,tea,esa,false,fta⟩)),(33,.r (NR.p ⟨kb,ib,tkb,teb,esb,false,ftb⟩)),(33,.r (NR.p ⟨kd,id,tkd,ted,esd,false,ftd⟩))] g1 ga gb gd,by simp only [NR.Good,Tm.st,hr];rw [mF qa rfl,BH,mF qb rfl,BH,mF qd rfl,BH];rfl⟩
inductive NF where
 | ok (x:Tm) (n:Nat)
 | er (e:Nat)
def NF.k:NF->Nat
 | .ok x _=>x.kd
 | .er _=>0
def NF.i:NF->Nat
 | .ok x _=>x.ix
 | .er _=>0
def NF.tk:NF->Nat
 | .ok x _=>x.tk
 | .er _=>0
def NF.te:NF->List (List PV)
 | .ok x _=>x.te
 | .er _=>[]
def NF.es:NF->List (List PV)
 | .ok x _=>x.es
 | .er _=>[]
def NF.n:NF->Nat
 | .ok _ n=>n
 | .er _=>0
def NF.e:NF->Nat
 | .ok _ _=>0
 | .er e=>e+1
def NF.p (r:NF):PV:=.tuple [.agg [num r.k,num r.i,num r.tk,.slice r.te,.slice r.es],num r.n,num r.e]
def rD:Nat->Nat->Tm->NF
 | 0,n,t=>match t.st (4096-t.cnt) with
  | .no => .ok t n
  | _ => .er 4
 | r+1,n,t=>match t.st (4096-t.cnt) with
  | .no => .ok t n
  | .er => .er 3
  | .ok x=>rD r (n+1) x
def FI (t:Tm):NF:=rD 1000 0 t
def Tm.mt (a b:Tm):Prop:=a=b \/ ∃ x k l,FI a = .ok x k/\FI b = .ok x l
def kz:List PV:=[.int 0,.int 0,.int 0,.nils,.nils]
abbrev bx (l:List PV):Ob:=.box (l.map .pv)
abbrev pS:Kp:=⟨[1,2,4,8],[0,1],2,[]⟩
abbrev rS:Kp:=⟨[4,5,6],[1],2,[]⟩
abbrev pd (m n:Nat) (t:Tm):IS:=st [(1,.pv (num m)),(2,.loc 0 0),(4,.loc 1 0),(8,.pv (num n))] [(0,bx t.c),(1,bx kz)] 2 []
abbrev sS (n e:Nat) (l:List PV):IS:=st [(4,.loc 1 0),(5,.pv (num n)),(6,.pv (num e))] [(1,bx l)] 2 []
theorem Cn (m M T:Nat) (hM:M+(m+1) * 4096<=qA * qA) (hT:T<=qA) (hm':m<=qA):∀ (r n:Nat),n+r=m->∀ t:Tm,t.cnt<=4096->t.mx<=M+n * 4096->t.tsz<=T ->
  (∃ x k,Lp 304 0 0 (pd m n t) .ret (sS k 0 (Tm.c x))/\rD r n t = .ok x k/\x.cnt<=4096/\x.mx<=M+m * 4096/\x.tsz<=T/\k<=m) \/ ∃ e,Lp 304 0 0 (pd m n t) .ret (sS 0 (e+1) kz):=by
 have hm:=jA;have hb:=uA;intro r
 induction r with
 | zero =>
  intro n hn t h1 h2 h3;obtain rfl:n=m:=by omega
  obtain⟨⟨k,i,tk,te,es,fd,ft⟩,g1,g2⟩:=md t (4096-t.cnt) (by rw [hm] at hM ⊢;omega) (by omega);have g3:=yB t (by omega);have g4:=MG (a:=4096) (b:=t.cnt) (z:=4096-(t.cnt:Int)) (by omega) (by omega) rfl;cases fd
  ·exact .inl ⟨t,n,x4 [(35,.N t.cnt),(36,.y (4096-(t.cnt:Int))),(37,.r (NR.p ⟨k,i,tk,te,es,false,ft⟩)),(44,.r t.p)] rS g3 g4 g1 (vC t),by rw [rD,mF g2 rfl],h1,h2,h3,Nat.le_refl _⟩
  ·exact .inr ⟨4,x4 [(35,.N t.cnt),(36,.y (4096-(t.cnt:Int))),(37,.r (NR.p ⟨k,i,tk,te,es,true,ft⟩)),(48,.G)] rS g3 g4 g1 (xI n)⟩
 | succ r ih =>
  intro n hn t h1 h2 h3;have hk:n * 4096<=m * 4096:=Nat.mul_le_mul_right _ (by omega);obtain⟨⟨k,i,tk,te,es,fd,ft⟩,g1,g2⟩:=md t (4096-t.cnt) (by rw [hm] at hM ⊢;omega) (by omega);have g3:=yB t (by omega);have g4:=MG (a:=4096) (b:=t.cnt) (z:=4096-(t.cnt:Int)) (by omega) (by omega) rfl;cases fd
  ·exact .inl ⟨t,n,x4 [(35,.N t.cnt),(36,.y (4096-(t.cnt:Int))),(37,.r (NR.p ⟨k,i,tk,te,es,false,ft⟩)),(44,.r t.p)] rS g3 g4 g1 (vC t),by rw [rD,mF g2 rfl],h1,by omega,h3,by omega⟩
  ·have g5:lB (.ofNat n) (.ofNat m)=false:=YF;cases ft
   ·exact .inr ⟨3,x4 [(35,.N t.cnt),(36,.y (4096-(t.cnt:Int))),(37,.r (NR.p ⟨k,i,tk,te,es,true,false⟩)),(48,.H)] rS g3 g4 g1 g5⟩
   ·obtain⟨x,hs,hx⟩:∃ x,t.st (4096-t.cnt) = .ok x/\NR.row ⟨k,i,tk,te,es,true,true⟩=x.c:=by
     simp only [NR.Good] at g2;cases e:t.st (4096-t.cnt)<;>rw [e] at g2
     ·cases g2.2
     ·cases g2
     ·exact⟨_,rfl,g2.2.2⟩
    obtain⟨e1,e2,e3⟩:=EI _ t hs;rw [rD,hs];obtain⟨rfl,rfl,rfl,rfl,rfl⟩:=Bn hx;have g6:=mB (a:=n) (b:=1);rcases ih (n+1) (by omega) x (by omega) (by rw [Nat.add_mul];omega) (by omega) with ⟨y,j,h4,h5⟩|⟨e,h4⟩
    ·exact .inl ⟨y,j,n6 [(35,.N t.cnt),(36,.y (4096-(t.cnt:Int))),(37,.r (NR.p (.of x true))),(48,.H),(31,.ok)] pS g3 g4 g1 g5 g6 h4,h5⟩
    ·exact .inr ⟨e,n6 [(35,.N t.cnt),(36,.y (4096-(t.cnt:Int))),(37,.r (NR.p (.of x true))),(48,.H),(31,.ok)] pS g3 g4 g1 g5 g6 h4⟩
def NF.Good (t:Tm):NF->Prop
 | .ok x _=>x.cnt<=4096/\x.mx<=t.mx+1001 * 4096/\x.tsz<=t.tsz
 | .er _=>True
theorem aS (t:Tm) (h1:t.cnt<=dA) (h2:t.mx+1001 * 4096<=qA * qA) (h3:t.tsz<=qA:=by omega):∃ r:NF,A 304 [t.p,num 1000] r.p/\r.Good t /\ ∀ x k,r = .ok x k->FI t = .ok x k:=by
 have hm:=jA;have hb:=uA;have g1:=cH t (by omega) h1;by_cases hc:t.shp=true/\t.cnt<=4096
 ·have e1:t.chk=0:=by
   unfold Tm.chk;rw [hc.1];simp only;rw [CA hc.2]
  rw [e1] at g1;obtain⟨q,g2,_⟩:=KG t 536870912;cases q
  ·exact⟨.er 0,f2 [(13,.N 0),(26,.F)] g1 g2,trivial,λ _ _ h=>nomatch h⟩
  ·rcases Cn 1000 t.mx t.tsz (by omega) h3 (by omega) 1000 0 rfl t hc.2 (by omega) (Nat.le_refl _) with ⟨x,k,h4,hn,h5,h6,h7,h8⟩|⟨e,h4⟩
   ·exact⟨.ok x k,f3 [(13,.N 0),(26,.T),(100008,.l pS .ret (sS k 0 x.c))] g1 g2 h4,⟨h5,by omega,h7⟩,λ _ _ e=>by cases e;exact hn⟩
   ·exact⟨.er e,f3 [(13,.N 0),(26,.T),(100008,.l pS .ret (sS 0 (e+1) kz))] g1 g2 h4,trivial,λ _ _ h=>nomatch h⟩
 ·have e1:t.chk=2\/t.chk=4:=by
   unfold Tm.chk;cases e:t.shp
   ·exact .inl rfl
   ·simp only;rw [aA (by have h:t.cnt > 4096:=Nat.lt_of_not_le (λ h=>hc ⟨e,h⟩);exact h)];exact .inr rfl
  rcases e1 with e1|e1<;>rw [e1] at g1
  ·exact⟨.er 1,f1 [(13,.N 2)] g1,trivial,λ _ _ h=>nomatch h⟩
  ·exact⟨.er 3,f1 [(13,.N 4)] g1,trivial,λ _ _ h=>nomatch h⟩
theorem sd (a b:Tm) (h1:a.cnt<=dA) (h2:a.mx+1001 * 4096<=qA * qA) (h3:a.tsz<=qA) (h4:b.cnt<=dA) (h5:b.mx+1001 * 4096<=qA * qA) (h6:b.tsz<=qA:=by omega):∃ e,A 300 [a.p,b.p,num 1000] (num e)/\(e=0->a.mt b):=by
 have hm:=jA;have hb:=uA;have g1:=cH a (by omega) h1;have g2:=cH b (by omega) h4
 cases e1:a.chk with
 | succ n=>rw [e1] at g1;exact⟨n+1,f1 [(15,.N (n+1))] g1,λ h=>nomatch h⟩
 | zero =>
  rw [e1] at g1
  cases e2:b.chk with
  | succ n=>rw [e2] at g2;exact⟨n+1,f2 [(15,.N 0),(20,.N (n+1))] g1 g2,λ h=>nomatch h⟩
  | zero =>
   rw [e2] at g2;obtain⟨q,g3,q3⟩:=eH a b;cases q;rotate_left
   ·exact⟨0,f3 [(15,.N 0),(20,.N 0),(26,.T)] g1 g2 g3,λ _ => .inl (q3.1 rfl)⟩
   obtain⟨r,g4,_,q4⟩:=aS a h1 h2 h3;obtain⟨s,g5,_,q5⟩:=aS b h4 h5 h6
   cases r with
   | er e=>exact⟨e+1,f4 [(15,.N 0),(20,.N 0),(26,.F),(30,.r (NF.er e).p)] g1 g2 g3 g4,λ h=>nomatch h⟩
   | ok x n =>
    cases s with
    | er e=>exact⟨e+1,f5 [(15,.N 0),(20,.N 0),(26,.F),(30,.r (NF.ok x n).p),(40,.r (NF.er e).p)] g1 g2 g3 g4 g5,λ h=>nomatch h⟩
    | ok y m =>
     obtain⟨q,g6,q6⟩:=eH x y;cases q
     ·exact⟨11,f6 [(15,.N 0),(20,.N 0),(26,.F),(30,.r (NF.ok x n).p),(40,.r (NF.ok y m).p),(49,.F)] g1 g2 g3 g4 g5 g6,λ h=>nomatch h⟩
     ·exact⟨0,f6 [(15,.N 0),(20,.N 0),(26,.F),(30,.r (NF.ok x n).p),(40,.r (NF.ok y m).p),(49,.T)] g1 g2 g3 g4 g5 g6,λ _ => .inr ⟨x,n,m,q4 _ _ rfl,by rw [q6.1 rfl];exact q5 _ _ rfl⟩⟩
open Go.Lg
def TA:Nat->Tm
 | 0 => .n0 .zero
 | n+1 => .n1 .succ (TA n)
def plusT:Tm:=.lam .nat (.lam .nat (.n3 .re .nat (.v 1) (.lam .nat (.lam .nat (.n1 .succ (.v 0)))) (.v 0)))
def predT:Tm:=.lam .nat (.n3 .re .nat (.n0 .zero) (.lam .nat (.lam .nat (.v 1))) (.v 0))
def subT:Tm:=.lam .nat (.lam .nat (.n3 .re .nat (.v 1) (.lam .nat (.lam .nat (.n2 .app predT (.v 0)))) (.v 0)))
theorem Dn {n:Nat} (h:n<4):A 80 [num n] (.tuple [(TA n).p,num 0]):=by
 match n,h with
 | 0,_=>exact f0 []
 | 1,_=>exact f0 []
 | 2,_=>exact f0 []
 | 3,_=>exact f0 []
theorem NG (t:Tm):A 182 [t.p] (Tm.lam .nat t).p:=f1 [(6,.r (Tm.lam .nat t).p)] (UC .nat t)
theorem QW (a b c:Tm):A 183 [a.p,b.p,c.p] (Tm.n3 .re .nat a b c).p:=f1 [(12,.r (Tm.n3 .re .nat a b c).p)] (JL .re .nat a b c)
theorem iP:A 119 [] plusT.p:=by
 let x1:=Tm.n1 .succ (.v 0);let x2:=Tm.lam .nat x1;let x3:=Tm.lam .nat x2;let x4:=Tm.n3 .re .nat (.v 1) x3 (.v 0);let x5:=Tm.lam .nat x4;exact f6 [(4,.r x1.p),(5,.r x2.p),(6,.r x3.p),(8,.r x4.p),(9,.r x5.p),(10,.r plusT.p)] (eP 5 (.v 0)) (NG x1) (NG x2) (QW (.v 1) x3 (.v 0)) (NG x4) (NG x5)
theorem En:A 184 [] predT.p:=by
 let x2:=Tm.lam .nat (.v 1);let x3:=Tm.lam .nat x2;let x4:=Tm.n3 .re .nat (.n0 .zero) x3 (.v 0);exact f5 [(1,.r (Tm.n0 .zero).p),(3,.r x2.p),(4,.r x3.p),(6,.r x4.p),(7,.r predT.p)] (cP 4) (NG (.v 1)) (NG x2) (QW (.n0 .zero) x3 (.v 0)) (NG x4)
theorem cS:A 120 [] subT.p:=by
 let x1:=Tm.n2 .app predT (.v 0);let x2:=Tm.lam .nat x1;let x3:=Tm.lam .nat x2;let x4:=Tm.n3 .re .nat (.v 1) x3 (.v 0);let x5:=Tm.lam .nat x4;exact f7 [(2,.r predT.p),(5,.r x1.p),(6,.r x2.p),(7,.r x3.p),(9,.r x4.p),(10,.r x5.p),(11,.r subT.p)] En (bF 3 predT (.v 0)) (NG x1) (NG x2) (QW (.v 1) x3 (.v 0)) (NG x4) (NG x5)
abbrev zt:PV:=.agg [num 0,.slice []]
def Fm.cnt:Fm->Nat
 | .eq a b=>1+a.cnt+b.cnt
 | .bin _ f g=>1+f.cnt+g.cnt
 | .q _ _ f=>1+f.cnt
def Fm.mx:Fm->Nat
 | .eq a b=>max a.mx b.mx
 | .bin _ f g=>max f.mx g.mx
 | .q _ _ f=>f.mx
def Fm.tsz:Fm->Nat
 | .eq a b=>max a.tsz b.tsz
 | .bin _ f g=>max f.tsz g.tsz
 | .q _ s f=>max s.size f.tsz
theorem MB:∀ f:Fm,A 16 [f.p] f.p
 | .eq a b=>f3 [(12,.r zt),(24,.r a.p),(24,.r b.p)] uF (vC a) (vC b)
 | .bin k f g=>f3 [(12,.r zt),(39,.r f.p),(39,.r g.p)] uF (MB f) (MB g)
 | .q k s f=>f2 [(12,.r s.p),(39,.r f.p)] (xC s) (MB f)
theorem oP (k:FB) (f g:Fm):A 110 [num k.n,f.p,g.p] (Fm.bin k f g).p:=f2 [(9,.r f.p),(11,.r g.p)] (MB f) (MB g)
theorem sD (k:FQ) (s:Ty) (f:Fm):A 64 [num k.n,s.p,f.p] (Fm.q k s f).p:=f2 [(9,.r s.p),(11,.r f.p)] (xC s) (MB f)
theorem rE (a b:Tm):A 65 [a.p,b.p] (Fm.eq a b).p:=f2 [(6,.r a.p),(8,.r b.p)] (vC a) (vC b)
theorem UD:∀ f:Fm,f.cnt<=dA->A 102 [f.p] (num f.cnt)
 | .eq a b,h=>by
  have h:1+a.cnt+b.cnt<=dA:=h;have hb:=uA;exact f4 [(17,.N a.cnt),(18,.ok),(17,.N b.cnt),(18,.ok)] (yB a (by omega)) (mB (a:=1) (b:=a.cnt)) (yB b (by omega)) (mB (a:=1+a.cnt) (b:=b.cnt) h)
 | .bin k f g,h=>by
  have h:1+f.cnt+g.cnt<=dA:=h;have hb:=uA;exact f4 [(29,.N f.cnt),(30,.ok),(29,.N g.cnt),(30,.ok)] (UD f (by omega)) (mB (a:=1) (b:=f.cnt)) (UD g (by omega)) (mB (a:=1+f.cnt) (b:=g.cnt) h)
 | .q k s f,h=>by
  have h:1+f.cnt<=dA:=h;exact f2 [(29,.N f.cnt),(30,.ok)] (UD f (by omega)) (mB (a:=1) (b:=f.cnt) h)
def Fm.shp:Fm->Bool
 | .eq a b=>a.shp && b.shp
 | .bin _ f g=>f.shp && g.shp
 | .q _ s f=>Nat.beq s.chk 0 && f.shp
theorem GI:∀ f:Fm,f.tsz<=qA->A 195 [f.p] (.bool f.shp)
 | .eq a b,h=>by
  have h:max a.tsz b.tsz<=qA:=h;have hm:=jA;have hb:=uA;have h1:=lE a (by omega);have h2:=lE b (by omega);show A 195 [(Fm.eq a b).p] (.bool (a.shp && b.shp));cases e1:a.shp<;>rw [e1] at h1
  ·exact f2 [(14,.T),(27,.F)] WA h1
  cases e2:b.shp<;>rw [e2] at h2
  ·exact f3 [(14,.T),(27,.T),(34,.F)] WA h1 h2
  ·exact f3 [(14,.T),(27,.T),(34,.T)] WA h1 h2
 | .bin k f g,h=>by
  have h:max f.tsz g.tsz<=qA:=h;have h1:=GI f (by omega);have h2:=GI g (by omega);show A 195 [(Fm.bin k f g).p] (.bool (f.shp && g.shp));cases e1:f.shp<;>rw [e1] at h1
  ·cases k<;>exact f2 [(52,.T),(65,.F)] WA h1
  cases e2:g.shp<;>rw [e2] at h2
  ·cases k<;>exact f3 [(52,.T),(65,.T),(72,.F)] WA h1 h2
  ·cases k<;>exact f3 [(52,.T),(65,.T),(72,.T)] WA h1 h2
 | .q k s f,h=>by
  have h:max s.size f.tsz<=qA:=h;have hm:=jA;have hb:=uA;have h1:=QJ s;have h2:=GI f (by omega);unfold Fm.shp;rcases XF s with e|e<;>rw [e] at h1 ⊢
  ·cases e1:f.shp<;>rw [e1] at h2
   ·cases k<;>exact f2 [(85,.N 0),(99,.F)] h1 h2
   ·cases k<;>exact f2 [(85,.N 0),(99,.T)] h1 h2
  ·cases k<;>exact f1 [(85,.N 4)] h1
def Fm.chk (f:Fm):Nat:=match f.shp with
 | false=>2
 | true=>match kA (.ofNat 4096) (.ofNat f.cnt) with
  | true=>4
  | false=>0
theorem TJ (f:Fm) (h1:f.tsz<=qA) (h2:f.cnt<=dA:=by omega):A 129 [f.p] (num f.chk):=by
 have h3:=GI f h1;unfold Fm.chk;cases e:f.shp<;>rw [e] at h3
 ·exact f1 [(4,.F)] h3
 ·simp only;cases e1:kA (.ofNat 4096) (.ofNat f.cnt)
  ·exact f3 [(4,.T),(7,.N f.cnt),(8,.H)] h3 (UD f h2) e1
  ·exact f3 [(4,.T),(7,.N f.cnt),(8,.G)] h3 (UD f h2) e1
theorem Fm.chk0 {f:Fm} (h:f.chk=0):f.cnt<=4096/\f.shp=true:=by
 unfold Fm.chk at h;split at h
 ·cases h
 ·rename_i e1;split at h
  ·cases h
  ·rename_i e;refine⟨?_,e1⟩;rw [KB] at e;have:=of_decide_eq_false e;simp at this;omega
def Fm.sh:Nat->Int->Fm->Fm
 | c,z,.eq a b => .eq (a.sh c z) (b.sh c z)
 | c,z,.bin k f g => .bin k (f.sh c z) (g.sh c z)
 | c,z,.q k s f => .q k s (f.sh (c+1) z)
theorem bD:∀ (f:Fm) (c:Nat) (z:Int),0<=c+z->z<=qA->f.mx<=qA * qA->c+f.cnt<=qA->A 69 [f.p,num c,.int z] (f.sh c z).p
 | .eq a b,c,z,h1,h2,h3,h4=>by
  have h3:max a.mx b.mx<=qA * qA:=h3;have h4:c+(1+a.cnt+b.cnt)<=qA:=h4;exact f2 [(29,.r (a.sh c z).p),(29,.r (b.sh c z).p)] (qG a c z h1 h2 (by omega) (by omega)) (qG b c z h1 h2 (by omega) (by omega))
 | .bin k f g,c,z,h1,h2,h3,h4=>by
  have h3:max f.mx g.mx<=qA * qA:=h3;have h4:c+(1+f.cnt+g.cnt)<=qA:=h4;have hm:=jA;have h5:=eA (show c<=_ by omega);have h6:=bD f c z h1 h2 (by omega) (by omega);have h7:=bD g c z h1 h2 (by omega) (by omega);cases k<;>exact f4 [(47,.ok),(49,.r (f.sh c z).p),(47,.ok),(49,.r (g.sh c z).p)] h5 h6 h5 h7
 | .q k s f,c,z,h1,h2,h3,h4=>by
  have h4:c+(1+f.cnt)<=qA:=h4;have hm:=jA;have h5:=eA (show c+1<=_ by omega);have h6:=bD f (c+1) z (by omega) h2 h3 (by omega);cases k<;>exact f2 [(47,.ok),(49,.r (f.sh (c+1) z).p)] h5 h6
theorem GD (z:Int):∀ (f:Fm) (c:Nat),(f.sh c z).cnt=f.cnt
 | .eq a b,c=>by simp only [Fm.sh,Fm.cnt,wC]
 | .bin k f g,c=>by simp only [Fm.sh,Fm.cnt,GD z f,GD z g]
 | .q k s f,c=>by simp only [Fm.sh,Fm.cnt,GD z f]
theorem VD (z:Int):∀ (f:Fm) (c:Nat),(f.sh c z).tsz=f.tsz
 | .eq a b,c=>by simp only [Fm.sh,Fm.tsz,TD]
 | .bin k f g,c=>by simp only [Fm.sh,Fm.tsz,VD z f,VD z g]
 | .q k s f,c=>by simp only [Fm.sh,Fm.tsz,VD z f]
theorem DE (z:Int):∀ (f:Fm) (c:Nat),(f.sh c z).mx<=f.mx+z.toNat
 | .eq a b,c=>by have:=nE z a c;have:=nE z b c;simp only [Fm.sh,Fm.mx];omega
 | .bin k f g,c=>by have:=DE z f c;have:=DE z g c;simp only [Fm.sh,Fm.mx];omega
 | .q k s f,c=>DE z f (c+1)
def Fm.occ:Nat->Fm->Nat
 | c,.eq a b=>a.occ c+b.occ c
 | c,.bin _ f g=>f.occ c+g.occ c
 | c,.q _ _ f=>f.occ (c+1)
theorem xP:∀ (f:Fm) (c:Nat),c+f.cnt<=qA->∃ r,A 273 [f.p,num c] (.bool r)/\(r=true↔f.occ c≠0)
 | .eq a b,c,h=>by
  have h:c+(1+a.cnt+b.cnt)<=qA:=h;obtain⟨r,h1,ir⟩:=BI a c (by omega);obtain⟨q,h2,iq⟩:=BI b c (by omega);cases r
  ·cases q
   ·exact⟨false,f2 [(18,.F),(18,.F)] h1 h2,by simp_all [Fm.occ]⟩
   ·exact⟨true,f2 [(18,.F),(18,.T)] h1 h2,by simp_all [Fm.occ]⟩
  ·exact⟨true,f1 [(18,.T)] h1,by simp_all [Fm.occ]⟩
 | .bin k f g,c,h=>by
  have h:c+(1+f.cnt+g.cnt)<=qA:=h;have hm:=jA;have h5:=eA (show c<=_ by omega);obtain⟨r,h1,ir⟩:=xP f c (by omega);obtain⟨q,h2,iq⟩:=xP g c (by omega);cases r
  ·cases q
   ·cases k<;>exact⟨false,f4 [(31,.ok),(32,.F),(31,.ok),(32,.F)] h5 h1 h5 h2,by simp_all [Fm.occ]⟩
   ·cases k<;>exact⟨true,f4 [(31,.ok),(32,.F),(31,.ok),(32,.T)] h5 h1 h5 h2,by simp_all [Fm.occ]⟩
  ·cases k<;>exact⟨true,f2 [(31,.ok),(32,.T)] h5 h1,by simp_all [Fm.occ]⟩
 | .q k s f,c,h=>by
  have h:c+(1+f.cnt)<=qA:=h;have hm:=jA;have h5:=eA (show c+1<=_ by omega);obtain⟨r,h1,ir⟩:=xP f (c+1) (by omega);cases r
  ·cases k<;>exact⟨false,f2 [(31,.ok),(32,.F)] h5 h1,by simp_all [Fm.occ]⟩
  ·cases k<;>exact⟨true,f2 [(31,.ok),(32,.T)] h5 h1,by simp_all [Fm.occ]⟩
theorem iS:∀ (f:Fm) (n:Nat),∃ r,A 325 [f.p,num n] (.bool r)/\(r=true↔f.mx<=n)
 | .eq a b,c=>by
  obtain⟨r,h1,ir⟩:=KG a c;obtain⟨q,h2,iq⟩:=KG b c;cases r
  ·exact⟨false,f1 [(18,.F)] h1,by simp_all [Fm.mx]<;>omega⟩
  cases q
  ·exact⟨false,f2 [(18,.T),(18,.F)] h1 h2,by simp_all [Fm.mx]<;>omega⟩
  ·exact⟨true,f2 [(18,.T),(18,.T)] h1 h2,by simp_all [Fm.mx]<;>omega⟩
 | .bin k f g,c=>by
  obtain⟨r,h1,ir⟩:=iS f c;obtain⟨q,h2,iq⟩:=iS g c;cases r
  ·exact⟨false,f1 [(30,.F)] h1,by simp_all [Fm.mx]<;>omega⟩
  cases q
  ·exact⟨false,f2 [(30,.T),(30,.F)] h1 h2,by simp_all [Fm.mx]<;>omega⟩
  ·exact⟨true,f2 [(30,.T),(30,.T)] h1 h2,by simp_all [Fm.mx]<;>omega⟩
 | .q k s f,c=>by
  obtain⟨r,h1,ir⟩:=iS f c;cases r
  ·exact⟨false,f1 [(30,.F)] h1,by simp_all [Fm.mx]<;>omega⟩
  ·exact⟨true,f1 [(30,.T)] h1,by simp_all [Fm.mx]<;>omega⟩
end Go.Proofs.YtmkajedkflhbgaaGreatDoor
