/- The engine that computes runs; no conditions. -/
import Derived.Test.YtbebdmlomjpamaaGreatDoorAccB2
import Derived.Test.YtbebdmlomjpamaaGreatDoorAccA4
set_option linter.all false
namespace Go.Lg
def BV(f:SA)(P:Program)(call:wC)(N g h rd:Nat):Code->IS->Di->(Array Oper->Code->IS->Di->Prop)->Prop
 |.seq a b,s,c,k=>match kK rd a with
  |true=>match a with|.region _ d false=>k d b s c|_=>False
  |false=>SD f P call N g h a s c λe s c=>match e with|.normal=>BV f P call N g h rd b s c k|_=>False
 |_,_,_,_=>False
def lS(g:SA)(P:Program)(call:wC)(N h f rg i:Nat)(p:PV):Code->IS->Di->(IS->List Nat->Prop)->Prop
 |.seq a b,s,d,k=>match kK rg a with
  |true=>lS g P call N h f rg i p a s d k|false=>SD g P call N h f a s d λe s d=>match e with|.normal=>lS g P call N h f rg i p b s d k|_=>False
 |.region _ c false,s,d,k=>gS g P call h f c.toList i p c.toList (AL f (YI c.toList) s) d k|_,_,_,_=>False
def mS(s:Tr Ob):List (Nat×Ob)->Prop->Prop|[],R=>R|(n,o)::r,R=>s.get n=some o/\mS s r R
def YN(T:Nat->Option TI)(s:IS)(a:List ResultVar)(x:V):Prop:=match MN T s a with|some a=>dP a=x|none=>False
def CV(b:SA)(P:Program)(N n f:Nat)(a:List V)(co:List (Nat×Ob))(m g:Nat)(h:Di)(p:PV)(x:V)(d:List (Nat×Ob)):Prop:=match b.F f with
 |some fn=>match fn.body with
  |some (.seq _ c)=>gd (KG (tC co)) (gd (BH m (tC co)) (SD b P (LG b P N n) N fn.ntmps m c ⟨RD (CE 0 a .nil) (some g) (.pv p),QB co .nil,m,[]⟩ h λe s _=>match e with|.exit _=>False|_=>mS s.ob d (YN b.T s fn.results.toList x)))
  |_=>False
 |none=>False
def DV(b:SA)(P:Program)(N n f rd:Nat)(args:List PV)(h i:Oper)(co:Array Operand)(a:List V)(g j:Nat)(d:Di)(k:Func->Code->IS->Di->Prop):Prop:=match b.F f with
 |some fn=>match fn.body with
  |some c=>gd (Nat.ble args.length fn.ntmps) (gd (Nat.blt g fn.ntmps) (BV b P (LG b P N n) N fn.ntmps 0 rd c ⟨CE 0 (args.map .pv) .nil,.nil,0,[]⟩ d λe l s d=>
   e= #[h,i]/\co.toList.map (s.val b.gl)=a/\gd (BH s.nx (GA a)) (k fn l ⟨RD s.sl (some g) (.fn j a),s.ob,s.nx,s.dt⟩ d)))
  |none=>False
 |none=>False
def EV(b:SA)(P:Program)(N n f rd:Nat)(args:List PV)(g h:Oper)(co:Array Operand)(a:List V)(i j:Nat)(d:Di)(x:PV):Prop:=
 DV b P N n f rd args g h co a i j d λfn c s d=>SD b P (LG b P N n) N fn.ntmps s.nx c s d λe s _=>match e with|.exit _=>False|_=>YN b.T s fn.results.toList (.pv x)
def Bi(b:SA)(P:Program)(N n f rd rg h:Nat)(args:List PV)(i j:Oper)(co:Array Operand)(a:List V)(k l:Nat)(g d:List (Nat×Ob))(e:Di)(p x:PV):Prop:=
 DV b P N n f rd args i j co a k l e λfn c s e=>lS b P (LG b P N n) N fn.ntmps s.nx rg h p c s e λs ro=>
  mS s.ob g (gd (xP ro (tC g)) (YN b.T ⟨s.sl,QB d .nil,0,[]⟩ fn.results.toList (.pv x)))
section
variable{ev:SA}{P:Program}
inductive Pre(ev:SA)(P:Program)(nt bs:Nat):Code->IS->Code->IS->Prop|nil (c:Code) (s:IS):Pre ev P nt bs c s c s|cons {a b c:Code} {s s1 s2:IS} (h:Reach ev P nt bs a s .normal s1) (h':Pre ev P nt bs b s1 c s2):Pre ev P nt bs (.seq a b) s c s2
def Ci{call:wC}(m:ZF ev P call){N n o rd:Nat}{k:Array Oper->Code->IS->Di->Prop}:∀(c:Code)(s:IS)(g:Di),BV ev P call N n o rd c s g k->∃id d i j f,Pre ev P n o c s (.seq (.region id d false) i) j/\k d i j f
 |.seq a b,s,g,h=>by
  unfold BV at h;split at h
  ·split at h
   ·rename_i id d _;exact⟨id,d,b,s,g,.nil _ _,h⟩
   exact h.elim
  have⟨e,j,f,r,p⟩:=WC m a s g _ h
  cases e with
  |normal=>
   have⟨id,d,i,t,l,u,v⟩:=Ci m b j f p;exact⟨id,d,i,t,l,.cons r u,v⟩
  |_=>exact p.elim
 |.skip,_,_,h=>h.elim|.exit _,_,_,h=>h.elim|.ret,_,_,h=>h.elim|.loop _,_,_,h=>h.elim|.label _,_,_,h=>h.elim|.rangeFunc _ _ _ _,_,_,h=>h.elim|.goto _,_,_,h=>h.elim|.refuse _,_,_,h=>h.elim|.region _ _ _,_,_,h=>h.elim|.block _ _,_,_,h=>h.elim|.scope _,_,_,h=>h.elim|.cond _ _ _,_,_,h=>h.elim
def Pre.wp{k l:Nat}{X:Env1}(r:HX X ev P k l){c m:Code}{s n:IS}(h:Pre ev P k l c s m n):∀{C:Ctx}{E:Env}{σ:St}{a:Act}{w:World}{Q:Exit->Act->World->Prop},SI X C->Rel s σ->Ga C E σ a w->
  (∀t σ' o w',Rel n σ'->Ga C t σ' o w'->m.wp X.P Q o w')->c.wp X.P Q a w:=by
 induction h with
 |nil c s=>exactλ_ d f g=>g _ _ _ _ d f|cons u _ v=>
  intro C E σ a w Q p d f g;refine wp_seq (wp_mono (u.awp X r σ d C E a w p f) ?_)
  rintro e x y ⟨z,σ1,A,i,b,rfl,j⟩
  cases b;exact v p j i g
def abw:=@List.nodup_nil
def AC.rescue{X:Env1}{f bs:Nat}{fn:Func}{c c1:Code}{id L g:Nat}{l Z:Oper}{co:Array Operand}(hX:HX X ev P X.nt bs)(hf:X.P.funcs[f]? =some fn)(hb:fn.body=some c)(M:(fn.name== "runtime.NumGoroutine")=false)(hnt:fn.ntmps=X.nt)
  (hdir:BU X.P g)
  (ho1:l.op=.makeFunc (.func g) #[] co) (hd1:l.dst=some L) (hg1:l.guard=none) (htf:L<X.nt)
  (ho2:Z.op=.defer {callee:=.value (.tmp L),args:=#[],argTypes:=#[]}) (hd2:Z.dst=none) (hg2:Z.guard=none)
  {args:List PV} {x:PV} (hgiven:X.given=[]) (hal:args.length<=X.nt)
  {s1:IS} (h0:Pre ev P X.nt bs c ⟨CE 0 (args.map .pv) .nil,.nil,bs,[]⟩ (.seq (.region id #[l,Z] false) c1) s1) {a:List V} (N:co.toList.map (s1.val X.gl)=a) (hid:lZ X.P g a.length)
  (h1:∀σ1,Rel s1 σ1->AWP (X.more (GA a)) c1 ⟨(L,.fn g a)::σ1.slots,σ1.objs,σ1.used⟩ (Xg X fn.results.toList g a (.pv x) [])):AC X.P X.gl f (args.map .pv) [] (.ret (.pv x)) []:=by
 refine⟨⟨fn,hf,M,by rw[hb];rfl⟩,by simp[Out.names,V.names],by simp[jA],?_⟩;intro E w vs hB hl hr;refine calls_of_wp_defers hf hb ?_;let C:Ctx:=⟨E,w,[],[],X.nt,[]⟩;have O:SI X C:=⟨hB.glob,rfl,λn o b=>(by cases b),λn b=>(by cases b),by simp[C,xG]⟩;have hB:QI X.gl E w []:=hB;have hG:=Ga.entry (X:=X) (fn:=fn) (args:=args.map .pv) (objs:=[]) (ms:=[]) hnt (by simpa using hal) a8 (by rw[Va];simp[yF,KC,kA]) hB hl hr;refine h0.wp hX O (Ya (objs:=[]) (m:=bs) abw (by simp[kA])) hG ?_;intro E1 σ' a1 w1 hR1 hG1;refine wp_seq ?_;refine wp_region_list ?_
 --Q closure
 have⟨v,w2,E2,h,A,_⟩:=SY (P:=X.P) (T:=X.T) (note:=.none) (gl:=X.gl) (o:=l) (r:=R.of (.fn g a)) X.ok O.glob hG1 (by intro d hd;rw[hd1]at hd;cases hd;exact htf) (by rw[ho1];simp only[gA];rw[hR1.val,N];simp) trivial (by intro n y hw;cases hw);unfold wpList;rw[gm (by simp[Region.wanted,hg1])];left;refine h.wp ?_;have B:σ'.app l.dst (R.of (.fn g a))=⟨(L,.fn g a)::σ'.slots,σ'.objs,σ'.used⟩:=by rw[hd1];rfl
 rw[B]at A;unfold wpList;rw[gm (by simp[Region.wanted,hg2])];left;have hsl:=A.slots L;simp only[OA,if_true,RepV]at hsl;have⟨cv,hcv,hcl,hcr⟩:=hsl;have hun:∀n∈GA a,n∈σ'.used:=by
  intro n b;have:=A.usedS L n;simp only[OA,if_true,V.names]at this;exact this b
 have S:(execOp (a1.put l.dst v).eval Z).run X.P w2=.ok (.defer {target:=.fn (.func g) cv.toArray,args:=#[]}) w2:=by
  simp[execOp,ho2,resolve,Act.eval,hcv,Deferred.ofValue]
 unfold Oper.wp;rw[S,Oper.upon_defer];simp only[wpList];have hG3:=A.defer (f:=g) hcl hcr hun;have hput:({a1.put l.dst v with defers:={target:=.fn (.func g) cv.toArray,args:=#[]}::(a1.put l.dst v).defers}:Act).put Z.dst undef={a1.put l.dst v with defers:={target:=.fn (.func g) cv.toArray,args:=#[]}::(a1.put l.dst v).defers}:=by rw[hd2];rfl
 rw[hput];show Code.wp _ _ _ _ _;have hC':SI (X.more (GA a)) {C with defs:=(g,a)::C.defs}:=
  ⟨O.glob,O.nt,λn o b=>eh.2 (.inl (O.given n o b)),λn b=>eh.2 (.inl (O.ms n b)),λn b=>by
   refine eh.2 (.inr ?_);simpa[C,xG]using b⟩
 refine wp_mono (h1 σ' hR1 _ _ _ _ hC' hG3) ?_
 rintro e a3 w3 ⟨E3,σ3,ae,j,s,hq⟩
 have⟨k,rest,t,I,hcr3,T⟩:=j.defers.1;cases T
 --Q results and Q objects at Q end
 have qC:∀(E4:Env)(σ4:St)(a4:Act)(w4:World),a4.tmps=a3.tmps->Ga {C with defs:=(g,a)::C.defs} E4 σ4 a4 w4->DG X σ4 fn.results.toList=some (.pv x)->xB [] σ4.objs->
   ∃v,(results fn a3.tmps).run X.P w4=.ok v w4/\∃E',dI E w [] E' w4 []/\xR E' (.ret (.pv x)) (.returned v):=by
  intro E4 σ4 a4 w4 ht D h u;have⟨v,hv,hrv⟩:=uZ X.ok D h;have⟨E2,hD,hH,hEE⟩:=D.done (objs':=[]) (λm o hm=>by cases hm) u;refine⟨v,by rw[<-ht];exact hv,E2,hD,v,rfl,?_⟩;exact RepV.mono (E:=E4) (E':=E2) (by rw[hH];exact Hle.refl _) (.pv x) v b0 hrv
 have J:∀w,(invoke (.fn (.func g) k.toArray) #[]).run X.P w=.ok (.enter g k.toArray) w:=by
  intro w;have⟨fnc,hfn,hnm,z⟩:=hdir;have hb:¬fnc.body=none:=by intro e;rw[e]at z;cases z
  have F:¬fnc.name= "runtime.NumGoroutine" :=by simpa using hnm
  simp[invoke,callFunc,hfn,F,hb]
 have K:DG X σ3 fn.results.toList=some (.pv x)->xB [] σ3.objs->Leaves X.P fn a3.tmps (λe w'=>∃E',dI E w [] E' w' []/\xR E' (.ret (.pv x)) e) a3.defers .returning w3:=by
  intro h2 h3;rw[t];refine leaves_cons (f:=g) (args:=k.toArray) a8 (J w3) ?_;refine(hid w3 k I).mono ?_
  rintro e u' w' ⟨⟨r,rfl⟩,rfl,rfl⟩
  simp only[settle,Leaves];exact qC E3 σ3 a3 w' rfl j h2 h3
 cases ae with
 |normal=>cases s;exact K hq.1 hq.2
 |ret=>cases s;exact K hq.1 hq.2
 |exit i=>exact hq.elim
 |panic p=>
  obtain⟨v,rfl,hv⟩:=s;have⟨cobj,cobj',G,u,U,H,h,W⟩:=hq;have hs:=dL u;show Leaves _ _ _ _ _ _ _;rw[t];refine leaves_cons (f:=g) (args:=k.toArray) a8 (J w3) ?_;have Y:QI X.gl E3 w3 cobj:=⟨j.heap,O.glob.mono j.hle,λn o b=>j.objs n o (hs n o b),λn m o o' b hm=>j.apart n m o o' (hs n o b) (hs m o' hm)⟩;refine(G E3 w3 k v Y I hcr3 hv).mono ?_
  rintro e u' w' ⟨⟨r,rfl⟩,rfl,E5,hD⟩
  have D:=j.called (dst:=none) (x:=.undef) (v:=undef) (ment:=[]) hD hs (by intro n b;rw[U]at b;exact .inl b) a8 (by
   intro m o hm n b;have:=(BN hm).2 n b;rw[H]at this;exact .inr (.inl this)) aaa b0 a8
  exact qC E5 _ _ w' rfl D h W
theorem Rel.put{s:IS}{σ:St}(h:Rel s σ)(t:Nat)(v:V):Rel ⟨RD s.sl (some t) v,s.ob,s.nx,s.dt⟩ ⟨(t,v)::σ.slots,σ.objs,σ.used⟩:=by
 refine⟨λk=>?_,h.ob,h.us⟩;show OA ((t,v)::σ.slots) k=_;simp only[RD,Tr.get_put,OA];by_cases e:k=t
 ·simp[e]
 have a:¬t=k:=λh=>e h.symm
 simp[e,a,h.sl k]
def Za{s:Tr Ob}{R:Prop}:∀{l:List (Nat×Ob)},mS s l R->(∀p∈l,s.get p.1=some p.2)/\R
 |[],h=>⟨a8,h⟩|(n,o)::r,⟨h,b⟩=>by
  have⟨c,d⟩:=Za b;refine⟨λp a=>?_,d⟩;rcases e8.1 a with rfl|a
  ·exact h
  exact c p a
def zb{X:Env1}(b:X.T=ev.T){s:IS}{σ:St}(c:Rel s σ){a:List ResultVar}{x:V}(h:YN ev.T s a x):DG X σ a=some x:=by
 unfold YN at h;unfold DG;rw[<-YZ b c];split at h
 ·rename_i d e;rw[e,<-h];rfl
 exact h.elim
def Sv(k:IG ev P){N n l m r id:Nat}{fn:Func}{o:Oper}{c:Code}{a:List V}{co b:List (Nat×Ob)}{E:Di}{p:PV}{x:V}(h:CV ev P N n l a co m r E p x b)(B:ev.F l=some fn)(C:fn.body=some (.seq (.region id #[o] false) c))
  (d:∀R w,(execOp R o).run P w=.ok .recover w) (f:o.dst=some r) (t:o.guard=none) (u:r<fn.ntmps) (v:a.length<=fn.ntmps) (y:yF (GA a++KC co) (kA co)) (z:yF (KC b) (kA co++kA b)):HR P ev.gl l a co p b:=by
 unfold CV at h;rw[B]at h;simp only[C]at h;have⟨s,h⟩:=LB h;have⟨g,h⟩:=LB h;rw[MG]at s g;have s:=EP s;have g:=TN g;have⟨e,D,F,G,A⟩:=WC (rI k N n) _ _ _ _ h;let X:Env1:=⟨P,ev.T,ev.gl,[],fn.ntmps,kA co,k.T,k.mix⟩;have H:HX X ev P fn.ntmps m:=⟨rfl,rfl,rfl,rfl,g⟩;refine Rt (X:=X) (k.F l fn B).1 C rfl d f t u rfl v y z (x:=x) ?_;refine AWP.mono (G.awp X H _ ((Ya (args:=a) s g).put r (.pv p))) ?_
 rintro L σ' ⟨rfl,j⟩
 have key:mS D.ob b (YN ev.T D fn.results.toList x)->CN X σ' fn.results.toList (.ret x)/\xB b σ'.objs:=λh=>by
  have⟨I,J⟩:=Za h;exact⟨zb rfl j J,PN λq K=>(j.ob _).trans (I q K)⟩
 cases e with|exit i=>exact A.elim|normal=>exact key A|ret=>exact key A
structure FV(ev:SA)(P:Program)(f:Nat)(o1 o2:Oper)(co:Array Operand)(caps:List V)(tf fc:Nat):Prop where
 dir:BU P fc
 m1:o1.op=.makeFunc (.func fc) #[] co
 d1:o1.dst=some tf
 g1:o1.guard=none
 m2:o2.op=.defer {callee:=.value (.tmp tf),args:=#[],argTypes:=#[]}
 d2:o2.dst=none
 g2:o2.guard=none
 id:lZ P fc caps.length
def Ei(g:IG ev P){N n f rd i e:Nat}{args:List PV}{p r:Oper}{co:Array Operand}{a:List V}{t:Di}{k:Func->Code->IS->Di->Prop}(h:DV ev P N n f rd args p r co a i e t k)(D:FV ev P f p r co a i e){x:PV}
  (u:∀fn j s b X,HX X ev P fn.ntmps s.nx->X.nt=fn.ntmps->k fn j s b->∀σ,Rel s σ->∀Y:Env1,Y.P=P->Y.T=ev.T->Y.gl=ev.gl->AWP X j σ (Xg Y fn.results.toList e a (.pv x) [])):AC P ev.gl f (args.map .pv) [] (.ret (.pv x)) []:=by
 unfold DV at h;split at h
 ·rename_i fn v;split at h
  ·rename_i c w;have⟨y,h⟩:=LB h;have⟨z,h⟩:=LB h;have⟨m,d⟩:=g.F f fn v;let X:Env1:=⟨P,ev.T,ev.gl,[],fn.ntmps,[],g.T,g.mix⟩;have A:HX X ev P fn.ntmps 0:=⟨rfl,rfl,rfl,rfl,by simp[X]⟩;obtain⟨id,B,j,l,b,C,rfl,E,F⟩:=Ci (rI g N n) _ _ _ h;have⟨G,H⟩:=LB F;refine AC.rescue (X:=X) A m w d rfl D.dir D.m1 D.d1 D.g1 (by rwa[Nat.blt_eq]at z) D.m2 D.d2 D.g2 rfl (gi y) C E D.id ?_;intro σ1 o;exact u fn j ⟨RD l.sl (some i) (.fn e a),l.ob,l.nx,l.dt⟩ b (X.more (GA a)) ⟨rfl,rfl,rfl,rfl,λn I=>TN G n (by simpa[X,Env1.more]using I)⟩ rfl H _ (o.put i (.fn e a)) X rfl rfl rfl
  exact h.elim
 exact h.elim
def vb(d:IG ev P){N n f rd g j:Nat}{args:List PV}{k l:Oper}{co:Array Operand}{a:List V}{o:Di}{x:PV}(h:EV ev P N n f rd args k l co a g j o x)(D:FV ev P f k l co a g j):AC P ev.gl f (args.map .pv) [] (.ret (.pv x)) []:=by
 refine Ei d h D ?_;intro fn z s p X r t h σ u Y A m v;have⟨e,B,w,y,c⟩:=WC (rI d N n) _ _ _ _ h;refine AWP.mono (y.awp X r σ u) ?_
 rintro C σ' ⟨rfl,b⟩
 cases e with|exit i=>exact c.elim|normal=>exact⟨zb m b c,trivial⟩|ret=>exact⟨zb m b c,trivial⟩
def Fi(p:PV)(k:IS->List Nat->Prop):NB->St->Prop:=λa τ=>a=.panic p/\∃s ro,k s ro/\(∀n,n∉ro->jA τ.objs n=s.ob.get n)/\∀t,OA τ.slots t=(match s.sl.get t with|some v=>v|none=>.undef)
def yb{call:wC}(g:ZF ev P call){N r bs rg u:Nat}{p:PV}{k:IS->List Nat->Prop}:∀(c:Code)(s:IS)(d:Di),lS ev P call N r bs rg u p c s d k->∀X,HX X ev P r bs->∀σ,Rel s σ->AWP X c σ (Fi p k)
 |.seq a b,s,d,h,X,f,σ,i=>by
  unfold lS at h;split at h
  ·refine AWP.seq (AWP.mono (yb g a s d h X f σ i) ?_)
   rintro x σ' ⟨rfl,h⟩
   exact⟨rfl,h⟩
  have⟨e,y,j,z,t⟩:=WC g a s d _ h;refine AWP.seq (AWP.mono (z.awp X f σ i) ?_)
  rintro x σ' ⟨rfl,l⟩
  cases e with|normal=>exact yb g b y j t X f σ' l|_=>exact t.elim
 |.region id m false,s,d,h,X,f,σ,i=>by
  have⟨σ0,A,n⟩:=bV (bs:=bs) (YI m.toList) i;refine AWP.wk A ?_;intro C E a w B o;refine wp_region_list ?_;have:=Xa g _ h X f (Q:=WJ C (Fi p k)) (λE τ a w v o D h=>⟨E,τ,.panic p,o,⟨v,rfl,D⟩,rfl,h⟩) B n o;simpa using this
 |.region _ _ true,_,_,h,_,_,_,_=>h.elim|.skip,_,_,h,_,_,_,_=>h.elim|.exit _,_,_,h,_,_,_,_=>h.elim|.ret,_,_,h,_,_,_,_=>h.elim|.loop _,_,_,h,_,_,_,_=>h.elim|.label _,_,_,h,_,_,_,_=>h.elim|.rangeFunc _ _ _ _,_,_,h,_,_,_,_=>h.elim|.goto _,_,_,h,_,_,_,_=>h.elim|.refuse _,_,_,h,_,_,_,_=>h.elim|.block _ _,_,_,h,_,_,_,_=>h.elim|.scope _,_,_,h,_,_,_,_=>h.elim|.cond _ _ _,_,_,h,_,_,_,_=>h.elim
def Gi{X:Env1}(i:X.T=ev.T){j:Tr V}{co:List (Nat×Ob)}{σ:St}(f:∀t,OA σ.slots t=(match j.get t with|some v=>v|none=>.undef))(k:(kA co).Nodup)(l:∀p∈co,jA σ.objs p.1=some p.2):∀{g:List ResultVar}{d:List V},MN ev.T ⟨j,QB co .nil,0,[]⟩ g=some d->gI X σ g=some d
 |[],d,h=>h|r::g,d,h=>by
  simp only[MN]at h;split at h
  ·rename_i x A b s;have u:=Gi (X:=X) i f k l s;have w:fI X σ r=some x:=by
    cases r with
    |tmp t=>rw[<-b];simp only[LN,fI,f];rfl|cell a t=>
     simp only[LN]at b;simp only[fI,i,f];split at b
     ·rename_i B n off y z;rw[y,z];split at b
      ·rename_i m c;have c:jA co n=some (.box m):=by
        rw[GP co _ k]at c
        cases e:jA co n with|some o=>rw[e]at c;exact c|none=>rw[e]at c;cases c
       simp only[l (n,.box m) (jK c)];exact b
      cases b
     cases b
   rw[<-h];simp only[gI,w,u]
  cases h
def Tv(k:IG ev P){N n f rd rg u l i:Nat}{args:List PV}{m o:Oper}{co:Array Operand}{b:List V}{c a:List (Nat×Ob)}{v:Di}{p x:PV}(h:Bi ev P N n f rd rg u args m o co b l i c a v p x)(D:FV ev P f m o co b l i)
  (w:HR P ev.gl i b c p a) (y:kA a=kA c) (z:KC a=kA a) (r:(kA a).Nodup):AC P ev.gl f (args.map .pv) [] (.ret (.pv x)) []:=by
 refine Ei k h D ?_;intro fn M s A X B C h σ E Y F G j;refine AWP.mono (yb (rI k N n) _ _ _ h X B σ E) ?_
 rintro O τ ⟨rfl,Q,ro,H,I,J⟩
 have⟨K,L⟩:=Za H;have⟨t,d⟩:=LB L;rw[MG]at t;refine⟨c,a,by rw[F,j];exact w,PN λq g=>(I q.1 (Ma t q.1 (keysO_mem.2 ⟨_,g⟩))).trans (K q g),y,z,?_,trivial⟩
 unfold YN at d;unfold DG;split at d
 ·rename_i R e;rw[Gi (X:=Y) G (σ:=τ.eff none (dD .undef c a)) J r (λq g=>?_) e,<-d];rfl;show jA (XF τ.objs (eH c a)) q.1=_;rw[RI,vi r g]
 exact d.elim
end
end Go.Lg
